/-
 Contracts: a table is read.
-/
import Derived.Test.YtdmlhpjdmgaggaaGreatDoorLfY7ToM3
import Derived.Test.YtdmlhpjdmgaggaaGreatDoorLfM11ToM12
import Derived.Test.YtdmlhpjdmgaggaaGreatDoorLfY6ToX2
import Derived.Test.YtdmlhpjdmgaggaaGreatDoorLfU1ToU4
import Derived.Test.YtdmlhpjdmgaggaaGreatDoorLfS1aToU20
set_option linter.unusedVariables false
set_option linter.unusedSimpArgs false
set_option maxRecDepth 100000
set_option linter.unusedVariables false
set_option linter.unusedSimpArgs false
namespace Go.Lf.G
open Go
open M (atK Ag Sorted CV)
theorem AMr(a b:ByteArray):(!(sLt a b||sEq a b))=sLt b a:=by
 cases h:sLt b a with
 |true=>
  have h1:sLt a b=false:=by
   cases h2:sLt a b with
   |false=>rfl
   |true=>have:=CZ h h2;rw[Bb] at this;cases this
  have h2:sEq a b=false:=by
   rw[BZ,decide_eq_false_iff_not]
   rintro rfl
   rw[Bb] at h;cases h
  rw[h1,h2];rfl
 |false=>
  cases h1:sLt a b with
  |true=>rfl
  |false=>
   have:=K9 h1 h
   subst this
   rw[BZ];simp
theorem ADO {a b c:ByteArray}(h1:sLt a b=true)(h2:sLt c b=false):sLt a c=true:=by
 cases h:sLt a c with
 |true=>rfl
 |false=>
  cases h3:sLt c a with
  |true=>rw[CZ h3 h1] at h2;cases h2
  |false=>
   have:=K9 h h3
   subst this
   rw[h1] at h2;cases h2
theorem YM {l:List Pr}(h:Sorted l){i j:Nat}{p q:Pr}(hp:l[i]? =some p)(hq:l[j]? =some q)(hij:i<j):sLt p.key q.key=true:=by
 obtain⟨h1,rfl⟩:=List.getElem?_eq_some_iff.1 hp
 obtain⟨h2,rfl⟩:=List.getElem?_eq_some_iff.1 hq
 exact List.pairwise_iff_getElem.1 h _ _ h1 h2 hij
structure AL7 (l:List Pr) (key:ByteArray) (B:Nat):Prop where
 lt:B<BP l
 below: ∀(x:Nat) (p:Pr),x<8*B→l[x]? =some p→sLt p.key key=true
 there: ∀(x:Nat) (p:Pr),l[x]? =some p→p.key=key→8*B≤x∧x<8*B+8
theorem AMp {l:List Pr}{key:ByteArray}{k:Nat}(hs:Sorted l)(hne:l≠ [])(hk:k≤BP l)(h1: ∀j,j<k→sLt key (Gf l (8*j))=false)(h2:k<BP l→sLt key (Gf l (8*k))=true):AL7 l key (k-1):=by
 have hN:=AFE hne
 have hget: ∀j,j<BP l→ ∃q,l[8*j]? =some q∧Gf l (8*j)=q.key:=by
  intro j hj
  have:8*j<l.length:=by unfold BP at hj;omega
  exact⟨l[8*j],List.getElem?_eq_getElem this,by unfold Gf;rw[List.getElem?_eq_getElem this]⟩
 have hb: ∀(x:Nat) (p:Pr),x<8*(k-1)→l[x]? =some p→sLt p.key key=true:=by
  intro x p hx hp
  obtain⟨q,hq,e⟩:=hget (k-1) (by omega)
  have hlt:=YM hs hp hq hx
  have:=h1 (k-1) (by omega)
  rw[e] at this
  exact ADO hlt this
 refine⟨by omega,hb,fun x p hp e=>⟨?_,?_⟩⟩
 ·apply Nat.le_of_not_lt
  intro hx
  have:=hb x p hx hp
  rw[e,Bb] at this;cases this
 ·apply Nat.lt_of_not_le
  intro hx
  have hxl:=(List.getElem?_eq_some_iff.1 hp).1
  have step: ∀j,8*j≤x→j<BP l→sLt key (Gf l (8*j))=true→False:=by
   intro j hj hjn hlt
   obtain⟨q,hq,e2⟩:=hget j hjn
   rw[e2] at hlt
   rcases Nat.lt_or_ge (8*j) x with h|h
   ·have:=YM hs hq hp h
    have:=CZ hlt this
    rw[e,Bb] at this;cases this
   ·have:8*j=x:=by omega
    rw[this,hp] at hq
    cases hq
    rw[e,Bb] at hlt;cases hlt
  have hkn:k<BP l:=by unfold BP;omega
  exact step k (by omega) hkn (h2 hkn)
theorem ALh {i j:Nat}(h:i+j≤2*1099511627776):IntKind.wrap .i64 ((IntKind.wrap .u64 (IntKind.wrap .i64 (((i:Nat):Int)+((j:Nat):Int)))).fdiv ((2:Int)^(1:Nat)))=(((i+j) / 2:Nat):Int):=by
 rw[show((i:Nat):Int)+((j:Nat):Int)=((i+j:Nat):Int) by omega,Fy (by omega),CU (by omega),Nh,Fy (by omega)]
theorem AIa {A:Amb}{h:Heap}{fv:Value}{n:Nat}{p:Nat→Bool}{R:Value→Heap→Prop}(hn:n≤1099511627776)(hmono: ∀i j,i≤j→j<n→p i=true→p j=true)
  (hcall: ∀i hh,i<n→Ext h hh→FE A P fv #[.int .i64 (i:Int)] hh fun v h'=>v= .bool (p i)∧Ext hh h')
  (H: ∀k h',k≤n→(∀ j,j<k→p j=false)→(k<n→p k=true)→Ext h h'→R (.int .i64 (k:Int)) h'):AA A P J6 #[.int .i64 (n:Int),fv] h R:=by
 refine ZO ?_
 unfold NR
 refine Loop.rule (fun m x hh=> ∃i j:Nat,x=((i:Int),(j:Int),())∧m=j-i∧i≤j∧j≤n∧(∀ a,a<i→p a=false)∧(j<n→p j=true)∧Ext h hh) ?_ ⟨0,n,rfl,rfl,by omega,Nat.le_refl _,fun a ha=>by omega,fun h=>by omega,Mod.refl⟩
 rintro K m _ hh ⟨i,j,rfl,rfl,hij,hj,hlo,hhi,xx⟩ hK
 dsimp only
 refine PIf.intro (fun hq=>?_) (fun hq=>?_)
 ·have hij:i<j:=by simp at hq;omega
  rw[ALh (by omega)]
  refine Join.mk fun K1 hK1=>?_
  have hm:(i+j) / 2<n:=by omega
  refine FE.mono (hcall _ hh hm xx) ?_
  rintro v h' ⟨rfl,x'⟩
  refine⟨_,rfl,PIf.intro (fun hb=>?_) (fun hb=>?_)⟩
  ·have hb:p ((i+j) / 2)=false:=by simpa using hb
   refine hK1 _ _ ?_
   dsimp only
   rw[AR (by omega)]
   refine hK (j-((i+j) / 2+1)) _ _ (by omega) ⟨(i+j) / 2+1,j,rfl,rfl,by omega,hj,fun a ha=>?_,hhi,xx.trans x'⟩
   cases h:p a with
   |false=>rfl
   |true=>rw[hmono a _ (by omega) hm h] at hb;cases hb
  ·have hb:p ((i+j) / 2)=true:=by simpa using hb
   refine hK1 _ _ ?_
   exact hK ((i+j) / 2-i) _ _ (by omega) ⟨i,(i+j) / 2,rfl,rfl,by omega,by omega,hlo,fun _=>hb,xx.trans x'⟩
 ·have hij:i=j:=by simp at hq;omega
  subst hij
  exact H i hh hj hlo hhi xx
abbrev AEy:FuncId:=Ef
theorem AFZ {A:Amb}{h:Heap}{t lo hi:Nat}{l:List Pr}{f:List UInt8}{key:ByteArray}{R:Value→Heap→Prop}(T:TabAt h t l f lo hi)(S:YD (wraps (framesT l f)) l f)
  (H: ∀h' B,AL7 l key B→Ext h h'→R (.int .i64 (B:Int)) h'):AA A P EJ #[Aq t,.string key] h R:=by
 refine Qq ?_
 unfold IM
 refine New.mk fun h1 _ hb1 x1 hs1=>New.mk fun h2 _ hb2 x2 hs2=>?_
 have hb1':=AU x2 hb1
 have x02:=x1.trans x2
 obtain⟨fs,bs,ht,vf,vb,_,_⟩:=(T.ext x02).at_
 refine AP.mk (AC hb1' rfl) (atI ?_)
 refine AZ.mk (s:=fs) (AC ht rfl) ?_
 have hfl:fs.len=BP l:=by rw[vf.len,Fx]
 have hmany:=S.many
 have hN:BP l≤12501:=by unfold BP;omega
 rw[hfl]
 have hkey: ∀j,j<BP l→ ∃q,l[8*j]? =some q∧Gf l (8*j)=q.key:=by
  intro j hj
  have:8*j<l.length:=by unfold BP at hj;omega
  exact⟨l[8*j],List.getElem?_eq_getElem this,by unfold Gf;rw[List.getElem?_eq_getElem this]⟩
 refine AIa (p:=fun j=>sLt key (Gf l (8*j))) (by omega) (fun i j hij hj hp=>?_) (fun i hh hi xh=>?_) fun k h3 hk h1 h2' x3=>⟨_,rfl,?_⟩
 ·rcases Nat.lt_or_ge i j with h|h
  ·obtain⟨q1,e1,e2⟩:=hkey i (by omega)
   obtain⟨q2,e3,e4⟩:=hkey j hj
   have:=YM S.inc e1 e3 (by omega)
   rw[e2] at hp
   rw[e4]
   exact CZ hp this
  ·have:i=j:=by omega
   rw[this] at hp;exact hp
 ·have hcv:=FE.func (A:=A) (P:=P) (f:=AEy) (first:= #[]) (caps:= #[Aq h.size,Aq h1.size]) (args:= #[.int .i64 (i:Int)]) (h:=hh) (R:=fun v h'=>v= .bool (sLt key (Gf l (8*i)))∧Ext hh h') (by kernel_rfl) ?_
  ·exact hcv
  ·show AA A P AEy #[.int .i64 (i:Int),Aq h.size,Aq h1.size] hh _
   refine OP ?_
   unfold GL
   refine atI (AP.mk (AC (AU xh hb1') rfl) (atI ?_))
   refine AZ.mk (s:=fs) (AC (AU xh ht) rfl) ?_
   refine(vf.ext xh).idx (PI hi) fun a ha hc=>?_
   rw[Int.toNat_natCast]
   refine AL.mk hc.str (atI ?_)
   refine AL.mk (AC (AU xh hb2) rfl) ?_
   rw[AMr]
   exact⟨rfl,Mod.refl⟩
 ·have e:(if((IntKind.wrap .i64 (((k:Nat):Int)-(1:Int))):Int)>0 then(IntKind.wrap .i64 (((k:Nat):Int)-(1:Int))) else 0)=((k-1:Nat):Int):=by
   rw[wrap_i64 (by omega) (by omega)]
   split<;>omega
  rw[e]
  exact H h3 (k-1) (AMp S.inc S.ne hk h1 h2') (x02.trans x3)
def Rl(key:ByteArray)(l:List Pr):Pr×Bool:=match Ag key l with|some q=>(q,true)|none=>(M.Qh,false)
theorem ALU {l:List Pr}(hs:Sorted l){p:Pr}(hp:p∈l):Ag p.key l=some p:=by
 unfold Ag
 cases h:l.find? fun q=>decide (q.key=p.key) with
 |none=>
  have:=List.find?_eq_none.1 h p hp
  simp at this
 |some q=>
  have h1:=List.find?_some h
  have h1:q.key=p.key:=of_decide_eq_true h1
  obtain⟨i,hi⟩:=List.getElem?_of_mem (List.mem_of_find?_eq_some h)
  obtain⟨j,hj⟩:=List.getElem?_of_mem hp
  rcases Nat.lt_trichotomy i j with hij|hij|hij
  ·have:=YM hs hi hj hij
   rw[h1,Bb] at this;cases this
  ·subst hij
   rw[hi] at hj;exact hj
  ·have:=YM hs hj hi hij
   rw[h1,Bb] at this;cases this
theorem ABs {l:List Pr}{key:ByteArray}(h: ∀p∈l,p.key≠key):Ag key l=none:=by
 unfold Ag
 rw[List.find?_eq_none]
 intro p hp
 simpa using h p hp
theorem AKy {A:Amb}{h:Heap}{t lo hi:Nat}{l:List Pr}{f:List UInt8}{key:ByteArray}{R:Value→Heap→Prop}(T:TabAt h t l f lo hi)(S:YD (wraps (framesT l f)) l f)(hk:key.size≤1099511627776)
  (H: ∀h',Ext h h'→R (.tuple #[(Rl key l).1.agg,.bool (Rl key l).2]) h'):AA A P Gb #[Aq t,.string key] h R:=by
 refine Sy ?_
 unfold JG
 refine New.mk fun h1 _ hb1 x1 hs1=>?_
 have tail: ∀g x,Ext h g→g[h.size]? =some (.cells #[.string ⟨#[]⟩,.string ⟨#[]⟩,.bool false] AO (0,0))→ ∀(q:Pr) (b:Bool),Rl key l=(q,b)→x=Value.tuple #[.agg #[.string q.key,.string q.val,.bool q.gone],.bool b]→
   ∀ {c0 c1:ByteArray} {c2:Bool},c0=q.key→c1=q.val→c2=q.gone→
   Store g (⟨h.size,0,none⟩:Addr) (.string c0) fun h3=>Store h3 ((⟨h.size,0,none⟩:Addr).add 1) (.string c1) fun h4=>Store h4 ((⟨h.size,0,none⟩:Addr).add 2) (.bool c2) fun h5=>
    AL h5 (⟨h.size,0,none⟩:Addr) fun r0=>AL h5 ((⟨h.size,0,none⟩:Addr).add 1) fun r1=>Ab h5 ((⟨h.size,0,none⟩:Addr).add 2) fun r2=>R (.tuple #[.agg #[.string r0,.string r1,.bool r2],.bool b]) h5:=by
  intro g x xg hbg q b e1 e2 c0 c1 c2 d0 d1 d2
  subst d0 d1 d2
  refine Store.mk hbg (by simp) fun h3 hb3 m3 hs3=>?_
  rw[Bg,Bg]
  refine Store.mk hb3 (by simp) fun h4 hb4 m4 hs4=>?_
  refine Store.mk hb4 (by simp) fun h5 hb5 m5 hs5=>?_
  refine AL.mk (AC hb5 rfl) (AL.mk (AC hb5 rfl) (Ab.mk (AC hb5 rfl) ?_))
  have hx:Ext h h5:=⟨by have:=xg.size;omega,fun c hc _=>(m5.get c (by have:=xg.size;omega) (by omega)).trans ((m4.get c (by have:=xg.size;omega) (by omega)).trans ((m3.get c (by have:=xg.size;omega) (by omega)).trans (xg.get c hc (fun h=>h))))⟩
  have:=H h5 hx
  rw[e1] at this
  exact this
 refine Join.mk fun K hK=>?_
 refine PIf.no rfl (atI ?_)
 obtain⟨fs,bs,ht,vf,vb,_,_⟩:=(T.ext x1).at_
 refine AL.mk (AB ht rfl) ?_
 refine AKY hk ⟨_,rfl,?_⟩
 rw[IU]
 refine hK _ _ ?_
 refine PIf.intro (fun hq=>?_) (fun hq=>?_)
 ·have hq:X0 f key=false:=by simpa using hq
  have hn:Ag key l=none:=ABs fun p hp e=>by
   have:=S.has p hp
   rw[e,hq] at this;cases this
  exact tail h1 _ x1 hb1 M.Qh false (by unfold Rl;rw[hn]) rfl rfl rfl rfl
 ·refine atI (AZ.mk (s:=bs) (AB ht rfl) ?_)
  refine AFZ (T.ext x1) S fun h6 B hB x6=>⟨_,rfl,AB (AU x6 ht) rfl,?_⟩
  have hxb:((Ir l).map fun b=>AY (Aw b))[B]? =some (AY (Aw (BV l B))):=by simp[Ir,hB.lt]
  refine(vb.ext x6).idx hxb fun a1 ha1 hc1=>?_
  rw[Int.toNat_natCast]
  refine AL.mk hc1.str ?_
  have hob: ∀p∈BV l B,JW p:=fun p hp=>S.ok p (Mh hp)
  have hbp:=Nj S.ok hB.lt
  refine Zo hob (by omega) fun ps h7 op x7 bp=>⟨_,_,rfl,?_⟩
  have hpl:ps.len=(BV l B).length:=op.len
  have hbl:=OA hB.lt
  have xx7:=(x1.trans x6).trans x7
  have hb7:=AU x7 (AU x6 hb1)
  refine Loop.rule (fun m x hh=> ∃j:Nat,x=((j:Int),())∧m=(BV l B).length-j∧j≤(BV l B).length∧(∀ i p,i<j→(BV l B)[i]? =some p→p.key≠key)∧Ext h7 hh) ?_ ⟨0,rfl,rfl,by omega,fun i p hi=>by omega,Mod.refl⟩
  rintro K1 m _ h8 ⟨j,rfl,rfl,hj,hno,x8⟩ hK1
  dsimp only
  refine PIf.intro (fun hq=>?_) (fun hq=>?_)
  ·have hjl:j<(BV l B).length:=by rw[hpl] at hq;simp at hq;omega
   have hx:(BV l B)[j]? =some (BV l B)[j]:=List.getElem?_eq_getElem hjl
   have hmem:(BV l B)[j]∈l:=Mh (List.getElem_mem hjl)
   generalize (BV l B)[j]=p at hx hmem
   refine(op.ext x8).view.idx hx fun a2 ha2 hc2=>?_
   obtain⟨c0,c1,c2⟩:=hc2.pair
   rw[Int.toNat_natCast]
   refine AL.mk c0 (AL.mk c1 (Ab.mk c2 ?_))
   refine New.pair fun b1 h12 hbe hb12 x12 hs12=>?_
   refine AL.mk (AC hb12 rfl) ?_
   refine PIf.intro (fun he=>?_) (fun he=>?_)
   ·rw [BZ,decide_eq_true_iff] at he
    refine AL.mk (AC hb12 rfl) (AL.mk (AB hb12 rfl) (Ab.mk (AB hb12 rfl) ?_))
    have hf:=ALU S.inc hmem
    rw[he] at hf
    exact tail h12 _ ((xx7.trans x8).trans x12) (AU x12 (AU x8 hb7)) p true (by unfold Rl;rw[hf]) rfl rfl rfl rfl
   ·rw [BZ,decide_eq_false_iff_not] at he
    rw[AR (by omega)]
    refine hK1 ((BV l B).length-(j+1)) _ _ (by omega) ⟨j+1,rfl,rfl,hjl,fun i q hi hqq=>?_,x8.trans x12⟩
    by_cases hij:i=j
    ·rw [hij,hx] at hqq;cases hqq
     exact he
    ·exact hno i q (by omega) hqq
  ·have hjl:j=(BV l B).length:=by rw[hpl] at hq;simp at hq;omega
   have hn:Ag key l=none:=ABs fun p hp e=>by
    obtain⟨x,hx⟩:=List.getElem?_of_mem hp
    obtain⟨h1,h2⟩:=hB.there x p hx e
    have hxx:(BV l B)[x-8*B]? =some p:=by
     rw[Nn (by omega),show 8*B+(x-8*B)=x by omega];exact hx
    have:=(List.getElem?_eq_some_iff.1 hxx).1
    exact hno (x-8*B) p (by omega) hxx e
   exact tail h8 _ (xx7.trans x8) (AU x8 hb7) M.Qh false (by unfold Rl;rw[hn]) rfl rfl rfl rfl
theorem AKf {key:ByteArray}{l:List Pr}(hs:Sorted l){x:Nat}{p:Pr}(hp:l[x]? =some p):x<atK key l↔sLt p.key key=true:=M.ACv hs hp
theorem AIQ {A:Amb}{h0:Heap}{b c t lo hi:Nat}{T1 T2:TypeId}{l:List Pr}{f:List UInt8}{key:ByteArray}(hb:h0[b]? =some (.cells #[Aq t] T1 (0,0)))(hc:h0[c]? =some (.cells #[.string key] T2 (0,0)))
  (T:TabAt h0 t l f lo hi) (hhi:hi≤h0.size) (S:YD (wraps (framesT l f)) l f):
  DF A P (.func (.func En) #[] #[Aq b,Aq c]) (fun d=>(lo≤d∧d<hi)∨d=b∨d=c) h0 (l.drop (atK key l)):=by
 refine⟨?_,_,_,rfl,fun yv=>by kernel_rfl,fun h hS yv J O hy hd hB hY hJ=>?_⟩
 ·rintro d (hd|rfl|rfl)
  ·omega
  ·exact Ah hb
  ·exact Ah hc
 rw[M.ANC]
 refine Po ?_
 unfold G7
 have hbh:=(hS b (.inr (.inl rfl))).trans hb
 have hch:=(hS c (.inr (.inr rfl))).trans hc
 have hT:TabAt h t l f lo hi:=by
  obtain⟨fs,bs,h1,h2,h3,h4,h5⟩:=T.at_
  have vw: ∀ {s:Sl} {ks:List ByteArray},View F9 h0 s ks→(∀ d,s.blk=some d→lo≤d∧d<hi)→View F9 h s ks:=fun v hs=>⟨v.len,v.cap,fun i x hi=>by
   obtain⟨a,ha,hcc⟩:=v.cells i x hi
   refine⟨a,ha,fun j v hj=>?_⟩
   rw[← hcc j v hj]
   exact MC (by rw[add_block,add_block];exact hS _ (.inl (hs _ (by simp[Sl.blk,ha]))))⟩
  exact⟨⟨fs,bs,(hS t (.inl T.tlt)).trans h1,vw h2 h4,vw h3 h5,h4,h5⟩,T.tlt⟩
 have hdO: ∀d,lo≤d→d<hi→ ¬O d:=fun d h1 h2=>hd d (.inl ⟨h1,h2⟩)
 obtain⟨fs,bs,ht,vf,vb,b1,b2⟩:=hT.at_
 refine atI (AP.mk (AC hbh rfl) (PIf.no rfl (atI (AP.mk (AC hbh rfl) (atI (AZ.mk (s:=bs) (AB ht rfl) (atI (AP.mk (AC hbh rfl) (atI (AL.mk (AC hch rfl) ?_))))))))))
 refine AFZ hT S fun h1 B hBk x1=>⟨_,rfl,AB (AU x1 ht) rfl,AC (AU x1 hbh) rfl,?_⟩
 have hbl:bs.len=BP l:=by rw[vb.len];simp[FW]
 have hBlt:=hBk.lt
 refine⟨by rw[hbl];omega,?_⟩
 rw[Int.toNat_natCast,hbl]
 have hle:=M.Tj key l
 have hmany:=S.many
 have hN:BP l≤12501:=by unfold BP;omega
 have hat:8*B≤atK key l:=by
  apply Nat.le_of_not_lt
  intro hlt
  have hlen:atK key l<l.length:=by unfold BP at hBlt;omega
  obtain⟨q,hx⟩: ∃q,l[atK key l]? =some q:=⟨_,List.getElem?_eq_getElem hlen⟩
  have h1:=hBk.below _ _ hlt hx
  have h2:=(AKf S.inc hx).2 h1
  omega
 have hdl:(l.drop (atK key l)).length=l.length-atK key l:=by simp
 have hJ1:=hB.stable _ _ _ _ _ hJ (x1.weak (S':=fun b=>¬O b∧h.size≤b) fun _ _ h=>h.elim)
 have hvb:View F9 h ⟨Ao bs.p bs.cap B 1,BP l-B,bs.cap-B⟩ (((Ir l).map fun b=>AY (Aw b)).drop B):=by
  have:=vb.sub (lo:=B) (hi:=BP l) (by omega) (by simp[FW])
  rw[List.take_of_length_le (by simp[FW])] at this
  exact this
 have hvblk: ∀d,Sl.blk ⟨Ao bs.p bs.cap B 1,BP l-B,bs.cap-B⟩=some d→ ¬O d:=fun d hd'=>by
  have:=b2 d (RO hd');exact hdO d this.1 this.2
 refine Loop.rule (fun m x hh=> ∃(i:Nat) (O1:Nat→Prop),x=((i:Int),())∧m=BP l-B-i∧i≤BP l-B∧Mod O h hh∧(∀ b,O1 b→O b∨h.size≤b)∧J (min (8*(B+i)) l.length-atK key l) true O1 hh) ?_
  ⟨0,O,rfl,rfl,by omega,x1.mod,fun b hb=> .inl hb,by
   have:min (8*(B+0)) l.length-atK key l=0:=by omega
   rw[this];exact hJ1⟩
 rintro K m _ hh ⟨i,O1,rfl,rfl,hi,md,hsub,hjj⟩ hK
 dsimp only
 refine PIf.intro (fun hq=>?_) (fun hq=>?_)
 ·have hil:i<BP l-B:=by simp at hq;omega
  have hin:B+i<BP l:=by omega
  have h8:8*(B+i)<l.length:=by unfold BP at hin;omega
  have hxb:(((Ir l).map fun b=>AY (Aw b)).drop B)[i]? =some (AY (Aw (BV l (B+i)))):=by rw[List.getElem?_drop];simp[Ir,hin]
  refine(hvb.mod md hvblk).idx hxb fun a5 ha5 hc5=>?_
  rw[Int.toNat_natCast]
  refine AL.mk hc5.str ?_
  have hob: ∀p∈BV l (B+i),JW p:=fun p hp=>S.ok p (Mh hp)
  have hbp:=Nj S.ok hin
  have hbl8:=OA hin
  refine Zo hob (by omega) fun ps h3 op x3 bp=>⟨_,_,rfl,?_⟩
  have hpl:ps.len=(BV l (B+i)).length:=op.len
  have hmin:min (8*(B+i)) l.length=8*(B+i):=by omega
  rw[hmin] at hjj
  have szm:=md.size
  have hOlt:=hB.wf _ _ _ _ hjj
  have hJ3:=hB.stable _ _ _ _ _ hjj (x3.weak (S':=fun b=>¬O1 b∧h.size≤b) fun _ _ h=>h.elim)
  have md3:Mod O h h3:=md.trans x3.mod
  refine Loop.rule (fun m x hh4=> ∃(j:Nat) (O2:Nat→Prop),x=((j:Int),())∧m=(BV l (B+i)).length-j∧j≤(BV l (B+i)).length∧Mod O h hh4∧(∀ b,O2 b→O b∨h.size≤b)∧(∀ d,ps.blk=some d→ ¬O2 d∧d<hh4.size)∧View Ak hh4 ps (BV l (B+i))∧J (8*(B+i)+j-atK key l) true O2 hh4) ?_
   ⟨0,O1,rfl,rfl,by omega,md3,hsub,fun d hd'=>⟨fun h=>by have:=bp d hd';have:=hOlt d h;omega,op.lt hd'⟩,op.view,hJ3⟩
  rintro K1 m _ h4 ⟨j,O2,rfl,rfl,hj,md4,hsub2,hpb,vp,hj4⟩ hK1
  dsimp only
  refine PIf.intro (fun hq=>?_) (fun hq=>?_)
  ·have hjl:j<(BV l (B+i)).length:=by rw[hpl] at hq;simp at hq;omega
   have hx:(BV l (B+i))[j]? =some (BV l (B+i))[j]:=List.getElem?_eq_getElem hjl
   have hxl:l[8*(B+i)+j]? =some (BV l (B+i))[j]:=by rw[← Nn (by omega)];exact hx
   generalize (BV l (B+i))[j]=p at hx hxl
   refine vp.idx hx fun a6 ha6 hc6=>?_
   obtain⟨c0,c1,c2⟩:=hc6.pair
   rw[Int.toNat_natCast]
   refine AL.mk c0 (AL.mk c1 (Ab.mk c2 ?_))
   refine New.pair fun b' h8' hbe hb8 x8 hs8=>?_
   have md8:Mod O h h8':=md4.trans x8.mod
   have sz4:=md4.size
   have hJ8:=hB.stable _ _ _ _ _ hj4 (x8.weak (S':=fun b=>¬O2 b∧h.size≤b) fun _ _ h=>h.elim)
   have hch8:h8'[c]? =some (.cells #[.string key] T2 (0,0)):=md8.blk hch (hd c (.inr (.inr rfl)))
   refine Join.mk fun K2 hK2=>?_
   refine AL.mk (AC hb8 rfl) (atI (AL.mk (AC hch8 rfl) ?_))
   have hxlen:=(List.getElem?_eq_some_iff.1 hxl).1
   have hiff:=AKf (key:=key) S.inc hxl
   refine PIf.intro (fun hlt=>?_) (fun hlt=>?_)
   ·have hge:atK key l≤8*(B+i)+j:=by
     apply Nat.le_of_not_lt
     intro hh
     rw[hiff.1 hh] at hlt;cases hlt
    refine AL.mk (AC hb8 rfl) (AL.mk (AB hb8 rfl) (Ab.mk (AB hb8 rfl) ?_))
    have hget:(l.drop (atK key l))[8*(B+i)+j-atK key l]? =some p:=by
     rw[List.getElem?_drop,show atK key l+(8*(B+i)+j-atK key l)=8*(B+i)+j by omega];exact hxl
    refine FE.mono (hY _ p O2 h8' hget hJ8) ?_
    rintro _ h10 ⟨g,O3,rfl,hsub3,m10,hj10⟩
    have sz8:=md8.size
    have hsubO3: ∀b,O3 b→O b∨h.size≤b:=fun b hb=>(hsub3 b hb).elim (hsub2 b) fun h1=> .inr (by omega)
    have md10:Mod O h h10:=md8.then (m10.weak fun b _ hb=>hsub2 b hb)
    refine⟨g,rfl,hK2 _ _ ?_⟩
    dsimp only
    cases g with
    |false=>exact PIf.yes rfl ⟨rfl,_,false,O3,md10,hsubO3,hj10,(fun h=>by cases h),by rw[hdl];omega⟩
    |true=>
     refine PIf.no rfl ?_
     rw[AR (by omega)]
     refine hK1 ((BV l (B+i)).length-(j+1)) _ _ (by omega) ⟨j+1,O3,rfl,rfl,hjl,md10,hsubO3,fun d hd'=>⟨fun h=>?_,by have:=hpb d hd';have:=x8.size;have:=m10.size;omega⟩,?_,?_⟩
     ·rcases hsub3 d h with h|h
      ·exact(hpb d hd').1 h
      ·have:=(hpb d hd').2;have:=x8.size;omega
     ·exact(vp.ext x8).mod m10 fun d hd'=>(hpb d hd').1
     ·rw [show 8*(B+i)+(j+1)-atK key l=8*(B+i)+j-atK key l+1 by omega];exact hj10
   ·have hlt':sLt p.key key=true:=by simpa using hlt
    have hge:=hiff.2 hlt'
    refine hK2 _ _ (PIf.no rfl ?_)
    rw[AR (by omega)]
    refine hK1 ((BV l (B+i)).length-(j+1)) _ _ (by omega) ⟨j+1,O2,rfl,rfl,hjl,md8,hsub2,fun d hd'=>⟨(hpb d hd').1,by have:=(hpb d hd').2;have:=x8.size;omega⟩,vp.ext x8,?_⟩
    rw[show 8*(B+i)+(j+1)-atK key l=8*(B+i)+j-atK key l by omega];exact hJ8
  ·have hjl:j=(BV l (B+i)).length:=by rw[hpl] at hq;simp at hq;omega
   rw[AR (by omega)]
   refine hK (BP l-B-(i+1)) _ _ (by omega) ⟨i+1,O2,rfl,rfl,by omega,md4,hsub2,?_⟩
   have hend:min (8*(B+(i+1))) l.length=8*(B+i)+j:=by
    rw[hjl]
    unfold BV
    rw[List.length_take,List.length_drop]
    omega
   rw[hend];exact hj4
 ·have hil:i=BP l-B:=by simp at hq;omega
  have hend:min (8*(B+i)) l.length=l.length:=by rw[hil,show B+(BP l-B)=BP l by omega];unfold BP;omega
  rw[hend] at hjj
  exact⟨rfl,l.length-atK key l,true,O1,md,hsub,hjj,fun _=>hdl.symm,by rw[hdl];omega⟩
theorem AD0 {A:Amb}{h:Heap}{t lo hi:Nat}{l:List Pr}{f:List UInt8}{key:ByteArray}{R:Value→Heap→Prop}(T:TabAt h t l f lo hi)(hhi:hi≤h.size)(S:YD (wraps (framesT l f)) l f)
  (H: ∀fv h',DF A P fv (fun d=>(lo≤d∧d<hi)∨d=h.size∨d=h.size+1) h' (l.drop (atK key l))→Ext h h'→h'.size=h.size+2→R fv h'):AA A P EY #[Aq t,.string key] h R:=by
 refine Ra ?_
 unfold Ik
 refine New.mk fun h1 _ hb1 x1 hs1=>New.mk fun h2 _ hb2 x2 hs2=>?_
 have x02:Ext h h2:=x1.trans x2
 have hh:=AIQ (A:=A) (AU x2 hb1) hb2 (T.ext x02) (by have:=x02.size;omega) S (key:=key)
 refine H _ h2 (hh.weak ?_ ?_ (fun c _=>rfl)) x02 (by omega)
 ·rintro d (hd|rfl|rfl)
  ·exact .inl hd
  ·exact .inr (.inl rfl)
  ·exact .inr (.inr hs1)
 ·rintro d (hd|rfl|rfl)
  ·have:=x02.size;omega
  ·omega
  ·omega
end Go.Lf.G

/-
 Contracts: a log opened; added to, synced, rotated, dropped (chapter 4).
-/
set_option maxRecDepth 100000
set_option linter.unusedVariables false
set_option linter.unusedSimpArgs false
namespace Go.Lf.G
open Go
def rdF(l:List Fi)(k:ByteArray):Nat:=match BR k l with|none=>0|some f=>f.firm.size+f.soft.size
theorem AB0 {k:ByteArray}{f:Fi}{l:List Fi}:BR k (f::l)=if f.name=k then some f else BR k l:=by rw[Dg]
theorem AGj(k:ByteArray): ∀l:List Fi,rdF l k+wtF (NE k l)≤wtF l
 | []=>by simp[rdF,BR,NE,wtF]
 |f::l=>by
  have ih:=AGj k l
  have hw:wtF (f::l)=f.firm.size+f.soft.size+1+wtF l:=by simp[wtF]
  by_cases h:f.name=k
  ·have h1:rdF (f::l) k=f.firm.size+f.soft.size:=by unfold rdF;rw[AB0,if_pos h]
   have h2:NE k (f::l)=NE k l:=by simp[NE,h]
   rw[h1,h2,hw];omega
  ·have h1:rdF (f::l) k=rdF l k:=by unfold rdF;rw[AB0,if_neg h]
   have h2:NE k (f::l)=f::NE k l:=by simp[NE,h]
   have h3:wtF (f::NE k l)=f.firm.size+f.soft.size+1+wtF (NE k l):=by simp[wtF]
   rw[h1,h2,h3,hw];omega
theorem AKr: ∀(ks:List ByteArray),ks.Nodup→ ∀l:List Fi,(ks.map (rdF l)).sum≤wtF l
 | [],_,l=>by simp
 |k::ks,hnd,l=>by
  rw[List.nodup_cons] at hnd
  have ih:=AKr ks hnd.2 (NE k l)
  have e:ks.map (rdF (NE k l))=ks.map (rdF l):=List.map_congr_left fun x hx=>by
   unfold rdF
   rw[VL,if_neg (fun h=>by subst h;exact hnd.1 hx)]
  rw[e] at ih
  have:=AGj k l
  simp only[List.map_cons,List.sum_cons]
  omega
def rdB(m:Bx)(nm:ByteArray)(n:Nat):ByteArray:=(Qz m (fnB nm n)).1
noncomputable def PS (nm:ByteArray) (m:Bx) (l:List Nat):List ByteArray:=l.flatMap fun n=>(ABS (bl (rdB m nm n))).map AY
theorem AHU {m:Bx}(hd:m.down=false)(k:ByteArray):(Qz m k).1.size=rdF m.files k:=by
 unfold Qz rdF
 rw[if_neg (by simp[hd])]
 cases BR k m.files with
 |none=>rfl
 |some f=>simp[ByteArray.size_append]
theorem ZI {nm:ByteArray}{m:Bx}(hd:m.down=false){l:List Nat}(hl:l.Pairwise (· < ·)):(PS nm m l).length≤wtF m.files:=by
 have h1:(PS nm m l).length≤((l.map (fnB nm)).map (rdF m.files)).sum:=by
  unfold PS
  clear hl
  induction l with
  |nil=>simp
  |cons n l ih=>
   have h2:=ADe (ZZ (bl (rdB m nm n)))
   rw[Be,rdB,AHU hd] at h2
   simp only[List.flatMap_cons,List.length_append,List.length_map,List.map_cons,List.sum_cons] at ih ⊢
   unfold rdB at ih ⊢
   omega
 refine Nat.le_trans h1 (AKr _ ?_ _)
 refine List.pairwise_map.2 (hl.imp fun {a c} h e=>?_)
 have:=GZ e
 omega
theorem AHH {A:Amb}{h:Heap}{b:Nat}{S:Nat→Prop}{m:Bx}{nm:ByteArray}{R:Value→Heap→Prop}(E:Evn h)(B:BU h b S m)(hd:m.down=false)(h0:0<nm.size)(h8:nm.size≤8)(hw:wtF m.files≤8000000000000)
  (H0: ∀h' l,AKQ nm m l→l.getLast?.getD 0=99999999→Ext h h'→R (.tuple #[.pointer none,.slice none 0 0,.int .i64 2]) h')
  (H1: ∀h' l lg sl,AKQ nm m l→l.getLast?.getD 0≠99999999→Ext h h'→h.size≤lg→h'[lg]? =some (.cells #[Aq b,.string nm,.int .i64 ((l.getLast?.getD 0+1:Nat):Int),.bool false] WR (0,0))→View F9 h' sl (PS nm m l)→
   (∀ c,sl.blk=some c→h.size≤c∧c≠lg)→R (.tuple #[Aq lg,.slice sl.p sl.len sl.cap,.int .i64 0]) h'):AA A P MB #[Aq b,.string nm] h R:=by
 refine AES ?_
 unfold TP
 refine PIf.no rfl (Join.mk fun K hK=>?_)
 have hne:sEq nm (⟨#[]⟩:ByteArray)=false:=by
  rw[BZ,decide_eq_false_iff_not]
  rintro rfl
  have:(⟨#[]⟩:ByteArray).size=0:=rfl
  omega
 rw[hne]
 refine PIf.no rfl (hK _ _ (PIf.no (by simp;omega) ?_))
 refine WX E B hd (by omega) hw fun h2 s2 l SL v2 x2 _=>⟨s2,_,rfl,PIf.no rfl ?_⟩
 have hsz0:l.length≤99999999:=by
  have h1: ∀(l:List Nat) (k:Nat),l.Pairwise (· < ·)→(∀ n∈l,k<n∧n≤99999999)→l.length+k≤99999999∨l= []:=by
   intro l
   induction l with
   |nil=>intro k _ _;exact .inr rfl
   |cons a l ih=>
    intro k hp hr
    rw[List.pairwise_cons] at hp
    have ha:=hr a (by simp)
    rcases ih a hp.2 (fun n hn=>⟨hp.1 n hn,(hr n (List.mem_cons_of_mem _ hn)).2⟩) with h|h
    ·left;simp only[List.length_cons];omega
    ·subst h;left;simp;omega
  rcases h1 l 0 SL.inc (fun n hn=>by have:=(SL.mem n).1 hn;omega) with h|h
  ·omega
  ·subst h;simp
 refine Loop.rule (fun mm x hh=> ∃(i:Nat) (sl:Sl),x=(sl,(((l.take i).getLast?.getD 0:Nat):Int),(i:Int),())∧Ext h2 hh∧Own F9 Ad hh sl (PS nm m (l.take i))∧(∀ c,sl.blk=some c→h2.size≤c)∧i≤l.length∧mm=l.length-i) ?_
  ⟨0,⟨none,0,0⟩,rfl,Mod.refl,Own.nil,fun c hc=>by simp[Sl.blk] at hc,Nat.zero_le _,rfl⟩
 rintro K1 mm _ hh ⟨i,sl,rfl,xh,o,f,hi,rfl⟩ hK1
 have hlen:(l.map fun n:Nat=>(n:Int)).length=l.length:=List.length_map ..
 rw[v2.len,hlen]
 refine PIf.intro (fun hq=>?_) (fun hq=>?_)
 ·have hil:i<l.length:=by simpa using hq
  have hget:l[i]? =some l[i]:=List.getElem?_eq_getElem hil
  have hmem:l[i]∈l:=List.getElem_mem hil
  obtain⟨n1,n9,hfn⟩:=(SL.mem l[i]).1 hmem
  have htk:l.take (i+1)=l.take i++ [l[i]]:=by rw[List.take_add_one,hget];rfl
  have hlast:(l.take (i+1)).getLast?.getD 0=l[i]:=by rw[htk,List.getLast?_concat];rfl
  have hrec:PS nm m (l.take (i+1))=PS nm m (l.take i)++(ABS (bl (rdB m nm l[i]))).map AY:=by
   rw[htk];unfold PS;rw[List.flatMap_append];simp
  have hcnt:=ZI (nm:=nm) (m:=m) hd (l:=l.take (i+1)) (SL.inc.sublist (List.take_sublist _ _))
  rw[hrec,List.length_append,List.length_map] at hcnt
  rw[← hlen,←v2.len]
  refine(v2.ext xh).idx (i:=i) (x:=(l[i]:Int)) (by rw[List.getElem?_map,hget];rfl) fun a _ c=>?_
  refine Aa.mk c.int ?_
  have x2h:=x2.trans xh
  refine Uc (E.ext x2h) (by omega) (by omega) fun h4 x4=>⟨_,rfl,?_⟩
  refine YF ((B.ext x2h).ext x4) ⟨_,_,rfl,?_⟩
  have hr2:(Qz m (fnB nm l[i])).2=0:=by
   unfold Qz
   rw[if_neg (by simp[hd])]
   cases hf:BR (fnB nm l[i]) m.files with
   |none=>rw[hf] at hfn;cases hfn
   |some f=>rfl
  rw[hr2]
  refine PIf.no rfl ?_
  have hsize:(Qz m (fnB nm l[i])).1.size≤8000000000000:=by
   rw[AHU hd]
   have:=AGj (fnB nm l[i]) m.files
   omega
  refine AKS hsize fun h6 s6 n6 x6 v6=>⟨s6,_,rfl,?_⟩
  refine Gx (E:=F9) AFO ((o.ext x4).ext x6) v6 (by rw[List.length_map];unfold rdB at hcnt;omega) (by rw[List.length_map];unfold rdB at hcnt;simp[maxLen];omega) fun s' h7 o7 m7 b7 n7=>?_
  dsimp only
  rw[AR (by omega)]
  refine hK1 (l.length-(i+1)) _ _ (by omega) ⟨i+1,s',?_,((xh.trans x4).trans x6).more m7 f,?_,fun c hc=>?_,hil,rfl⟩
  ·rw [hlast]
  ·rw [hrec];exact o7
  ·rcases b7 c hc with h|h
   ·exact f c h
   ·have:=xh.size;have:=x4.size;have:=x6.size;omega
 ·have hil:i=l.length:=by simp at hq;omega
  subst hil
  rw[List.take_length] at o ⊢
  refine PIf.intro (fun q=>?_) (fun q=>?_)
  ·have q:l.getLast?.getD 0=99999999:=by simp at q;omega
   exact H0 hh l SL q (x2.trans xh)
  ·have q:l.getLast?.getD 0≠99999999:=by simp at q;omega
   have hb:l.getLast?.getD 0≤99999999:=by
    cases hg:l.getLast? with
    |none=>simp
    |some n=>
     have:=(SL.mem n).1 (List.mem_of_getLast? hg)
     simp;omega
   refine New.mk fun h8 _ hb8 x8 hs8=>?_
   dsimp only at hb8 ⊢
   rw[AR (by omega)] at hb8
   refine H1 h8 l hh.size sl SL q ((x2.trans xh).trans x8) (by have:=x2.size;have:=xh.size;omega) hb8 (o.ext x8).view fun c hc=>by have:=f c hc;have:=x2.size;have:=o.lt hc;omega
def DI(h:Heap)(lg b:Nat)(nm:ByteArray)(seg:Nat)(made:Bool):Prop:=h[lg]? =some (.cells #[Aq b,.string nm,.int .i64 (seg:Int),.bool made] WR (0,0))
theorem DI.mod {h h':Heap}{lg b:Nat}{nm:ByteArray}{seg:Nat}{made:Bool}{S:Nat→Prop}(L:DI h lg b nm seg made)(x:Mod S h h')(hS: ¬S lg):DI h' lg b nm seg made:=x.blk L hS
theorem DI.ext {h h':Heap}{lg b:Nat}{nm:ByteArray}{seg:Nat}{made:Bool}(L:DI h lg b nm seg made)(x:Ext h h'):DI h' lg b nm seg made:=x.blk L (fun h=>h)
theorem SI {A:Amb}{h:Heap}{lg b seg:Nat}{nm rec:ByteArray}{made:Bool}{S:Nat→Prop}{m:Bx}{R:Value→Heap→Prop}(E:Evn h)(L:DI h lg b nm seg made)(B:BU h b S m)(hS: ¬S lg)(hE: ∀h',Mod S h h'→Evn h')(hnm:nm.size≤1099511627776)(hseg:seg≤4294967295)(hr:rec.size≤1048576)(hw:wtF m.files≤8000000000000)
  (H: ∀h' S',BU h' b S' (Cm m (fnB nm seg) (AY (CE (bl rec)))).2→DI h' lg b nm seg (made||decide ((Cm m (fnB nm seg) (AY (CE (bl rec)))).1=0))→Mod (fun c=>S c∨c=lg) h h'→(∀ c,S' c→S c∨(h.size≤c∧c≠lg))→R (.int .i64 (Cm m (fnB nm seg) (AY (CE (bl rec)))).1) h'):
  AA A P ES #[Aq lg,.string rec] h R:=by
 refine VJ ?_
 unfold Jb
 refine PIf.no rfl ?_
 have hlt:=Ah L
 have hlen:(bl rec).length≤1048576:=by rw[Be];exact hr
 have hwl:=GH hlen
 rw[Be] at hwl
 have e0:rec=AY (bl rec):=(Mf rec).symm
 have go:AA A P Es #[.string rec] h fun v h1=> ∃t12a:ByteArray,∃t12b:Int,v= .tuple #[.string t12a,.int .i64 t12b]∧(t12a=AY (CE (bl rec))∧t12b=0∧Ext h h1):=by
  rw[e0]
  refine Yd (by rw[Mf] at *;omega) (fun h1=>by rw[Mf] at *;omega) fun _ h1 x1=>⟨_,_,rfl,?_,rfl,x1⟩
  rw[Mf]
 refine AA.mono go ?_
 rintro v h1 ⟨wa,wb,rfl,rfl,rfl,x1⟩
 refine⟨_,_,rfl,PIf.no rfl ?_⟩
 have L1:=L.ext x1
 refine atI (AP.mk (AC L1 rfl) (atI (AL.mk (AB L1 rfl) (atI (Aa.mk (AB L1 rfl) ?_)))))
 refine Uc (E.ext x1) hseg hnm fun h2 x2=>⟨_,rfl,?_⟩
 have x02:=x1.trans x2
 have L2:=L.ext x02
 refine⟨AC L2 rfl,?_⟩
 refine Zz (B.ext x02) (by rw[AQ];omega) fun h3 S3 B3 m3 s3=>⟨_,rfl,?_⟩
 have L3:DI h3 lg b nm seg made:=L2.mod m3 hS
 have hx:=x02.size
 have hs3: ∀c,S3 c→S c∨(h.size≤c∧c≠lg):=fun c hc=>(s3 c hc).imp id fun h=>⟨by omega,by omega⟩
 have m03:Mod (fun c=>S c∨c=lg) h h3:=(Ext.mod x02).trans (m3.weak fun c _ hc=> .inl hc)
 refine PIf.intro (fun q=>?_) (fun q=>?_)
 ·have q:(Cm m (fnB nm seg) (AY (CE (bl rec)))).1≠0:=by simpa using q
  exact H h3 S3 B3 (by rw[decide_eq_false q,Bool.or_false];exact L3) m03 hs3
 ·have q:(Cm m (fnB nm seg) (AY (CE (bl rec)))).1=0:=by simpa using q
  refine atI (Store.mk1 L3 (by simp) fun h4 hb4 m4 hs4=>?_)
  have nS3: ¬S3 lg:=fun hc=>by rcases s3 lg hc with h|h;exact hS h;omega
  have:=H h4 S3 (B3.mod m4 fun c hc e=>nS3 (e▸hc)) (by rw[decide_eq_true q,Bool.or_true];simpa [DI] using hb4) (m03.then (m4.weak fun c _ hc=> .inl (.inr hc))) hs3
  rw[q] at this
  exact this
def JZ(m:Bx)(k:ByteArray)(made:Bool):Int×Bx:=if made then Eu m k else(0,m)
theorem Yz {A:Amb}{h:Heap}{lg b seg:Nat}{nm:ByteArray}{made:Bool}{S:Nat→Prop}{m:Bx}{R:Value→Heap→Prop}(E:Evn h)(L:DI h lg b nm seg made)(B:BU h b S m)(hS: ¬S lg)(hnm:nm.size≤1099511627776)(hseg:seg≤4294967295)
  (H: ∀h',BU h' b S (JZ m (fnB nm seg) made).2→DI h' lg b nm seg made→Mod S h h'→R (.int .i64 (JZ m (fnB nm seg) made).1) h'):
  AA A P Fb #[Aq lg] h R:=by
 refine Wz ?_
 unfold ML
 refine PIf.no rfl (atI (Ab.mk (AB L rfl) ?_))
 cases made with
 |false=>exact PIf.yes rfl (H h B L Mod.refl)
 |true=>
  refine PIf.no rfl (atI (AP.mk (AC L rfl) (atI (AL.mk (AB L rfl) (atI (Aa.mk (AB L rfl) ?_))))))
  refine Uc E hseg hnm fun h1 x1=>⟨_,rfl,⟨AC (L.ext x1) rfl,?_⟩⟩
  refine AE9 (B.ext x1) fun h2 B2 m2=>⟨_,rfl,?_⟩
  exact H h2 B2 ((L.ext x1).mod m2 hS) ((Ext.mod x1).trans m2)
theorem TS {A:Amb}{h:Heap}{lg b seg:Nat}{nm:ByteArray}{made:Bool}{S:Nat→Prop}{m:Bx}{R:Value→Heap→Prop}(E:Evn h)(L:DI h lg b nm seg made)(B:BU h b S m)(hS: ¬S lg)(hnm:nm.size≤1099511627776)(hseg:seg<99999999)
  (H0:(JZ m (fnB nm seg) made).1≠0→ ∀h',BU h' b S (JZ m (fnB nm seg) made).2→DI h' lg b nm seg made→Mod S h h'→R (.tuple #[.int .i64 0,.int .i64 (JZ m (fnB nm seg) made).1]) h')
  (H1:(JZ m (fnB nm seg) made).1=0→ ∀h',BU h' b S (JZ m (fnB nm seg) made).2→DI h' lg b nm (seg+1) false→Mod (fun c=>S c∨c=lg) h h'→R (.tuple #[.int .i64 (seg:Int),.int .i64 0]) h'):
  AA A P ER #[Aq lg] h R:=by
 refine UL ?_
 unfold Jv
 refine PIf.no rfl (atI (Aa.mk (AB L rfl) (PIf.no (by simp;omega) ?_)))
 refine Yz E L B hS hnm (by omega) fun h1 B1 L1 m1=>⟨_,rfl,?_⟩
 refine PIf.intro (fun q=>?_) (fun q=>?_)
 ·exact H0 (by simpa using q) h1 B1 L1 m1
 ·have q:(JZ m (fnB nm seg) made).1=0:=by simpa using q
  refine atI (Aa.mk (AB L1 rfl) ?_)
  rw[AR (by omega)]
  refine atI (Store.mk1 L1 (by simp) fun h2 hb2 m2 hs2=>?_)
  refine atI (Store.mk1 hb2 (by simp) fun h3 hb3 m3 hs3=>?_)
  have L3:DI h3 lg b nm (seg+1) false:=by simpa [DI] using hb3
  refine atI (Aa.mk (AB L3 rfl) ?_)
  have e:IntKind.wrap .i64 (((seg+1:Nat):Int)-1)=(seg:Int):=by rw[wrap_i64 (by omega) (by omega)];omega
  rw[e]
  have md:=m2.trans m3
  exact H1 q h3 (B1.mod md fun c hc e=>hS (e▸hc)) L3 ((m1.weak fun c _ hc=> .inl hc).trans (md.weak fun c _ hc=> .inr hc))
end Go.Lf.G

/-
 Contracts: the document's box behind a crash; lists of strings alike; a box that is awake.
-/
set_option maxRecDepth 100000
set_option linter.unusedVariables false
set_option linter.unusedSimpArgs false
namespace Go.Lf.G
open Go
end Go.Lf.G

/-
 The plain law of a box, file by file: firm and soft bytes.
-/
set_option maxRecDepth 100000
set_option linter.unusedVariables false
set_option linter.unusedSimpArgs false
namespace Go.Lf
open Go
def ff(m:Bx)(k:ByteArray):Option (ByteArray×ByteArray):=(BR k m.files).map fun f=>(f.firm,f.soft)
theorem RD {m:Bx}{k:ByteArray}:(BR k m.files).isSome=(ff m k).isSome:=by unfold ff;cases BR k m.files<;>rfl
theorem ACj {m:Bx}(hd:m.down=false)(k:ByteArray):Qz m k=match ff m k with|none=>(bs0,31)|some p=>(p.1++p.2,0):=by
 unfold Qz ff
 rw[if_neg (by simp[hd])]
 cases BR k m.files<;>rfl
theorem ACU(m:Bx)(l:List Fi)(k:ByteArray):ff {FX m with files:=l} k=(BR k l).map fun f=>(f.firm,f.soft):=rfl
theorem AGs {k x:ByteArray}(l:List Fi):BR x (QC k l)=if x=k then some ((BR k l).getD ⟨k,bs0,bs0⟩) else BR x l:=by
 unfold QC
 cases hf:BR k l with
 |some f=>
  simp only[Option.isSome_some,if_true]
  by_cases hx:x=k
  ·subst hx;simp[hf]
  ·rw [if_neg hx]
 |none=>
  rw[if_neg (by simp),AA6 (fun y hy=>ME hf y hy)]
  by_cases hx:x=k
  ·subst hx;simp
  ·rw [if_neg hx,if_neg (fun h=>hx h.symm)]
def Goes(m:Bx):Prop:=m.down=false∧m.fuel≠0
theorem ABv {m:Bx}(g:Goes m){k d:ByteArray}(hk:JP k=false):(Cm m k d).1=0∧ ∀x,ff (Cm m k d).2 x=if x=k then some (((ff m k).getD (bs0,bs0)).1,((ff m k).getD (bs0,bs0)).2++d) else ff m x:=by
 unfold Cm
 rw[if_neg (by simp[g.1]),if_neg (by simp[hk]),if_neg g.2]
 refine⟨rfl,fun x=>?_⟩
 rw[ACU,WK (g:=OZ d) (fun _=>rfl),AGs]
 unfold ff
 by_cases hx:x=k
 ·subst hx
  rw[if_pos rfl,if_pos rfl]
  cases hf:BR x m.files with
  |none=>simp[OZ]
  |some f=>
   have:=(Gz hf).1
   simp[OZ,this]
 ·rw [if_neg hx,if_neg hx]
  cases hf:BR x m.files with
  |none=>rfl
  |some f=>
   have:=(Gz hf).1
   simp only[Option.map_some]
   rw[if_neg (by rw[this];exact hx)]
theorem AG4 {m:Bx}(g:Goes m){k:ByteArray}{p:ByteArray×ByteArray}(hk:ff m k=some p):(Eu m k).1=0∧ ∀x,ff (Eu m k).2 x=if x=k then some (p.1++p.2,bs0) else ff m x:=by
 have hf: ∃f,BR k m.files=some f∧(f.firm,f.soft)=p:=by
  unfold ff at hk
  cases hf:BR k m.files with
  |none=>rw[hf] at hk;cases hk
  |some f=>rw[hf] at hk;exact⟨f,rfl,Option.some.inj hk⟩
 obtain⟨f,hf,rfl⟩:=hf
 unfold Eu
 rw[if_neg (by simp[g.1]),if_neg (by simp[hf]),if_neg g.2]
 refine⟨rfl,fun x=>?_⟩
 rw[ACU,WK (g:=PQ) (fun _=>rfl)]
 by_cases hx:x=k
 ·subst hx
  have:=(Gz hf).1
  rw[if_pos rfl,hf]
  simp[PQ,this]
 ·rw [if_neg hx]
  unfold ff
  cases hf2:BR x m.files with
  |none=>rfl
  |some f2=>
   have:=(Gz hf2).1
   simp only[Option.map_some]
   rw[if_neg (by rw[this];exact hx)]
theorem AH6 {m:Bx}(g:Goes m){k:ByteArray}(hk:(ff m k).isSome=true):(FI m k).1=0∧ ∀x,ff (FI m k).2 x=if x=k then none else ff m x:=by
 have hf:(BR k m.files).isNone=false:=by
  rw[← RD] at hk
  cases hf:BR k m.files with
  |none=>rw[hf] at hk;cases hk
  |some f=>rfl
 unfold FI
 rw[if_neg (by simp[g.1]),if_neg (by simp[hf]),if_neg g.2]
 refine⟨rfl,fun x=>?_⟩
 rw[ACU,VL]
 split<;>rfl
theorem AIs {m:Bx}(l:List Fi):({FX m with files:=l}:Bx).down=m.down:=by
 show(FX m).down=m.down
 unfold FX;split<;>rfl
def Calm(m:Bx):Prop:=m.down=false∧m.fuel= -1
theorem Calm.goes {m:Bx}(c:Calm m):Goes m:=⟨c.1,by rw[c.2];decide⟩
theorem ABO {m:Bx}(c:Calm m):FX m=m:=by unfold FX;rw[if_neg (by rw[c.2];decide)]
theorem AEF {m:Bx}(c:Calm m)(k d:ByteArray):Calm (Cm m k d).2:=by
 unfold Cm
 rw[if_neg (by simp[c.1])]
 split
 ·exact c
 ·rw [if_neg (by rw[c.2];decide),ABO c];exact⟨c.1,c.2⟩
theorem AId {m:Bx}(c:Calm m)(k:ByteArray):Calm (Eu m k).2:=by
 unfold Eu
 rw[if_neg (by simp[c.1])]
 split
 ·exact c
 ·rw [if_neg (by rw[c.2];decide),ABO c];exact⟨c.1,c.2⟩
theorem XV {ks:List Int}: ∀ {l:List Fi} {k:Nat} {x:ByteArray},BR x l=none→BR x (Ct ks k l)=none:=by
 intro l k x h
 refine QX fun f hf e=>?_
 obtain⟨f',h1,h2⟩:=MH hf
 exact ME h f' h1 (h2.trans e)
theorem AHu: ∀ {l l':List Nat},l.Pairwise (· < ·)→l'.Pairwise (· < ·)→(∀ n,n∈l↔n∈l')→l=l'
 | [],[],_,_,_=>rfl
 | [],b::l',_,_,h=>by have:=(h b).2 (by simp);cases this
 |a::l,[],_,_,h=>by have:=(h a).1 (by simp);cases this
 |a::l,b::l',h1,h2,h=>by
  rw[List.pairwise_cons] at h1 h2
  have hab:a=b:=by
   rcases List.mem_cons.1 ((h a).1 (by simp)) with e|e
   ·exact e
   ·rcases List.mem_cons.1 ((h b).2 (by simp)) with e2|e2
    ·exact e2.symm
    ·have:=h2.1 a e;have:=h1.1 b e2;omega
  subst hab
  have:l=l':=AHu h1.2 h2.2 fun n=>by
   constructor
   ·intro hn
    rcases List.mem_cons.1 ((h n).1 (List.mem_cons_of_mem _ hn)) with e|e
    ·have:=h1.1 n hn;omega
    ·exact e
   ·intro hn
    rcases List.mem_cons.1 ((h n).2 (List.mem_cons_of_mem _ hn)) with e|e
    ·have:=h2.1 n hn;omega
    ·exact e
  rw[this]
end Go.Lf

/-
 Contracts: a log's segments dropped; what a log holds; a log that is awake (chapter 4).
-/
set_option maxRecDepth 100000
set_option linter.unusedVariables false
set_option linter.unusedSimpArgs false
namespace Go.Lf.G
open Go
theorem ALK {nm:ByteArray}{m:Bx}{l:List Nat}{R:Nat→List ByteArray}(hd:m.down=false)(h: ∀n∈l,∃p,ff m (fnB nm n)=some p∧KY (bl (p.1++p.2)) ((R n).map bl)):PS nm m l=l.flatMap R:=by
 unfold PS
 induction l with
 |nil=>rfl
 |cons n l ih=>
  obtain⟨p,h1,h2⟩:=h n (by simp)
  rw[List.flatMap_cons,List.flatMap_cons,ih fun k hk=>h k (List.mem_cons_of_mem _ hk)]
  congr 1
  have e:rdB m nm n=p.1++p.2:=by unfold rdB;rw[ACj hd,h1]
  rw[e,AKb h2,List.map_map]
  conv=>rhs;rw[← List.map_id (R n)]
  exact List.map_congr_left fun x _=>Mf x
theorem ADY {nm:ByteArray}{n:Nat}(h8:nm.size≤8)(hn:n≤99999999):JP (fnB nm n)=false:=by
 have h1:=AKM (nm:=nm) hn
 unfold JP
 rw[Bool.or_eq_false_iff,decide_eq_false_iff_not,decide_eq_false_iff_not]
 refine⟨fun h=>?_,by omega⟩
 rw[h] at h1
 have:bs0.size=0:=rfl
 omega
theorem AJk {nm:ByteArray}{m:Bx}{l:List Nat}(SL:AKQ nm m l):l.length≤99999999:=by
 have h1: ∀(l:List Nat) (k:Nat),l.Pairwise (· < ·)→(∀ n∈l,k<n∧n≤99999999)→l.length+k≤99999999∨l= []:=by
  intro l
  induction l with
  |nil=>intro k _ _;exact .inr rfl
  |cons a l ih=>
   intro k hp hr
   rw[List.pairwise_cons] at hp
   have ha:=hr a (by simp)
   rcases ih a hp.2 (fun n hn=>⟨hp.1 n hn,(hr n (List.mem_cons_of_mem _ hn)).2⟩) with h|h
   ·left;simp only[List.length_cons];omega
   ·subst h;left;simp;omega
 rcases h1 l 0 SL.inc (fun n hn=>by have:=(SL.mem n).1 hn;omega) with h|h
 ·omega
 ·subst h;simp
end Go.Lf.G

/-
 A log over a calm box, step by step; a log that is awake (chapter 4).
-/
set_option maxRecDepth 100000
set_option linter.unusedVariables false
set_option linter.unusedSimpArgs false
namespace Go.Lf.G
open Go
structure Lw (h:Heap) (lg b:Nat) (nm:ByteArray) (hh:Heap) (S:Nat→Prop) (m:Bx) (seg:Nat) (made:Bool):Prop where
 box:BU hh b S m
 log:DI hh lg b nm seg made
 ext:Ext h hh
 fresh: ∀c,S c→h.size≤c∧c≠lg
 lgn:h.size≤lg
theorem Lw.nS {h:Heap}{lg b:Nat}{nm:ByteArray}{hh:Heap}{S:Nat→Prop}{m:Bx}{seg:Nat}{made:Bool}(W:Lw h lg b nm hh S m seg made): ¬S lg:=fun hc=>(W.fresh _ hc).2 rfl
theorem Lw.on {h:Heap}{lg b:Nat}{nm:ByteArray}{hh h2:Heap}{S:Nat→Prop}{m:Bx}{seg:Nat}{made:Bool}(W:Lw h lg b nm hh S m seg made)(x:Ext hh h2):Lw h lg b nm h2 S m seg made:=
 ⟨W.box.ext x,W.log.ext x,W.ext.trans x,W.fresh,W.lgn⟩
theorem Lw.env {h:Heap}{lg b:Nat}{nm:ByteArray}{hh h2:Heap}{S:Nat→Prop}{m:Bx}{seg:Nat}{made:Bool}(W:Lw h lg b nm hh S m seg made)(E:Evn h)(x:Mod S hh h2):Evn h2:=E.ext (W.ext.more x fun c hc=>(W.fresh c hc).1)
theorem Lw.upd {h:Heap}{lg b:Nat}{nm:ByteArray}{hh h2:Heap}{S S2:Nat→Prop}{m m2:Bx}{seg seg2:Nat}{made made2:Bool}(W:Lw h lg b nm hh S m seg made)(B:BU h2 b S2 m2)(L:DI h2 lg b nm seg2 made2)(x:Mod (fun c=>S c∨c=lg) hh h2)(s: ∀c,S2 c→S c∨(hh.size≤c∧c≠lg)):Lw h lg b nm h2 S2 m2 seg2 made2:=by
 have hx:=W.ext.size
 refine⟨B,L,W.ext.more x fun c hc=>?_,fun c hc=>?_,W.lgn⟩
 ·rcases hc with hc|rfl
  ·exact(W.fresh c hc).1
  ·exact W.lgn
 ·rcases s c hc with h|h
  ·exact W.fresh c h
  ·exact⟨by omega,h.2⟩
def frm(rec:ByteArray):ByteArray:=AY (CE (bl rec))
theorem AI3 {rec:ByteArray}(h:rec.size≤1048576):rec.size+5≤(frm rec).size∧(frm rec).size≤rec.size+14:=by
 have:=GH (r:=bl rec) (by rw[Be];exact h)
 rw[Be] at this
 rw[frm,AQ]
 exact this
theorem Lw.append {A:Amb}{h:Heap}{lg b:Nat}{nm rec:ByteArray}{hh:Heap}{S:Nat→Prop}{m:Bx}{seg:Nat}{made:Bool}{R:Value→Heap→Prop}(W:Lw h lg b nm hh S m seg made)(E:Evn h)(c:Calm m)(h8:nm.size≤8)(hseg:seg≤99999999)(hr:rec.size≤1048576)(hw:wtF m.files≤8000000000000)
  (H: ∀h' S' m',Lw h lg b nm h' S' m' seg true→Calm m'→(∀ x,ff m' x=if x=fnB nm seg then some (((ff m (fnB nm seg)).getD (bs0,bs0)).1,((ff m (fnB nm seg)).getD (bs0,bs0)).2++frm rec) else ff m x)→wtF m'.files≤wtF m.files+rec.size+15→
   Mod (fun c=>S c∨c=lg) hh h'→(∀ c,S' c→S c∨(hh.size≤c∧c≠lg))→R (.int .i64 0) h'):AA A P ES #[Aq lg,.string rec] hh R:=by
 refine SI (E.ext W.ext) W.log W.box W.nS (fun h' x=>W.env E x) (by omega) (by omega) hr hw fun h' S' B' L' md s'=>?_
 obtain⟨e1,e2⟩:=ABv c.goes (k:=fnB nm seg) (d:=frm rec) (ADY h8 hseg)
 have e1':(Cm m (fnB nm seg) (AY (CE (bl rec)))).1=0:=e1
 rw[e1'] at L' ⊢
 rw[decide_eq_true rfl,Bool.or_true] at L'
 have hwt:=RA W.box.good (fnB nm seg) (frm rec)
 have hfs:=AI3 hr
 exact H h' S' _ (W.upd B' L' md s') (AEF c _ _) e2 (Nat.le_trans hwt (by omega)) md s'
theorem Lw.sync {A:Amb}{h:Heap}{lg b:Nat}{nm:ByteArray}{hh:Heap}{S:Nat→Prop}{m:Bx}{seg:Nat}{made:Bool}{R:Value→Heap→Prop}(W:Lw h lg b nm hh S m seg made)(E:Evn h)(c:Calm m)(h8:nm.size≤8)(hseg:seg≤99999999)(hm:made=true→(ff m (fnB nm seg)).isSome=true)
  (H: ∀h' m',Lw h lg b nm h' S m' seg made→Calm m'→(∀ x,ff m' x=if x=fnB nm seg∧made=true then(ff m x).map (fun p=>(p.1++p.2,bs0)) else ff m x)→wtF m'.files≤wtF m.files→Mod S hh h'→R (.int .i64 0) h'):AA A P Fb #[Aq lg] hh R:=by
 refine Yz (E.ext W.ext) W.log W.box W.nS (by omega) (by omega) fun h' B' L' md=>?_
 cases made with
 |false=>
  exact H h' m (W.upd B' L' (md.weak fun c _ hc=> .inl hc) fun c hc=> .inl hc) c (fun x=>by rw[if_neg (by simp)]) (Nat.le_refl _) md
 |true=>
  obtain⟨p,hp⟩:=Option.isSome_iff_exists.1 (hm rfl)
  obtain⟨e1,e2⟩:=AG4 c.goes hp
  have e1':(JZ m (fnB nm seg) true).1=0:=e1
  rw[e1']
  refine H h' _ (W.upd B' L' (md.weak fun c _ hc=> .inl hc) fun c hc=> .inl hc) (AId c _) (fun x=>?_) (VC W.box.good _) md
  show ff (Eu m (fnB nm seg)).2 x=_
  rw[e2]
  by_cases hx:x=fnB nm seg
  ·subst hx;rw[if_pos rfl,if_pos ⟨rfl,rfl⟩,hp];rfl
  ·rw [if_neg hx,if_neg (fun h=>hx h.1)]
abbrev nx:ByteArray:=⟨#[120]⟩
end Go.Lf.G

/-
 What a store's files hold (chapter 9): plain law: segments, notes, tables, a crash.
-/
set_option maxRecDepth 100000
set_option linter.unusedVariables false
set_option linter.unusedSimpArgs false
namespace Go.Lf.G
open Go
open M (Sorted Ag DR BJ Ai BD CV Ap OkL Ba)
abbrev Fls:=ByteArray→Option (ByteArray×ByteArray)
abbrev nl:ByteArray:=⟨#[108]⟩
abbrev nn:ByteArray:=⟨#[110]⟩
abbrev nt:ByteArray:=⟨#[116]⟩
def tfN(n:Nat):ByteArray:=nt++AY (Lib.decDigits n)
theorem Sz(n:Nat):bl (tfN n)=116::Lib.decDigits n:=by
 show(nt++AY (Lib.decDigits n)).data.toList=_
 rw[ByteArray.data_append,Array.toList_append]
 show [116]++(AY (Lib.decDigits n)).data.toList=_
 rw[show(AY (Lib.decDigits n)).data.toList=Lib.decDigits n from Cz _];rfl
theorem H7 {n k:Nat}(h:tfN n=tfN k):n=k:=by
 have h1:=congrArg bl h
 rw[Sz,Sz] at h1
 have h2:Lib.decDigits n=Lib.decDigits k:=by injection h1
 have h3:=(UH n).2
 rw[h2,(UH k).2] at h3
 exact h3.symm
theorem OI(n:Nat):(bl (fnB nl n)).head? =some 108:=by rw[Oe];rfl
theorem Pp(n:Nat):(bl (fnB nn n)).head? =some 110:=by rw[Oe];rfl
theorem Zi(n:Nat):(bl (tfN n)).head? =some 116:=by rw[Sz];rfl
theorem R3(n k:Nat):fnB nl n≠fnB nn k:=fun h=>by have:=OI n;rw[h,Pp] at this;cases this
theorem Jc(n k:Nat):fnB nl n≠tfN k:=fun h=>by have:=OI n;rw[h,Zi] at this;cases this
theorem Ld(n k:Nat):fnB nn n≠tfN k:=fun h=>by have:=Pp n;rw[h,Zi] at this;cases this
def Mine(x:ByteArray):Prop:=(∃ n,x=fnB nl n)∨(∃ n,x=fnB nn n)∨ ∃n,x=tfN n
def Hd(F G:Fls):Prop:= ∀x,match F x with
 |none=>G x=none
 |some p=> ∃j,G x=if p.1++p.2.extract 0 j=bs0 then none else some (p.1++p.2.extract 0 j,bs0)
theorem ANH(s:ByteArray):s.extract 0 0=bs0:=by
 have:(s.extract 0 0).size=0:=by simp
 have h2:=Mf (s.extract 0 0)
 have h3:bl (s.extract 0 0)= []:=OG this
 rw[h3] at h2
 exact h2.symm
theorem ALO(j:Nat):bs0.extract 0 j=bs0:=by
 have:(bs0.extract 0 j).size=0:=by
  have:bs0.size=0:=rfl
  rw[ByteArray.size_extract];omega
 have h2:=Mf (bs0.extract 0 j)
 have h3:bl (bs0.extract 0 j)= []:=OG this
 rw[h3] at h2
 exact h2.symm
theorem AKc(ks:List Int)(k:Nat)(f:Fi): ∃j,Nc ks k f=f.firm++f.soft.extract 0 j:=by
 unfold Nc
 split
 ·rename_i h;exact⟨0,by rw[ANH,Od]⟩
 ·split
  ·exact⟨_,rfl⟩
  ·exact⟨0,by rw[ANH,Od]⟩
theorem Xr {ks:List Int}: ∀ {l:List Fi} {k:Nat} (x:ByteArray),Dn l→match BR x l with
  |none=>BR x (Ct ks k l)=none
  |some f=> ∃j,BR x (Ct ks k l)=if f.firm++f.soft.extract 0 j=bs0 then none else some ⟨f.name,f.firm++f.soft.extract 0 j,bs0⟩
 | [],k,x,_=>rfl
 |f::l,k,x,s=>by
  have s':=List.pairwise_cons.1 s
  have ih:=Xr (ks:=ks) (k:=Mg k f) x s'.2
  unfold Ct AAU
  rw[Dg]
  by_cases hx:f.name=x
  ·rw [if_pos hx]
   obtain⟨j,hj⟩:=AKc ks k f
   refine⟨j,?_⟩
   rw[← hj]
   by_cases hb:Nc ks k f=bs0
   ·rw [if_pos hb,if_pos hb,List.nil_append]
    refine XV (QX fun g hg e=>?_)
    exact Ko (s'.1 g hg) (hx.trans e.symm)
   ·rw [if_neg hb,if_neg hb,List.singleton_append,Dg,if_pos hx]
  ·rw [if_neg hx]
   by_cases hb:Nc ks k f=bs0
   ·rw [if_pos hb,List.nil_append];exact ih
   ·rw [if_neg hb,List.singleton_append,Dg,if_neg hx];exact ih
theorem AFS {m:Bx}(g:DY m)(ks:List Int):Hd (ff m) (ff (TD m ks)):=by
 intro x
 have h:=Xr (ks:=ks) (k:=0) x g.sorted
 cases hf:BR x m.files with
 |none=>
  rw[hf] at h
  have e:ff m x=none:=by unfold ff;rw[hf];rfl
  have h:BR x (Ct ks 0 m.files)=none:=h
  rw[e]
  show(BR x (Ct ks 0 m.files)).map _=none
  rw[h];rfl
 |some f=>
  rw[hf] at h
  obtain⟨j,hj⟩:=h
  have e:ff m x=some (f.firm,f.soft):=by unfold ff;rw[hf];rfl
  rw[e]
  refine⟨j,?_⟩
  show(BR x (Ct ks 0 m.files)).map _=_
  rw[hj]
  split<;>rfl
def Kk(a b:Option (ByteArray×ByteArray)):Prop:=b=a∨(a=some (bs0,bs0)∧b=none)
theorem Hd.firm {F G:Fls}(c:Hd F G){x:ByteArray}(h: ∀p,F x=some p→p.2=bs0):Kk (F x) (G x):=by
 have:=c x
 cases hf:F x with
 |none=>rw[hf] at this;exact .inl this
 |some p=>
  rw[hf] at this
  obtain⟨j,hj⟩:=this
  have hp:=h p hf
  obtain⟨p1,p2⟩:=p
  simp only at hp
  subst hp
  simp only[ALO,Od] at hj
  by_cases h0:p1=bs0
  ·subst h0;rw[if_pos rfl] at hj;exact .inr ⟨rfl,hj⟩
  ·rw [if_neg h0] at hj;exact .inl hj
structure Tg (F:Fls) (nm:ByteArray) (top:Nat) (R:Nat→List (List UInt8)):Prop where
 has: ∀n p,1≤n→n≤99999999→F (fnB nm n)=some p→p.2=bs0∧KY (bl p.1) (R n)
 non: ∀n,1≤n→n≤99999999→F (fnB nm n)=none→R n= []
 out: ∀n,top≤n→n≤99999999→F (fnB nm n)=none
 far: ∀n,(n=0∨top≤n)→R n= []
def Ij {α:Type}(R:Nat→α)(s:Nat)(v:α):Nat→α:=fun n=>if n=s then v else R n
theorem Ca {α:Type}{R:Nat→α}{s:Nat}{v:α}:Ij R s v s=v:=if_pos rfl
theorem Dk {α:Type}{R:Nat→α}{s n:Nat}{v:α}(h:n≠s):Ij R s v n=R n:=if_neg h
theorem Yo {rs:List (List UInt8)}(h:KY [] rs):rs= []:=h.uniq (.stop Qr)
theorem Tg.put {F G:Fls}{nm:ByteArray}{top top':Nat}{R:Nat→List (List UInt8)}(h:Tg F nm top R){s:Nat}{v:List (List UInt8)}(hs:1≤s∧s≤99999999)(ht:s<top')(hk: ∀n,1≤n→n≤99999999→n≠s→Kk (F (fnB nm n)) (G (fnB nm n)))
  (hv:(G (fnB nm s)=none∧v= [])∨ ∃x,G (fnB nm s)=some (x,bs0)∧KY (bl x) v) (htt:top≤top'):Tg G nm top' (Ij R s v):=by
 refine⟨fun n p n1 n9 hg=>?_,fun n n1 n9 hg=>?_,fun n hn n9=>?_,fun n hn=>?_⟩
 ·by_cases e:n=s
  ·subst e
   rw[Ca]
   rcases hv with⟨h1,_⟩|⟨x,h1,h2⟩
   ·rw [h1] at hg;cases hg
   ·rw [h1] at hg;cases hg;exact⟨rfl,h2⟩
  ·rw [Dk e]
   rcases hk n n1 n9 e with h1|⟨h1,h2⟩
   ·exact h.has n p n1 n9 (h1▸hg)
   ·rw [h2] at hg;cases hg
 ·by_cases e:n=s
  ·subst e
   rw[Ca]
   rcases hv with⟨_,h1⟩|⟨x,h1,_⟩
   ·exact h1
   ·rw [h1] at hg;cases hg
  ·rw [Dk e]
   rcases hk n n1 n9 e with h1|⟨h1,h2⟩
   ·exact h.non n n1 n9 (h1▸hg)
   ·obtain⟨_,h3⟩:=h.has n _ n1 n9 h1
    exact Yo h3
 ·have e:n≠s:=by omega
  rcases hk n (by omega) n9 e with h1|⟨h1,h2⟩
  ·rw [h1];exact h.out n (by omega) n9
  ·exact h2
 ·have e:n≠s:=by omega
  rw[Dk e];exact h.far n (by omega)
theorem Tg.keep {F G:Fls}{nm:ByteArray}{top:Nat}{R:Nat→List (List UInt8)}(h:Tg F nm top R)(ht:1≤top)(hk: ∀n,1≤n→n≤99999999→Kk (F (fnB nm n)) (G (fnB nm n))):Tg G nm top R:=by
 refine⟨fun n p n1 n9 hg=>?_,fun n n1 n9 hg=>?_,fun n hn n9=>?_,h.far⟩
 ·rcases hk n (by omega) n9 with h1|⟨h1,h2⟩
  ·exact h.has n p n1 n9 (h1▸hg)
  ·rw [h2] at hg;cases hg
 ·rcases hk n (by omega) n9 with h1|⟨h1,h2⟩
  ·exact h.non n n1 n9 (h1▸hg)
  ·obtain⟨_,h3⟩:=h.has n _ n1 n9 h1
   exact Yo h3
 ·rcases hk n (by omega) n9 with h1|⟨h1,h2⟩
  ·rw [h1];exact h.out n hn n9
  ·exact h2
theorem Tg.up {F:Fls}{nm:ByteArray}{top top':Nat}{R:Nat→List (List UInt8)}(h:Tg F nm top R)(ht:top≤top'):Tg F nm top' R:=
 ⟨h.has,h.non,fun n hn=>h.out n (by omega),fun n hn=>h.far n (by omega)⟩
theorem Tg.drop {F G:Fls}{nm:ByteArray}{top:Nat}{R R':Nat→List (List UInt8)}(h:Tg F nm top R)(hk: ∀n,n≤99999999→(G (fnB nm n)=F (fnB nm n)∧R' n=R n)∨(G (fnB nm n)=none∧R' n= []))(hf: ∀n,(n=0∨top≤n)→R' n= []):Tg G nm top R':=by
 refine⟨fun n p n1 n9 hg=>?_,fun n n1 n9 hg=>?_,fun n hn n9=>?_,hf⟩
 ·rcases hk n n9 with⟨h1,h2⟩|⟨h1,h2⟩
  ·rw [h2];exact h.has n p n1 n9 (h1▸hg)
  ·rw [h1] at hg;cases hg
 ·rcases hk n n9 with⟨h1,h2⟩|⟨h1,h2⟩
  ·rw [h2];exact h.non n n1 n9 (h1▸hg)
  ·exact h2
 ·rcases hk n n9 with⟨h1,h2⟩|⟨h1,h2⟩
  ·rw [h1];exact h.out n hn n9
  ·exact h1
theorem AHm {rs:List (List UInt8)}{r:List UInt8}(hs: ∀x∈rs++ [r],x.length≤1048576)(j:Nat):KY (bl (AY (wraps rs)++(AY (CE r)).extract 0 j)) rs∨KY (bl (AY (wraps rs)++(AY (CE r)).extract 0 j)) (rs++ [r]):=by
 have e:bl (AY (wraps rs)++(AY (CE r)).extract 0 j)=wraps rs++(CE r).take j:=by
  show(AY (wraps rs)++(AY (CE r)).extract 0 j).data.toList=_
  rw[ByteArray.data_append,Array.toList_append,ByteArray.data_extract,Array.toList_extract]
  rw[show(AY (wraps rs)).data.toList=wraps rs from Cz _,show(AY (CE r)).data.toList=CE r from Cz _]
  simp
 rw[e]
 by_cases hj:j<(CE r).length
 ·exact .inl (O0 (fun x hx=>hs x (by simp[hx])) (AIl (hs r (by simp)) hj))
 ·right
  rw[List.take_of_length_le (by omega)]
  have:=O0 (rs:=rs++ [r]) hs (t:= []) Qr
  simpa using this
structure Nt where
 next:Nat
 frm:Nat
 names:List Nat
def Cv(x:Nt):List UInt8:=CK x.next++CK x.frm++CK x.names.length++x.names.flatMap CK
structure YG (x:Nt):Prop where
 next:x.next≤99999999
 frm:1≤x.frm∧x.frm≤99999999
 cnt:x.names.length≤60000
 below: ∀n∈x.names,n<x.next
 nd:x.names.Nodup
structure VG (b:List Pr):Prop where
 len:b.length≤64
 ok: ∀x∈b,JW x
theorem RH: ∀ {l:List Nat},(∀ n∈l,n≤99999999)→(l.flatMap CK).length≤l.length*10
 | [],_=>by simp
 |n::l,h=>by
  have h1:=Af (n:=n) (by have:=h n (by simp);omega)
  have h2:=RH (l:=l) fun k hk=>h k (List.mem_cons_of_mem _ hk)
  simp only[List.flatMap_cons,List.length_append,List.length_cons];omega
theorem AEx {x:Nt}(h:YG x):(Cv x).length≤30+x.names.length*10:=by
 have h1:=Af (n:=x.next) (by have:=h.next;omega)
 have h2:=Af (n:=x.frm) (by have:=h.frm;omega)
 have h3:=Af (n:=x.names.length) (by have:=h.cnt;omega)
 have h4:=RH (l:=x.names) fun n hn=>by have:=h.below n hn;have:=h.next;omega
 simp only[Cv,List.length_append];omega
theorem WM {s:Nat}{b:List Pr}(hs:s≤99999999)(h:VG b):(A8 s b).length≤20+64*8276:=by
 have h1:=Af (n:=s) (by omega)
 have h2:=Af (n:=b.length) (by have:=h.len;omega)
 have h3:=Jm h.ok
 have h4:=h.len
 have h5:b.length*8276≤64*8276:=Nat.mul_le_mul_right _ h4
 simp only[A8,List.length_append];omega
structure BO where
 L:Nat→List (List Pr)
 N:Nat→List Nt
 T:Nat→List Pr
 ltop:Nat
 ntop:Nat
def Kh(D:BO):List Nt:=(List.range D.ntop).flatMap D.N
def Ac(D:BO):Nt:=(Kh D).getLast?.getD ⟨1,1,[]⟩
def F3(D:BO):List (List Pr):=(List.range D.ltop).flatMap fun n=>if n<(Ac D).frm then [] else D.L n
def DK(D:BO):List Pr:=BJ [] (F3 D).flatten
def mapD(D:BO):List Pr:=Ba (Ai (DK D::(Ac D).names.map D.T))
structure Ar (F:Fls) (D:BO):Prop where
 log:Tg F nl D.ltop fun n=>(D.L n).map (A8 n)
 note:Tg F nn D.ntop fun n=>(D.N n).map Cv
 tab: ∀n∈(Ac D).names,F (tfN n)=some (AY (Hq (D.T n)),bs0)∧FR (D.T n)
 bat: ∀n b,b∈D.L n→VG b
 nts: ∀n x,x∈D.N n→YG x
 tonly: ∀x,F x≠none→(bl x).head? =some 116→ ∃n,x=tfN n
 tops:1≤D.ltop∧D.ltop≤99999999∧1≤D.ntop∧D.ntop≤99999999
theorem AEJ {F:Fls}{D:BO}(h:Ar F D):YG (Ac D):=by
 unfold Ac
 cases hl:(Kh D).getLast? with
 |none=>exact⟨by simp,by simp,by simp,by simp,by simp⟩
 |some x=>
  have:=List.mem_of_getLast? hl
  obtain⟨n,_,hn⟩:=List.mem_flatMap.1 this
  exact h.nts n x hn
theorem AMw {l:List Pr}(t:FR l):AY (Hq l)≠bs0:=fun h4=>by
 have h5:Hq l= []:=by
  have:=congrArg bl h4
  rw[IU] at this
  exact this
 have h6:framesT l (KD l)≠ []:=by simp[framesT]
 unfold Hq at h5
 cases hfr:framesT l (KD l) with
 |nil=>exact h6 hfr
 |cons r rs=>
  rw[hfr] at h5
  have h7:(CE r).length=0:=by
   have h8:=congrArg List.length h5
   rw[Tf,List.length_append] at h8
   simp at h8
   simp[h8.1]
  have h9:=(GH (r:=r) (Kq t.tabS r (by rw[hfr];simp))).1
  omega
theorem Q5 {a b:Option (ByteArray×ByteArray)}{l:List Pr}(k:Kk a b)(t:FR l)(h:a=some (AY (Hq l),bs0)):b=some (AY (Hq l),bs0):=by
 rcases k with h3|⟨h3,_⟩
 ·exact h3.trans h
 ·rw [h] at h3
  injection h3 with h3
  exact absurd (Prod.mk.inj h3).1 (AMw t)
theorem Ar.same {F G:Fls}{D:BO}(h:Ar F D)(hl: ∀n,1≤n→n≤99999999→Kk (F (fnB nl n)) (G (fnB nl n)))(hn: ∀n,1≤n→n≤99999999→Kk (F (fnB nn n)) (G (fnB nn n)))(ht: ∀n∈(Ac D).names,Kk (F (tfN n)) (G (tfN n)))
  (ho: ∀x,G x≠none→F x≠none∨ ∃n,x=tfN n):Ar G D:=by
 refine⟨h.log.keep h.tops.1 hl,h.note.keep h.tops.2.2.1 hn,fun n hm=>?_,h.bat,h.nts,fun x hx hd=>?_,h.tops⟩
 ·obtain⟨h1,h2⟩:=h.tab n hm
  exact⟨Q5 (ht n hm) h2 h1,h2⟩
 ·rcases ho x hx with h1|h1
  ·exact h.tonly x h1 hd
  ·exact h1
theorem Ar.crash {F G:Fls}{D:BO}(h:Ar F D)(c:Hd F G):Ar G D:=by
 refine h.same (fun n n1 n9=>c.firm fun p hp=>(h.log.has n p n1 n9 hp).1) (fun n n1 n9=>c.firm fun p hp=>(h.note.has n p n1 n9 hp).1) (fun n hm=>c.firm fun p hp=>?_) fun x hx=> .inl fun hf=>hx ?_
 ·rw [(h.tab n hm).1] at hp;cases hp;rfl
 ·have:=c x;rw[hf] at this;exact this
end Go.Lf.G

