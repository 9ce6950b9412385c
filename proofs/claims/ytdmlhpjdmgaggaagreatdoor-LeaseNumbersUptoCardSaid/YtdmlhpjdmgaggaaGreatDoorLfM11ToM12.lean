/-
 The skip list: putting.
-/
import Derived.Test.YtdmlhpjdmgaggaaGreatDoorLfM4ToM10
set_option linter.unusedVariables false
set_option linter.unusedSimpArgs false
set_option maxRecDepth 100000
namespace Go.Lf.G.M
open Go Go.Lf Go.Lf.G
theorem AKX {z:Int}(h1: -9223372036854775808≤z)(h2:z≤9223372036854775807):IntKind.wrap .i64 z=z:=by
 have e:IntKind.wrap .i64 z=if z % 18446744073709551616≥9223372036854775808 then z % 18446744073709551616-18446744073709551616 else z % 18446744073709551616:=by
  simp[IntKind.wrap,IntKind.bits,IntKind.signed]
 rw[e]
 split<;>omega
theorem atI {a:Addr}{K:Addr→Prop}(h:K a):At (some a) K:=h
theorem AIY {A:Amb}{h:Heap}{key:ByteArray}{R:Value→Heap→Prop}(hk:key.size≤64)(H: ∀k:Nat,1≤k→k≤12→R (.int .i64 (k:Int)) h):AA A P LF #[.string key] h R:=by
 refine AAE ?_
 unfold Om
 refine Loop.rule (fun m x h1=> ∃(i:Nat) (y:Int),x=(y,(i:Int),())∧h1=h∧m=key.size-i∧i≤key.size) ?_ ⟨0,2166136261,rfl,rfl,rfl,by omega⟩
 rintro K m _ h1 ⟨i,y,rfl,hh,rfl,hi⟩ hK
 subst hh
 refine PIf.intro (fun hq=>?_) (fun hq=>?_)
 ·have hi':i<key.size:=by simp at hq;omega
  refine⟨⟨by show(0:Int)≤(i:Int);omega,by show(i:Int)<_;omega⟩,hK (key.size-(i+1)) _ _ (by omega) ⟨i+1,_,by rw[AR (by omega)],rfl,rfl,by omega⟩⟩
 ·refine Loop.rule (fun m x h2=> ∃(i:Nat) (y:Int),x=(y,(i:Int),())∧h2=h1∧m=12-i∧1≤i∧i≤12) ?_ ⟨1,_,rfl,rfl,rfl,by omega,by omega⟩
  rintro K1 m _ h2 ⟨i,y,rfl,hh,rfl,hi1,hi2⟩ hK1
  subst hh
  refine Join.mk fun K2 hK2=>?_
  have hend:K2 (false,()) h2:=hK2 _ _ (PIf.no rfl (H i hi1 hi2))
  refine PIf.intro (fun hq=>?_) (fun hq=>hend)
  have hi3:i<12:=by simp at hq;omega
  cases hb:((Pb .u32 y (3:Int))==(0:Int))
  ·exact hend
  ·exact hK2 _ _ (PIf.yes rfl (hK1 (12-(i+1)) _ _ (by omega) ⟨i+1,_,by rw[AR (by omega)],rfl,rfl,by omega,by omega⟩))
theorem Le(i:Nat)(A B:List CX):CS i (A++B)=(CS i A).or (CS i B):=by
 unfold CS;rw[List.find?_append];cases A.find? (fun x=>decide (i<x.ht))<;>rfl
theorem AEX {i:Nat}{l:List CX}(h: ∀x∈l,x.ht≤i):CS i l=none:=by
 unfold CS
 rw[List.find?_eq_none.2 (fun x hx=>by have:=h x hx;simp;omega)];rfl
theorem AFn {i:Nat}{l:List CX}{x:CX}(hx:x∈l)(h:i<x.ht): ∃a,CS i l=some a:=by
 cases hf:CS i l with
 |some a=>exact⟨a,rfl⟩
 |none=>have:=VF hf x hx;omega
theorem OL {ns:List CX}(hts: ∀x∈ns,1≤x.ht∧x.ht≤12)(p:Nat):CS 0 (ns.drop p)=(ns[p]?).map fun x=>⟨x.blk,0,none⟩:=by
 cases hp:ns[p]? with
 |none=>rw[List.drop_eq_nil_of_le (List.getElem?_eq_none_iff.1 hp)];rfl
 |some x=>
  have h1:=List.getElem?_eq_some_iff.1 hp
  rw[List.drop_eq_getElem_cons h1.1,h1.2]
  have:=(hts x (List.mem_of_getElem? hp)).1
  unfold CS
  rw[List.find?_cons]
  simp[Nat.lt_of_lt_of_le Nat.zero_lt_one this]
def upd(nx:Nat→Nat→Option Addr)(p i:Nat)(v:Option Addr):Nat→Nat→Option Addr:=fun p' k=>if p'=p∧k=i then v else nx p' k
theorem Ia {p:Pr}{f g:Nat→Option Addr}(h: ∀i,f i=g i):Dy p f=Dy p g:=by rw[show f=g from funext h]
theorem SC {n sz:Int}{f g:Nat→Option Addr}(h: ∀i,f i=g i):Ck f n sz=Ck g n sz:=by rw[show f=g from funext h]
theorem Lay.store {h:Heap}{t:Nat}{ns:List CX}{nx:Nat→Nat→Option Addr}{n sz:Int}(l:Lay h t ns nx n sz){p i:Nat}(hp:p≤ns.length)(hi:i<12){v:Option Addr}{K:Heap→Prop}
  (H: ∀h',Lay h' t ns (upd nx p i v) n sz→Mod (inT t ns) h h'→h'.size=h.size→K h'):Store h (((addrAt t ns p).add 3).add (i*1)) (.pointer v) K:=by
 rw[add_add,Nat.mul_one]
 cases p with
 |zero=>
  show Store h ((⟨t,0,none⟩:Addr).add (3+i)) _ _
  rw[Bg,Nat.zero_add]
  refine Store.mk l.head (by rw[head_size];omega) fun h' hb m hs=>H h' ⟨?_,fun j x hx=>⟨?_,(l.node j x hx).2⟩,l.apart⟩ (m.weak fun b _ hb=> .inl hb) hs
  ·rw [hb,AKq hi,SC (g:=upd nx 0 i v 0) (fun k=>by simp[upd])]
  ·rw [m.get _ (Ah (l.node j x hx).1) (l.node j x hx).2,(l.node j x hx).1,Ia (g:=upd nx 0 i v (j+1)) (fun k=>by simp[upd])]
 |succ p=>
  have hg:=List.getElem?_eq_getElem (l:=ns) (i:=p) (by omega)
  have e:addrAt t ns (p+1)=⟨ns[p].blk,0,none⟩:=by simp[addrAt,hg]
  rw[e,Bg,Nat.zero_add]
  obtain⟨hn,hne⟩:=l.node p _ hg
  refine Store.mk hn (by rw[Nk];omega) fun h' hb m hs=>H h' ⟨?_,fun j x hx=>⟨?_,(l.node j x hx).2⟩,l.apart⟩ (m.weak fun b _ hb=> .inr ⟨_,List.mem_of_getElem? hg,hb.symm⟩) hs
  ·rw [m.get _ (Ah l.head) (fun e=>hne e.symm),l.head,SC (g:=upd nx (p+1) i v 0) (fun k=>by simp[upd])]
  ·by_cases hj:j=p
   ·subst hj
    rw[hg] at hx;cases hx
    rw[hb,AEl,Ia (g:=upd nx (j+1) i v (j+1)) (fun k=>by simp[upd])]
   ·have hd:x.blk≠ns[p].blk:=by
     have h1:=List.getElem?_eq_some_iff.1 hx
     have h2:=List.pairwise_iff_getElem.1 l.apart
     rcases Nat.lt_or_gt_of_ne hj with h3|h3
     ·have:=h2 j p h1.1 (by omega) h3;rw[h1.2] at this;exact this
     ·have:=h2 p j (by omega) h1.1 h3;rw[h1.2] at this;exact fun e=>this e.symm
    rw[m.get _ (Ah (l.node j x hx).1) hd,(l.node j x hx).1,Ia (g:=upd nx (p+1) i v (j+1)) (fun k=>by simp[upd,hj])]
def DT(l:List Pr):Nat:=(l.map fun x=>x.key.size+x.val.size).sum
structure Tab (h:Heap) (t:Nat) (ns:List CX) (l:List Pr):Prop where
 lay: ∃nx,Lay h t ns nx (l.length:Int) (DT l:Int)∧ABa ns nx
 prs:prs ns=l
 sorted:Sorted l
 good:CV l
theorem Tab.mod {h h':Heap}{t:Nat}{ns:List CX}{l:List Pr}{S:Nat→Prop}(T:Tab h t ns l)(m:Mod S h h')(hS: ∀b,inT t ns b→ ¬S b):Tab h' t ns l:=by
 obtain⟨nx,L,K⟩:=T.lay
 exact⟨⟨nx,L.mod m hS,K⟩,T.prs,T.sorted,T.good⟩
theorem Tab.ext {h h':Heap}{t:Nat}{ns:List CX}{l:List Pr}(T:Tab h t ns l)(m:Ext h h'):Tab h' t ns l:=T.mod m fun _ _ h=>h
theorem Tab.lt {h:Heap}{t:Nat}{ns:List CX}{l:List Pr}(T:Tab h t ns l){b:Nat}(hb:inT t ns b):b<h.size:=by
 obtain⟨nx,L,_⟩:=T.lay;exact L.lt hb
theorem AKs {A:Amb}{h:Heap}{R:Value→Heap→Prop}(H: ∀h',Tab h' h.size [] []→Ext h h'→h'.size=h.size+1→R (.pointer (some ⟨h.size,0,none⟩)) h'):AA A P LZ #[] h R:=by
 refine AF9 ?_
 unfold WJ
 refine New.mk fun h1 _ hb hx hs=>H h1 ⟨⟨fun _ _=>none,⟨hb,fun j x h=>by simp at h,List.Pairwise.nil⟩,⟨fun p i hp hi _=>?_,fun x h=>by cases h⟩⟩,rfl,List.Pairwise.nil,fun x h=>by cases h⟩ hx hs
 have:p=0:=by simpa using hp
 subst this;rfl
theorem LK(l m:List Pr):DT (l++m)=DT l+DT m:=by simp[DT,List.sum_append]
theorem Oj(x:Pr)(l:List Pr):DT (x::l)=x.key.size+x.val.size+DT l:=by simp[DT]
theorem AGK {l:List Pr}(g:CV l):DT l≤l.length*8256:=by
 induction l with
 |nil=>simp[DT]
 |cons x l ih=>
  have h1:=ih fun y hy=>g y (by simp[hy])
  have h2:=g x (by simp)
  have h3:x.key.size≤64∧x.val.size≤8192:=by
   unfold Ap at h2
   split at h2
   ·cases h2
   ·split at h2
    ·cases h2
    ·rename_i h4;simp at h4;omega
  rw[Oj,List.length_cons,Nat.add_mul];omega
theorem ABx {x:Pr}(h:Ap x=0):x.key.size≤64∧x.val.size≤8192:=by
 unfold Ap at h
 split at h
 ·cases h
 ·split at h
  ·cases h
  ·rename_i h4;simp at h4;omega
theorem AH8 {p q:Pr}{nx:Nat→Option Addr}:(((Dy p nx).setIfInBounds 0 (.string q.key)).setIfInBounds 1 (.string q.val)).setIfInBounds 2 (.bool q.gone)=Dy q nx:=by
 apply Array.toList_inj.1
 rw[Array.toList_setIfInBounds,Array.toList_setIfInBounds,Array.toList_setIfInBounds]
 rfl
theorem Before.zero {ns:List CX}{key:ByteArray}{p:Nat}(hts: ∀x∈ns,1≤x.ht∧x.ht≤12)(b:Q9 ns key 0 p):p=atK key (prs ns):=by
 rcases Nat.lt_or_ge p (atK key (prs ns)) with h|h
 ·have hl:=Ud key ns
  have hg:=List.getElem?_eq_getElem (l:=ns) (i:=p) (by omega)
  have h1:=b.last p _ (Nat.le_refl _) h hg
  have h2:=hts _ (List.mem_of_getElem? hg)
  omega
 ·have:=b.le;omega
def nxI(nx:Nat→Nat→Option Addr)(q:Nat→Nat)(b:Addr)(i:Nat):Nat→Nat→Option Addr:=fun p k=>if k<i∧p=q k then some b else nx p k
def nxN(nx:Nat→Nat→Option Addr)(q:Nat→Nat)(i:Nat):Nat→Option Addr:=fun k=>if k<i then nx (q k) k else none
def nxF(nx:Nat→Nat→Option Addr)(q:Nat→Nat)(b:Addr)(k a:Nat):Nat→Nat→Option Addr:=fun p i=>if p≤a then nxI nx q b k p i else if p=a+1 then nxN nx q k i else nxI nx q b k (p-1) i
theorem Xn {α:Type}{ns:List α}{x:α}{a j:Nat}(ha:a≤ns.length):(ns.take a++x::ns.drop a)[j]? =if j<a then ns[j]? else if j=a then some x else ns[j-1]? :=by
 split
 ·rename_i h
  rw[List.getElem?_append_left (by simp;omega),List.getElem?_take_of_lt h]
 ·rename_i h
  rw[List.getElem?_append_right (by simp;omega)]
  simp only[List.length_take,Nat.min_eq_left ha]
  split
  ·rename_i h2;subst h2;simp
  ·rename_i h2
   rw[show j-a=(j-a-1)+1 by omega,List.getElem?_cons_succ,List.getElem?_drop]
   congr 1;omega
theorem AJV {α:Type}{ns:List α}{x:α}{a p:Nat}(ha:a≤ns.length)(hp:p≤a):(ns.take a++x::ns.drop a).drop p=(ns.take a).drop p++x::ns.drop a:=by
 rw[List.drop_append_of_le_length (by simp;omega)]
theorem AIx {α:Type}{ns:List α}{x:α}{a p:Nat}(ha:a≤ns.length)(hp:a<p):(ns.take a++x::ns.drop a).drop p=ns.drop (p-1):=by
 rw[List.drop_append,List.drop_eq_nil_of_le (by simp;omega),List.nil_append]
 simp only[List.length_take,Nat.min_eq_left ha]
 rw[show p-a=(p-a-1)+1 by omega,List.drop_succ_cons,List.drop_drop]
 congr 1;omega
theorem ABa.insert {ns:List CX}{nx:Nat→Nat→Option Addr}{key:ByteArray}(K:ABa ns nx){q:Nat→Nat}(hq: ∀i,i<12→Q9 ns key i (q i)){x:CX}(hx:1≤x.ht∧x.ht≤12):
  ABa (ns.take (atK key (prs ns))++x::ns.drop (atK key (prs ns))) (nxF nx q ⟨x.blk,0,none⟩ x.ht (atK key (prs ns))):=by
 have hal:=Ud key ns
 generalize ha:atK key (prs ns)=a at*
 refine⟨fun p i hp hi hht=>?_,fun y hy=>?_⟩
 ·unfold nxF
  split
  ·rename_i hpa
   have hht':i<Pg ns p:=by
    cases p with
    |zero=>exact hi
    |succ p=>
     unfold Pg at hht ⊢
     simp only at hht ⊢
     rw[Xn hal,if_pos (by omega)] at hht
     exact hht
   have hlink:=K.link p i (by omega) hi hht'
   have hsplit:ns.drop p=(ns.take a).drop p++ns.drop a:=by
    rw[← List.drop_append_of_le_length (by simp;omega),List.take_append_drop]
   have hb:=hq i hi
   rw[AJV hal hpa,Le]
   unfold nxI
   by_cases hk:i<x.ht
   ·have hfx:CS i (x::ns.drop a)=some ⟨x.blk,0,none⟩:=by unfold CS;rw[List.find?_cons];simp[hk]
    rw[hfx]
    by_cases hpq:p=q i
    ·rw [if_pos ⟨hk,hpq⟩,AEX fun y hy=>?_]
     ·rfl
     ·obtain⟨j,hj,e⟩:=List.getElem_of_mem hy
      simp at hj
      have hj2:(ns.take a).drop p=(ns.take a).drop p:=rfl
      refine hb.last (p+j) y (by omega) (by rw[ha];omega) ?_
      have:((ns.take a).drop p)[j]? =some y:=by rw[List.getElem?_eq_getElem (by simp;omega),e]
      rw[List.getElem?_drop,List.getElem?_take_of_lt (by omega)] at this
      exact this
    ·rw [if_neg (fun h=>hpq h.2),hlink,hsplit,Le]
     have hlt:p<q i:=by
      rcases Nat.lt_trichotomy p (q i) with h|h|h
      ·exact h
      ·exact absurd h hpq
      ·exfalso
       cases p with
       |zero=>omega
       |succ p=>
        have hg:=List.getElem?_eq_getElem (l:=ns) (i:=p) (by omega)
        have h1:=hb.last p _ (by omega) (by rw[ha];omega) hg
        simp[Pg,hg] at hht'
        omega
     have hqa:=hb.le
     rw[ha] at hqa
     have hqh:=hb.ht
     obtain⟨r,hr⟩: ∃r,q i=r+1:=⟨q i-1,by omega⟩
     rw[hr] at hqh hlt hqa
     have hg:=List.getElem?_eq_getElem (l:=ns) (i:=r) (by omega)
     simp[Pg,hg] at hqh
     have hmem:ns[r]∈(ns.take a).drop p:=by
      refine List.mem_of_getElem? (i:=r-p) ?_
      rw[List.getElem?_drop,List.getElem?_take_of_lt (by omega),show p+(r-p)=r by omega,hg]
     obtain⟨y,hy⟩:=AFn hmem hqh
     rw[hy];rfl
   ·rw [if_neg (fun h=>hk h.1),hlink,hsplit,Le]
    have:CS i (x::ns.drop a)=CS i (ns.drop a):=by unfold CS;rw[List.find?_cons];simp[hk]
    rw[this]
  ·rename_i hpa
   rw[AIx hal (by omega)]
   split
   ·rename_i hp1
    subst hp1
    have hk:i<x.ht:=by
     unfold Pg at hht
     simp only at hht
     rw[Xn hal,if_neg (by omega),if_pos rfl] at hht
     exact hht
    have hb:=hq i hi
    have hqa:=hb.le
    rw[ha] at hqa
    unfold nxN
    rw[if_pos hk,K.link (q i) i (by omega) hi hb.ht,AB8 (k:=a-q i) (by simp;omega) fun j y hj hy=>?_]
    ·rw [List.drop_drop];congr 2;omega
    ·rw [List.getElem?_drop] at hy
     exact hb.last _ y (by omega) (by rw[ha];omega) hy
   ·rename_i hp1
    obtain⟨r,rfl⟩: ∃r,p=r+1:=⟨p-1,by omega⟩
    rw[Nat.add_sub_cancel]
    have hlen:(ns.take a++x::ns.drop a).length=ns.length+1:=by simp;omega
    have hht':i<Pg ns r:=by
     unfold Pg at hht
     simp only at hht
     rw[Xn hal,if_neg (by omega),if_neg (by omega)] at hht
     obtain⟨r',rfl⟩: ∃r',r=r'+1:=⟨r-1,by omega⟩
     unfold Pg
     simpa using hht
    have hqa:=(hq i hi).le
    rw[ha] at hqa
    unfold nxI
    rw[if_neg (fun h=>by omega)]
    exact K.link r i (by omega) hi hht'
 ·rw [List.mem_append,List.mem_cons] at hy
  rcases hy with hy|rfl|hy
  ·exact K.ht y (List.mem_of_mem_take hy)
  ·exact hx
  ·exact K.ht y (List.mem_of_mem_drop hy)
set_option maxHeartbeats 1000000 in
theorem AHO {A:Amb}{h:Heap}{t:Nat}{ns:List CX}{l:List Pr}{x:Pr}{R:Value→Heap→Prop}(T:Tab h t ns l)(hl:l.length<1099511627776)
  (H: ∀ns' h',Tab h' t ns' (DR x l)→Mod (inT t ns) h h'→(∀ b,inT t ns' b→inT t ns b∨h.size≤b)→R (.int .i64 (Ap x)) h'):
  AA A P GG #[.pointer (some ⟨t,0,none⟩),.agg #[.string x.key,.string x.val,.bool x.gone]] h R:=by
 refine V9 ?_
 unfold KT
 refine New.mk fun h1 _ hb hx1 hs1=>?_
 have T1:=T.ext hx1
 have Hbad:Ap x≠0→R (.int .i64 (Ap x)) h1:=fun hw=>H ns h1 (by simpa [DR,hw] using T1) hx1.mod (fun b hb=> .inl hb)
 refine Join.mk fun K hK=>?_
 have hbad:(decide (x.key=⟨#[]⟩)||(x.gone&& !decide (x.val=⟨#[]⟩)))=true→K (true,()) h1:=fun hc=>hK _ _ (PIf.yes rfl (by
  have hw:Ap x=1:=by unfold Ap;rw[if_pos hc]
  have:=Hbad (by rw[hw];decide)
  rw[hw] at this;exact this))
 have hgood:(decide (x.key=⟨#[]⟩)||(x.gone&& !decide (x.val=⟨#[]⟩)))=false→K (false,()) h1:=fun hc=>hK _ _ (PIf.no rfl (by
  refine Join.mk fun K1 hK1=>?_
  have hlong:(decide (x.key.size>64)||decide (x.val.size>8192))=true→K1 (true,()) h1:=fun hc2=>hK1 _ _ (PIf.yes rfl (by
   have hw:Ap x=2:=by unfold Ap;rw[if_neg (by simp[hc]),if_pos hc2]
   have:=Hbad (by rw[hw];decide)
   rw[hw] at this;exact this))
  have hok:(decide (x.key.size>64)||decide (x.val.size>8192))=false→K1 (false,()) h1:=fun hc2=>hK1 _ _ (PIf.no rfl (by
   have hw:Ap x=0:=by unfold Ap;rw[if_neg (by simp[hc]),if_neg (by simp[hc2])]
   have hgs:=ABx hw
   clear hbad hK1 hK hlong Hbad
   obtain⟨nx,L1,Kl⟩:=T1.lay
   have hput:DR x l=ins x l:=Nz hw
   have hsorted:=Ml (x:=x) T.sorted
   have hgoodl:=Yb (x:=x) T.good
   have hprs:=T.prs
   have hss:Sorted (prs ns):=by rw[hprs];exact T.sorted
   have hll:ns.length=l.length:=by rw[← hprs];simp
   have hsum:=AGK T.good
   refine AL.mk (AC hb rfl) ?_
   refine WH L1 Kl hss fun q h4 hq x4=>⟨_,_,_,_,_,_,_,_,_,_,_,_,rfl,?_⟩
   have hq0:=Before.zero Kl.ht (hq 0 (by omega))
   have L4:=L1.ext x4
   refine New.mk fun h5 _ hb5 x5 hs5=>?_
   have hb5':h5[h4.size]? =some (.cells (ptrs (fun _=>none)).toArray Cu (0,0)):=hb5
   simp only[Bg,Nat.zero_add]
   refine Store.mk hb5' (by simp[BA]) fun g0 b0 m0 s0=>?_
   rw[F6 _ rfl] at b0
   refine Store.mk b0 (by simp[BA]) fun g1 b1 m1 s1=>?_
   rw[F6 _ rfl] at b1
   refine Store.mk b1 (by simp[BA]) fun g2 b2 m2 s2=>?_
   rw[F6 _ rfl] at b2
   refine Store.mk b2 (by simp[BA]) fun g3 b3 m3 s3=>?_
   rw[F6 _ rfl] at b3
   refine Store.mk b3 (by simp[BA]) fun g4 b4 m4 s4=>?_
   rw[F6 _ rfl] at b4
   refine Store.mk b4 (by simp[BA]) fun g5 b5 m5 s5=>?_
   rw[F6 _ rfl] at b5
   refine Store.mk b5 (by simp[BA]) fun g6 b6 m6 s6=>?_
   rw[F6 _ rfl] at b6
   refine Store.mk b6 (by simp[BA]) fun g7 b7 m7 s7=>?_
   rw[F6 _ rfl] at b7
   refine Store.mk b7 (by simp[BA]) fun g8 b8 m8 s8=>?_
   rw[F6 _ rfl] at b8
   refine Store.mk b8 (by simp[BA]) fun g9 b9 m9 s9=>?_
   rw[F6 _ rfl] at b9
   refine Store.mk b9 (by simp[BA]) fun g10 b10 m10 s10=>?_
   rw[F6 _ rfl] at b10
   refine Store.mk b10 (by simp[BA]) fun g11 b11 m11 s11=>?_
   rw[F6 _ rfl] at b11
   have hbl:g11[h4.size]? =some (.cells (ptrs (fun i=>some (addrAt t ns (q i)))).toArray Cu (0,0)):=by
    rw[b11]
    congr 3
   have mall:=((((((((((m0.trans m1).trans m2).trans m3).trans m4).trans m5).trans m6).trans m7).trans m8).trans m9).trans m10).trans m11
   have x411:Ext h4 g11:=x5.then (mall.weak fun c _ hc=> .inr (by omega))
   have szx:=x411.size
   have hb1lt:=Ah hbl
   have sz4:=x4.size
   clear mall b0 b1 b2 b3 b4 b5 b6 b7 b8 b9 b10 b11 m0 m1 m2 m3 m4 m5 m6 m7 m8 m9 m10 m11 s0 s1 s2 s3 s4 s5 s6 s7 s8 s9 s10 s11
   have L11:=L4.ext x411
   have hbp:g11[h.size]? =some (.cells #[.string x.key,.string x.val,.bool x.gone] AO (0,0)):=x411.blk (x4.blk hb (by simp)) (by simp)
   have hak:=Ud x.key ns
   have xall:Ext h g11:=hx1.trans (x4.trans x411)
   refine⟨by omega,AP.mk (CJ hbl (i:=0) (by omega)) ⟨by omega,AP.mk (L11.next (p:=q 0) (i:=0) (by rw[hq0];omega) (by omega)) ?_⟩⟩
   have hnx0:nx (q 0) 0=(ns[atK x.key (prs ns)]?).map fun y=>⟨y.blk,0,none⟩:=by
    rw[Kl.link (q 0) 0 (by rw[hq0];omega) (by omega) (hq 0 (by omega)).ht,hq0,OL Kl.ht]
   rw[hnx0]
   have hthere:Bc x.key l=match ns[atK x.key (prs ns)]? with|some y=>decide (y.pr.key=x.key)|none=>false:=by
    unfold Bc
    rw[← hprs]
    rw[show prs ns=ns.map (·.pr) from rfl,List.getElem?_map]
    cases ns[atK x.key (ns.map (·.pr))]? <;>rfl
   generalize ha:atK x.key (prs ns)=a at*
   have hal:atK x.key l=a:=by rw[← hprs];exact ha
   have hinsL:Tx x l=ins x l:=Xl x l
   refine Join.mk fun K2 hK2=>?_
   have hfound: ∀y,ns[a]? =some y→y.pr.key=x.key→K2 (true,()) g11:=fun y hy hyk=>hK2 _ _ (PIf.yes rfl (by
    have hya:=List.getElem?_eq_some_iff.1 hy
    have hya1:a<ns.length:=hya.1
    rw[hy]
    have hrow:=L11.pair hy
    have hyks:y.pr.key.size=x.key.size:=by rw[hyk]
    refine Aa.mk (AB L11.head ZM.2) (AL.mk (AC hbp rfl) (AL.mk hrow.2.1 ?_))
    have hsz2: ∃r:Nat,DT l=y.pr.key.size+y.pr.val.size+r∧DT (DR x l)=x.key.size+x.val.size+r:=by
     have e1:l=l.take a++y.pr::l.drop (a+1):=by
      have hla:l[a]? =some y.pr:=by rw[← hprs];simp[hy]
      have h1:=List.getElem?_eq_some_iff.1 hla
      rw[← h1.2,←List.drop_eq_getElem_cons h1.1,List.take_append_drop]
     have e2:DR x l=l.take a++x::l.drop (a+1):=by
      rw[hput,←hinsL]
      unfold Tx
      rw[hthere,hy,hal,if_pos (by simp[hyk])]
      simp
     refine⟨DT (l.take a)+DT (l.drop (a+1)),?_,?_⟩
     ·conv=>lhs;rw[e1]
      rw[LK,Oj];omega
     ·rw [e2,LK,Oj];omega
    obtain⟨r,hr1,hr2⟩:=hsz2
    have hw1:IntKind.wrap .i64 ((DT l:Int)+IntKind.wrap .i64 ((x.val.size:Int)-(y.pr.val.size:Int)))=(DT (DR x l):Int):=by
     have hyv:y.pr.val.size≤8192:=(ABx (T.good y.pr (by rw[← hprs];exact List.mem_map.2 ⟨y,List.mem_of_getElem? hy,rfl⟩))).2
     have e1:IntKind.wrap .i64 ((x.val.size:Int)-(y.pr.val.size:Int))=(x.val.size:Int)-(y.pr.val.size:Int):=by
      exact AKX (by omega) (by omega)
     rw[e1,show(DT l:Int)+((x.val.size:Int)-(y.pr.val.size:Int))=((DT (DR x l):Nat):Int) by omega]
     exact Fy (by omega)
    rw[hw1]
    refine atI ?_
    rw[Bg,Nat.zero_add]
    refine Store.mk L11.head (by rw[head_size];omega) fun h19 hb19 m19 hs19=>?_
    rw[ABP] at hb19
    have hyn:=L11.node a y hy
    have hbp19:h19[h.size]? =some (.cells #[.string x.key,.string x.val,.bool x.gone] AO (0,0)):=m19.blk hbp (by have:=L1.lt (.inl rfl:inT t ns t);have:=T.lt (.inl rfl:inT t ns t);omega)
    refine AL.mk (AC hbp19 rfl) (AL.mk (AC hbp19 rfl) (Ab.mk (AC hbp19 rfl) ?_))
    have hyn19:=m19.blk hyn.1 hyn.2
    refine atI ?_
    refine Store.mk hyn19 (by rw[Nk];omega) fun h20 hb20 m20 hs20=>?_
    rw[Bg,Bg]
    refine Store.mk hb20 (by rw[Array.size_setIfInBounds,Nk];omega) fun h21 hb21 m21 hs21=>?_
    refine Store.mk hb21 (by rw[Array.size_setIfInBounds,Array.size_setIfInBounds,Nk];omega) fun h22 hb22 m22 hs22=>?_
    simp only[Nat.zero_add] at hb22
    rw[AH8] at hb22
    have mm:Mod (fun c=>c=y.blk) h19 h22:=(m20.trans m21).trans m22
    have hnt:inT t ns t:= .inl rfl
    have hny:inT t ns y.blk:= .inr ⟨y,List.mem_of_getElem? hy,rfl⟩
    rw[← hw]
    refine H (ns.set a {y with pr:=x}) h22 ⟨⟨nx,⟨?_,fun j z hz=>?_,?_⟩,⟨fun p i hp hi hht=>?_,fun z hz=>?_⟩⟩,?_,hsorted,hgoodl⟩ ?_ fun b hb=>?_
    ·have hlen:(DR x l).length=l.length:=by
      rw[hput,←hinsL];unfold Tx
      rw[hthere,hy,hal,if_pos (by simp[hyk])]
      simp;omega
     rw[hlen]
     exact mm.blk hb19 (fun e=>hyn.2 e.symm)
    ·rw [List.getElem?_set] at hz
     split at hz
     ·rename_i he
      subst he
      simp[hya.1] at hz
      subst hz
      exact⟨hb22,hyn.2⟩
     ·rename_i he
      have hzn:=L11.node j z hz
      refine⟨?_,hzn.2⟩
      refine mm.blk (m19.blk hzn.1 hzn.2) ?_
      have h1:=List.getElem?_eq_some_iff.1 hz
      have h2:=List.pairwise_iff_getElem.1 L11.apart
      rcases Nat.lt_or_gt_of_ne he with h3|h3
      ·have:=h2 a j hya.1 h1.1 h3;rw[h1.2,hya.2] at this;exact fun e=>this e.symm
      ·have:=h2 j a h1.1 hya.1 h3;rw[h1.2,hya.2] at this;exact this
    ·have e:(ns.set a {y with pr:=x}).map (·.blk)=ns.map (·.blk):=by
      rw[List.map_set]
      apply List.ext_getElem?
      intro j
      rw[List.getElem?_set]
      split
      ·rename_i he;subst he;simp[hya.1,hya.2]
      ·rfl
     have h1:(ns.map (·.blk)).Pairwise (· ≠ ·):=List.pairwise_map.2 L11.apart
     rw[← e] at h1
     exact List.pairwise_map.1 h1
    ·rw [List.length_set] at hp
     have hhte:Pg (ns.set a {y with pr:=x}) p=Pg ns p:=by
      cases p with
      |zero=>rfl
      |succ p=>
       unfold Pg
       simp only
       rw[List.getElem?_set]
       by_cases he:a=p
       ·subst he;rw[if_pos rfl,if_pos hya1,hy]
       ·rw [if_neg he]
     rw[hhte] at hht
     rw[Kl.link p i hp hi hht]
     have key: ∀m:List CX,∀a,m[a]? =some y→CS i (m.set a {y with pr:=x})=CS i m:=by
      intro m
      induction m with
      |nil=>intro a h;simp at h
      |cons z m ih=>
       intro a h
       cases a with
       |zero=>simp at h;subst h;by_cases hd:i<z.ht<;>simp[CS,hd]
       |succ a=>
        have:=ih a (by simpa using h)
        unfold CS at this ⊢
        rw[List.set_cons_succ,List.find?_cons,List.find?_cons]
        split
        ·rfl
        ·exact this
     rcases Nat.lt_or_ge a p with h1|h1
     ·rw [List.drop_set_of_lt h1]
     ·rw [List.drop_set]
      rw[if_neg (by omega)]
      exact(key _ _ (by rw[List.getElem?_drop];rw[← hy];congr 1;omega)).symm
    ·obtain⟨j,hj,e⟩:=List.getElem_of_mem hz
     rw[List.getElem_set] at e
     split at e
     ·subst e;exact Kl.ht y (List.mem_of_getElem? hy)
     ·subst e;exact Kl.ht _ (List.getElem_mem _)
    ·rw [hput,←hinsL];unfold Tx
     rw[hthere,hy,hal,if_pos (by simp[hyk])]
     show(ns.set a {y with pr:=x}).map (·.pr)=_
     rw[List.map_set,List.set_eq_take_append_cons_drop]
     have:(ns.map (·.pr))=l:=hprs
     rw[this]
     have hla:a<l.length:=by omega
     simp[hla]
    ·have m1:Mod (inT t ns) g11 h22:=(m19.weak fun c _ hc=>by subst hc;exact hnt).trans (mm.weak fun c _ hc=>by subst hc;exact hny)
     exact xall.mod.trans m1
    ·rcases hb with rfl|⟨z,hz,rfl⟩
     ·exact .inl (.inl rfl)
     ·obtain⟨j,hj,e⟩:=List.getElem_of_mem hz
      rw[List.getElem_set] at e
      split at e
      ·subst e;exact .inl hny
      ·subst e;exact .inl (.inr ⟨_,List.getElem_mem _,rfl⟩)))
   have hnew:Bc x.key l=false→K2 (false,()) g11:=fun hnt=>hK2 _ _ (PIf.no rfl (by
    refine AL.mk (AC hbp rfl) (AL.mk (AC hbp rfl) (Ab.mk (AC hbp rfl) ?_))
    refine New.mk fun h23 _ hb23 x23 hs23=>?_
    have hbp23:=x23.blk hbp (by simp)
    refine AL.mk (AC hbp23 rfl) ?_
    refine AIY hgs.1 fun k hk1 hk2=>⟨_,rfl,?_⟩
    have hbn:h23[g11.size]? =some (.cells (Dy x (fun _=>none)) Ow (0,0)):=hb23
    have L23:=L11.ext x23
    have hqn: ∀i,i<12→q i≤ns.length:=fun i hi=>by have:=(hq i hi).le;rw[ha] at this;omega
    have hbl23:=x23.blk hbl (by simp)
    have hinlt: ∀c,inT t ns c→c<g11.size:=fun c hc=>L11.lt hc
    have hinlt4: ∀c,inT t ns c→c<h4.size:=fun c hc=>L4.lt hc
    refine Loop.rule (fun m y h25=> ∃i:Nat,y=((i:Int),())∧m=k-i∧i≤k∧Mod (fun c=>inT t ns c∨c=g11.size) h23 h25∧Lay h25 t ns (nxI nx q ⟨g11.size,0,none⟩ i) (l.length:Int) (DT l:Int)∧h25[g11.size]? =some (.cells (Dy x (nxN nx q i)) Ow (0,0))) ?_
     ⟨0,rfl,rfl,by omega,Mod.refl,?_,?_⟩
    rotate_left
    ·have:nxI nx q ⟨g11.size,0,none⟩ 0=nx:=by funext p k;simp[nxI]
     rw[this];exact L23
    ·have:nxN nx q 0=fun _=>none:=by funext k;simp[nxN]
     rw[this];exact hbn
    rintro K3 m _ h25 ⟨i,rfl,rfl,hi,m25,L25,hb25⟩ hK3
    have hsz25:=m25.size
    have hbl25:h25[h4.size]? =some (.cells (ptrs (fun i=>some (addrAt t ns (q i)))).toArray Cu (0,0)):=m25.blk hbl23 (fun hh=>hh.elim (fun h1=>by have:=hinlt4 _ h1;omega) (fun h1=>by omega))
    refine PIf.intro (fun hc=>?_) (fun hc=>?_)
    ·have hik:i<k:=by simpa using hc
     have hi12:i<12:=by omega
     have hchk:(0:Int)≤(i:Int)∧(i:Int)<(12:Int):=⟨by omega,by omega⟩
     refine⟨hchk,?_⟩
     show AP h25 ⟨h4.size,i*1,none⟩ _
     rw[Nat.mul_one]
     refine AP.mk (CJ hbl25 hi12) ⟨hchk,?_⟩
     show AP h25 (((addrAt t ns (q i)).add 3).add (i*1)) _
     refine AP.mk (L25.next (p:=q i) (i:=i) (hqn i hi12) hi12) ⟨hchk,?_⟩
     have hnxv:nxI nx q ⟨g11.size,0,none⟩ i (q i) i=nx (q i) i:=by simp[nxI]
     show Store h25 ⟨g11.size,3+i*1,none⟩ (.pointer (nxI nx q ⟨g11.size,0,none⟩ i (q i) i)) _
     rw[hnxv,Nat.mul_one]
     refine Store.mk hb25 (by rw[Nk];omega) fun h26 hb26 m26 hs26=>?_
     rw[AEl] at hb26
     have L26:=L25.mod m26 (fun c hc e=>by have:=hinlt c hc;omega)
     refine⟨hchk,?_⟩
     show AP h26 ⟨h4.size,i*1,none⟩ _
     rw[Nat.mul_one]
     refine AP.mk (CJ (m26.blk hbl25 (by omega)) hi12) ⟨hchk,?_⟩
     show Store h26 (((addrAt t ns (q i)).add 3).add (i*1)) (.pointer (some ⟨g11.size,0,none⟩)) (fun h27=>K3 (IntKind.wrap .i64 ((i:Int)+(1:Int)),()) h27)
     refine L26.store (p:=q i) (i:=i) (hqn i hi12) hi12 (v:=some ⟨g11.size,0,none⟩) (fun h27 L27 m27 hs27=>?_)
     ·refine hK3 (k-(i+1)) _ _ (by omega) ⟨i+1,by rw[AR (by omega)],rfl,by omega,(m25.trans (m26.weak fun c _ hc=> .inr hc)).trans (m27.weak fun c _ hc=> .inl hc),?_,?_⟩
      ·have:upd (nxI nx q ⟨g11.size,0,none⟩ i) (q i) i (some ⟨g11.size,0,none⟩)=nxI nx q ⟨g11.size,0,none⟩ (i+1):=by
        funext p j
        unfold upd nxI
        by_cases hj:j=i
        ·subst hj
         by_cases hp:p=q j<;>simp[hp]
        ·by_cases hp:p=q j<;>simp[hp,hj,Nat.lt_succ_iff,Nat.le_iff_lt_or_eq]
       rw[this] at L27
       exact L27
      ·rw [m27.blk hb26 (fun hc=>by have:=hinlt _ hc;omega),Ia (g:=nxN nx q (i+1)) (fun j=>?_)]
       unfold nxN
       by_cases hj:j=i
       ·subst hj;simp
       ·simp [hj,Nat.lt_succ_iff,Nat.le_iff_lt_or_eq]
    ·have hik:i=k:=by simp at hc;omega
     subst hik
     refine Aa.mk (AB L25.head ZM.1) ?_
     refine atI ?_
     rw[Bg,Nat.zero_add]
     refine Store.mk L25.head (by rw[head_size];omega) fun h28 hb28 m28 hs28=>?_
     rw[AIp] at hb28
     have htn:inT t ns t:= .inl rfl
     have htlt:=T.lt htn
     have hbp25:h25[h.size]? =some (.cells #[.string x.key,.string x.val,.bool x.gone] AO (0,0)):=m25.blk hbp23 (fun hh=>hh.elim (fun h1=>by have:=T.lt h1;omega) (fun h1=>by omega))
     have hbp28:=m28.blk hbp25 (by omega)
     refine atI ?_
     rw[Bg,Nat.zero_add]
     refine Aa.mk (AC hb28 ZM.2) (AL.mk (AC hbp28 rfl) (AL.mk (AC hbp28 rfl) (atI ?_)))
     rw[Bg,Nat.zero_add]
     refine Store.mk hb28 (by rw[head_size];omega) fun h29 hb29 m29 hs29=>?_
     rw[ABP] at hb29
     have e2:DR x l=l.take a++x::l.drop a:=by
      rw[hput,←hinsL];unfold Tx
      rw[hnt,hal];simp
     have hsz:DT (DR x l)=DT l+(x.key.size+x.val.size):=by
      rw[e2,LK,Oj]
      have:DT l=DT (l.take a)+DT (l.drop a):=by rw[← LK,List.take_append_drop]
      omega
     have hlen:(DR x l).length=l.length+1:=by rw[e2];simp;omega
     have hw1:IntKind.wrap .i64 ((l.length:Int)+(1:Int))=((DR x l).length:Int):=by rw[hlen];exact AR (by omega)
     have hw2:IntKind.wrap .i64 ((DT l:Int)+IntKind.wrap .i64 ((x.key.size:Int)+(x.val.size:Int)))=(DT (DR x l):Int):=by
      rw[show((x.key.size:Int)+(x.val.size:Int))=((x.key.size+x.val.size:Nat):Int) by omega,Fy (by omega),show(DT l:Int)+((x.key.size+x.val.size:Nat):Int)=((DT (DR x l):Nat):Int) by omega]
      exact Fy (by omega)
     rw[hw1,hw2] at hb29
     have mt:Mod (fun c=>c=t) h25 h29:=m28.trans m29
     have hb29n:=mt.blk hb25 (by have:=hinlt _ htn;omega)
     rw[← hw]
     refine H (ns.take a++⟨g11.size,x,i⟩::ns.drop a) h29 ⟨⟨nxF nx q ⟨g11.size,0,none⟩ i a,⟨?_,fun j z hz=>?_,?_⟩,?_⟩,?_,hsorted,hgoodl⟩ ?_ fun b hb=>?_
     ·rw [hb29,SC (g:=nxF nx q ⟨g11.size,0,none⟩ i a 0) (fun k=>?_)]
      simp[nxF]
     ·rw [Xn hak] at hz
      split at hz
      ·rename_i hja
       have hzn:=L25.node j z hz
       refine⟨?_,hzn.2⟩
       rw[mt.blk hzn.1 hzn.2,Ia (g:=nxF nx q ⟨g11.size,0,none⟩ i a (j+1)) (fun k=>?_)]
       unfold nxF
       rw[if_pos (by omega)]
      ·rename_i hja
       split at hz
       ·rename_i hja2
        subst hja2
        cases hz
        refine⟨?_,by have:=hinlt _ htn;show g11.size≠t;omega⟩
        show h29[g11.size]? =_
        rw[hb29n,Ia (g:=nxF nx q ⟨g11.size,0,none⟩ i j (j+1)) (fun k=>?_)]
        unfold nxF
        rw[if_neg (by omega),if_pos rfl]
       ·rename_i hja2
        obtain⟨j',rfl⟩: ∃j',j=j'+1:=⟨j-1,by omega⟩
        rw[Nat.add_sub_cancel] at hz
        have hzn:=L25.node j' z hz
        refine⟨?_,hzn.2⟩
        rw[mt.blk hzn.1 hzn.2,Ia (g:=nxF nx q ⟨g11.size,0,none⟩ i a (j'+1+1)) (fun k=>?_)]
        unfold nxF
        rw[if_neg (by omega),if_neg (by omega),Nat.add_sub_cancel]
     ·have h1:=L25.apart
      have hne: ∀z∈ns,z.blk≠g11.size:=fun z hz e=>by have:=hinlt z.blk (.inr ⟨z,hz,rfl⟩);omega
      rw[← List.take_append_drop a ns] at h1
      rw[List.pairwise_append] at h1 ⊢
      refine⟨h1.1,List.pairwise_cons.2 ⟨fun z hz=>fun e=>hne z (List.mem_of_mem_drop hz) e.symm,h1.2.1⟩,fun y hy z hz=>?_⟩
      rcases List.mem_cons.1 hz with rfl|hz
      ·exact hne y (List.mem_of_mem_take hy)
      ·exact h1.2.2 y hy z hz
     ·have:=Kl.insert (key:=x.key) hq (x:=⟨g11.size,x,i⟩) ⟨hk1,hk2⟩
      rw[ha] at this
      exact this
     ·show(ns.take a++⟨g11.size,x,i⟩::ns.drop a).map (·.pr)=_
      have:(ns.map (·.pr))=l:=hprs
      rw[e2,←this]
      simp[List.map_take,List.map_drop]
     ·have m1:Mod (fun c=>inT t ns c∨c=g11.size) g11 h29:=(x23.mod.trans m25).trans (mt.weak fun c _ hc=>by subst hc;exact .inl htn)
      exact xall.mod.then (m1.weak fun c _ hc=>hc.elim .inl fun h1=> .inr (by have:=xall.size;omega))
     ·rcases hb with rfl|⟨z,hz,rfl⟩
      ·exact .inl (.inl rfl)
      ·rw [List.mem_append,List.mem_cons] at hz
       rcases hz with hz|rfl|hz
       ·exact .inl (.inr ⟨z,List.mem_of_mem_take hz,rfl⟩)
       ·exact .inr (by have:=xall.size;exact this)
       ·exact .inl (.inr ⟨z,List.mem_of_mem_drop hz,rfl⟩)))
   cases hy:ns[a]? with
   |none=>
    refine PIf.no rfl (hnew ?_)
    rw[hthere,hy]
   |some y=>
    refine PIf.yes rfl ?_
    refine AL.mk (L11.pair hy).1 (AL.mk (AC hbp rfl) ?_)
    rw[BZ]
    by_cases hyk:y.pr.key=x.key
    ·rw [decide_eq_true hyk];exact hfound y hy hyk
    ·rw [decide_eq_false hyk];exact hnew (by rw[hthere,hy];simp[hyk])))
  refine AL.mk (AC hb rfl) ?_
  refine PIf.intro (fun hq=>?_) (fun hq=>?_)
  ·exact hlong (by simp at hq;simp;omega)
  ·refine AL.mk (AB hb rfl) ?_
   simp at hq
   cases hv:decide ((x.val.size:Int)>(8192:Int))
   ·exact hok (by simp at hv;simp;omega)
   ·exact hlong (by simp at hv;simp;omega)))
 refine PIf.no rfl ?_
 refine AL.mk (AC hb rfl) ?_
 rw[BZ]
 refine PIf.intro (fun hq=>?_) (fun hq=>?_)
 ·exact hbad (by simp at hq;simp[hq])
 ·refine Ab.mk (AB hb rfl) ?_
  simp at hq
  refine PIf.intro (fun hg=>?_) (fun hg=>?_)
  ·refine AL.mk (AB hb rfl) ?_
   rw[BZ]
   cases hv:(!decide (x.val=⟨#[]⟩))
   ·exact hgood (by simp[hq,hg,hv])
   ·exact hbad (by simp[hq,hg,hv])
  ·exact hgood (by simp[hq,hg])
end Go.Lf.G.M

/-
 The skip list: asking; the statements MemRuns and MemStops over the formulas.
-/
set_option maxRecDepth 100000
namespace Go.Lf.G.M
open Go Go.Lf Go.Lf.G
theorem AHd {A:Amb}{h:Heap}{t:Nat}{ns:List CX}{l:List Pr}{R:Value→Heap→Prop}(T:Tab h t ns l)(H:R (.tuple #[.int .i64 (l.length:Int),.int .i64 (DT l:Int)]) h):AA A P GD #[.pointer (some ⟨t,0,none⟩)] h R:=by
 obtain⟨nx,L,_⟩:=T.lay
 refine WF ?_
 unfold KU
 refine PIf.no rfl ?_
 exact Aa.mk (AB L.head ZM.1) (Aa.mk (AB L.head ZM.2) H)
def Qh:Pr:=⟨⟨#[]⟩,⟨#[]⟩,false⟩
def Kb(key:ByteArray)(l:List Pr):Pr×Bool:=match l[atK key l]? with|some q=>if q.key=key then(q,true) else(Qh,false)|none=>(Qh,false)
theorem three {h:Heap}{b:Nat}{T:TypeId}{c0 c1 c2:Value}{k v:ByteArray}{g:Bool}{K:Heap→Prop}(hb:h[b]? =some (.cells #[c0,c1,c2] T (0,0)))
  (H: ∀h',h'[b]? =some (.cells #[.string k,.string v,.bool g] T (0,0))→Mod (fun c=>c=b) h h'→K h'):
  Store h ⟨b,0,none⟩ (.string k) fun h2=>Store h2 ((⟨b,0,none⟩:Addr).add 1) (.string v) fun h3=>Store h3 ((⟨b,0,none⟩:Addr).add 2) (.bool g) fun h4=>K h4:=by
 refine Store.mk hb (by simp) fun h2 hb2 m2 hs2=>?_
 rw[Bg,Bg]
 refine Store.mk hb2 (by simp) fun h3 hb3 m3 hs3=>?_
 refine Store.mk hb3 (by simp) fun h4 hb4 m4 hs4=>?_
 exact H h4 (by simpa using hb4) ((m2.trans m3).trans m4)
theorem ABM {h h':Heap}{t:Nat}{ns:List CX}{nx:Nat→Nat→Option Addr}{n sz:Int}{key:ByteArray}{q:Nat→Nat}(L:Lay h t ns nx n sz)(K:ABa ns nx)(hq: ∀i,i<12→Q9 ns key i (q i))(x:Ext h h'):
  hget h' (((addrAt t ns (q 0)).add 3).add (0*1))=some (.pointer ((ns[atK key (prs ns)]?).map fun y=>⟨y.blk,0,none⟩)):=by
 have hq0:=Before.zero K.ht (hq 0 (by omega))
 have hak:=Ud key ns
 have h1:=(L.ext x).next (p:=q 0) (i:=0) (by rw[hq0];exact hak) (by omega)
 rw[h1,K.link (q 0) 0 (by rw[hq0];exact hak) (by omega) (hq 0 (by omega)).ht,hq0,OL K.ht]
theorem ALY {A:Amb}{h:Heap}{t:Nat}{ns:List CX}{l:List Pr}{key:ByteArray}{R:Value→Heap→Prop}(T:Tab h t ns l)(H: ∀h',Ext h h'→R (.tuple #[(Kb key l).1.agg,.bool (Kb key l).2]) h'):
  AA A P IR #[.pointer (some ⟨t,0,none⟩),.string key] h R:=by
 obtain⟨nx,L,Kl⟩:=T.lay
 refine VV ?_
 unfold KW
 refine New.mk fun h1 _ hb hx1 hs1=>PIf.no rfl ?_
 have hss:Sorted (prs ns):=by rw[T.prs];exact T.sorted
 refine WH (L.ext hx1) Kl hss fun q h5 hq x5=>⟨_,_,_,_,_,_,_,_,_,_,_,_,rfl,?_⟩
 refine atI ⟨by omega,AP.mk (ABM (L.ext hx1) Kl hq x5) ?_⟩
 have hb5:=x5.blk hb (by simp)
 have x05:Ext h h5:=hx1.trans x5
 have L5:=L.ext x05
 have hget:Kb key l=match ns[atK key (prs ns)]? with|some y=>if y.pr.key=key then(y.pr,true) else(Qh,false)|none=>(Qh,false):=by
  unfold Kb
  rw[← T.prs]
  rw[show prs ns=ns.map (·.pr) from rfl,List.getElem?_map]
  cases ns[atK key (ns.map (·.pr))]? <;>rfl
 have hfin: ∀(g:Pr) (b:Bool) h9,h9[h.size]? =some (.cells #[.string g.key,.string g.val,.bool g.gone] AO (0,0))→Mod (fun c=>c=h.size) h5 h9→Kb key l=(g,b)→
   (AL h9 (⟨h.size,0,none⟩:Addr) fun r0=>AL h9 ((⟨h.size,0,none⟩:Addr).add 1) fun r1=>Ab h9 ((⟨h.size,0,none⟩:Addr).add 2) fun r2=>R (.tuple #[.agg #[.string r0,.string r1,.bool r2],.bool b]) h9):=fun g b h9 hb9 m9 e=>by
  refine AL.mk (AC hb9 rfl) (AL.mk (AB hb9 rfl) (Ab.mk (AB hb9 rfl) ?_))
  have:=H h9 (x05.then (m9.weak fun c _ hc=> .inr (by omega)))
  rw[e] at this
  exact this
 refine Join.mk fun K hK=>?_
 have hno:Kb key l=(Qh,false)→K (false,()) h5:=fun e=>hK _ _ (PIf.no rfl (three hb5 fun h9 hb9 m9=>hfin Qh false h9 hb9 m9 e))
 cases hy:ns[atK key (prs ns)]? with
 |none=>
  rw[hy] at hget
  exact PIf.no rfl (hno hget)
 |some y=>
  rw[hy] at hget
  refine PIf.yes rfl (atI ?_)
  have hrow:=L5.pair hy
  refine AL.mk hrow.1 ?_
  rw[BZ]
  by_cases hk:y.pr.key=key
  ·rw [decide_eq_true hk]
   refine hK _ _ (PIf.yes rfl ?_)
   rw[hy]
   refine atI (AL.mk hrow.1 (AL.mk hrow.2.1 (Ab.mk hrow.2.2 ?_)))
   simp only[hk,if_true] at hget
   exact three hb5 fun h9 hb9 m9=>hfin y.pr true h9 hb9 m9 hget
  ·rw [decide_eq_false hk]
   simp only[hk,if_false] at hget
   exact hno hget
theorem ANC {y c d:Value}:(#[]++ #[y]++ #[c,d]:Array Value)= #[y,c,d]:=rfl
theorem AJY {A:Amb}{h0:Heap}{b c t:Nat}{T T':TypeId}{fr fr':Nat×Nat}{ns:List CX}{l:List Pr}{key:ByteArray}(hb:h0[b]? =some (.cells #[.pointer (some ⟨t,0,none⟩)] T fr))(hc:h0[c]? =some (.cells #[.string key] T' fr'))(Tb:Tab h0 t ns l):
  DF A P (.func (.func Fh) #[] #[.pointer (some ⟨b,0,none⟩),.pointer (some ⟨c,0,none⟩)]) (fun d=>inT t ns d∨d=b∨d=c) h0 (l.drop (atK key l)):=by
 refine⟨?_,_,_,rfl,fun yv=>by kernel_rfl,fun h hS yv J O hy hd hB hY hJ=>?_⟩
 ·rintro d (hd|rfl|rfl)
  ·exact Tb.lt hd
  ·exact Ah hb
  ·exact Ah hc
 rw[ANC]
 refine Rb ?_
 unfold IX
 have hbh:=(hS b (.inr (.inl rfl))).trans hb
 have hch:=(hS c (.inr (.inr rfl))).trans hc
 obtain⟨nx,L0,Kl⟩:=Tb.lay
 have L:Lay h t ns nx (l.length:Int) (DT l:Int):=
  ⟨(hS t (.inl (.inl rfl))).trans L0.head,fun j x hx=>⟨(hS x.blk (.inl (.inr ⟨x,List.mem_of_getElem? hx,rfl⟩))).trans (L0.node j x hx).1,(L0.node j x hx).2⟩,L0.apart⟩
 have hdO: ∀d,inT t ns d→ ¬O d:=fun d hd'=>hd d (.inl hd')
 refine AP.mk (AC hbh rfl) (PIf.no rfl (AP.mk (AC hbh rfl) (AL.mk (AC hch rfl) ?_)))
 have hss:Sorted (prs ns):=by rw[Tb.prs];exact Tb.sorted
 refine WH L Kl hss fun q h1 hq x1=>⟨_,_,_,_,_,_,_,_,_,_,_,_,rfl,?_⟩
 refine atI ⟨by omega,AP.mk (ABM L Kl hq x1) ?_⟩
 have hal:atK key (prs ns)=atK key l:=by rw[Tb.prs]
 have hle:=Tj key l
 have hnl:ns.length=l.length:=by rw[← Tb.prs];simp
 rw[hal]
 have hJ1:=hB.stable _ _ _ _ _ hJ (x1.weak (S':=fun b=>¬O b∧h.size≤b) fun _ _ h=>h.elim)
 refine Loop.rule (fun m x hh=> ∃(j:Nat) (O1:Nat→Prop),x=((ns[atK key l+j]?).map fun y=>(⟨y.blk,0,none⟩:Addr),())∧m=l.length-(atK key l+j)∧atK key l+j≤l.length∧Mod O h hh∧(∀ b,O1 b→O b∨h.size≤b)∧J j true O1 hh) ?_
  ⟨0,O,rfl,rfl,by omega,x1.mod,fun b hb=> .inl hb,hJ1⟩
 rintro K m _ hh ⟨j,O1,rfl,rfl,hj,md,hsub,hjj⟩ hK
 have hdl:(l.drop (atK key l)).length=l.length-atK key l:=by simp
 cases hy:ns[atK key l+j]? with
 |none=>
  have:=List.getElem?_eq_none_iff.1 hy
  refine PIf.no rfl ?_
  exact⟨rfl,j,true,O1,md,hsub,hjj,fun _=>by rw[hdl];omega,by rw[hdl];omega⟩
 |some y=>
  have hlt:=(List.getElem?_eq_some_iff.1 hy).1
  have hrow:=(L.mod md hdO).pair hy
  refine PIf.yes rfl (atI (AL.mk hrow.1 (AL.mk hrow.2.1 (Ab.mk hrow.2.2 ?_))))
  have hget:(l.drop (atK key l))[j]? =some y.pr:=by
   rw[List.getElem?_drop]
   have h5:(prs ns)[atK key l+j]? =some y.pr:=by rw[show prs ns=ns.map (·.pr) from rfl,List.getElem?_map,hy];rfl
   rw[Tb.prs] at h5
   exact h5
  refine FE.mono (hY j y.pr O1 hh hget hjj) ?_
  rintro _ h3 ⟨g,O2,rfl,hsub2,m3,hj3⟩
  have szm:=md.size
  have hsub3: ∀b,O2 b→O b∨h.size≤b:=fun b hb=>(hsub2 b hb).elim (hsub b) fun h1=> .inr (by omega)
  have md3:Mod O h h3:=md.then (m3.weak fun b _ hb=>hsub b hb)
  refine⟨g,rfl,PIf.intro (fun hq=>?_) (fun hq=>?_)⟩
  ·have hg:g=false:=by simpa using hq
   subst hg
   exact⟨rfl,j+1,false,O2,md3,hsub3,hj3,(fun h=>by cases h),by rw[hdl];omega⟩
  ·have hg:g=true:=by simpa using hq
   subst hg
   refine atI ⟨by omega,?_⟩
   have hnx:=(L.mod md3 hdO).next (p:=atK key l+j+1) (i:=0) (by omega) (by omega)
   have ea:addrAt t ns (atK key l+j+1)=⟨y.blk,0,none⟩:=by simp[addrAt,hy]
   rw[ea,Kl.link _ 0 (by omega) (by omega) (by have:=(Kl.ht y (List.mem_of_getElem? hy)).1;simp[Pg,hy];omega),OL Kl.ht] at hnx
   refine AP.mk hnx ?_
   exact hK (l.length-(atK key l+(j+1))) _ _ (by omega) ⟨j+1,O2,rfl,rfl,by omega,md3,hsub3,hj3⟩
theorem AFR {A:Amb}{h:Heap}{t:Nat}{ns:List CX}{l:List Pr}{key:ByteArray}{R:Value→Heap→Prop}(T:Tab h t ns l)
  (H: ∀fv h',DF A P fv (fun d=>inT t ns d∨d=h.size∨d=h.size+1) h' (l.drop (atK key l))→Ext h h'→h'.size=h.size+2→R fv h'):AA A P FN #[.pointer (some ⟨t,0,none⟩),.string key] h R:=by
 refine Ul ?_
 unfold Ji
 refine New.mk fun h1 _ hb1 x1 hs1=>New.mk fun h2 _ hb2 x2 hs2=>?_
 have x02:Ext h h2:=x1.trans x2
 have hh:=AJY (A:=A) (x2.blk hb1 (by simp)) hb2 (T.ext x02) (key:=key)
 refine H _ h2 (hh.weak ?_ ?_ (fun c _=>rfl)) x02 (by omega)
 ·rintro d (hd|rfl|rfl)
  ·exact .inl hd
  ·exact .inr (.inl rfl)
  ·exact .inr (.inr hs1)
 ·rintro d (hd|rfl|rfl)
  ·exact(T.ext x02).lt hd
  ·omega
  ·omega
theorem AII(l:List Pr):atK ⟨#[]⟩ l=0:=by
 have: ∀x:ByteArray,sLt x ⟨#[]⟩=false:=fun x=>by
  have e:(⟨#[]⟩:ByteArray).toList= []:=by simp[ByteArray.toList_eq]
  unfold sLt
  rw[e]
  cases x.toList<;>rfl
 cases l with
 |nil=>rfl
 |cons x l=>simp[atK,AAb,this]
theorem Yy(l:List Pr):l.drop (atK ⟨#[]⟩ l)=l:=by rw[AII];rfl
def qb:Pr:=⟨⟨#[98]⟩,⟨#[49]⟩,false⟩
end Go.Lf.G.M

