/-
 Contracts: several sequences as one.
-/
import Derived.Test.YtdmlhpjdmgaggaaGreatDoorLfY7ToM3
set_option linter.unusedVariables false
set_option linter.unusedSimpArgs false
set_option maxRecDepth 100000
namespace Go.Lf.G.M
open Go Go.Lf Go.Lf.G
theorem Ns: ∀(a:List UInt8),Op.bytesLess a a=false
 | []=>rfl
 |a::x=>by simp[Op.bytesLess,Ns x]
theorem Yv: ∀(a b:List UInt8),Op.bytesLess a b=false→Op.bytesLess b a=false→a=b
 | [],[],_,_=>rfl
 | [],_::_,h,_=>by simp[Op.bytesLess] at h
 |_::_,[],_,h=>by simp[Op.bytesLess] at h
 |a::x,b::y,h1,h2=>by
  simp only[Op.bytesLess,Bool.or_eq_false_iff,Bool.and_eq_false_iff,decide_eq_false_iff_not,beq_eq_false_iff_ne] at h1 h2
  have hab:a=b:=by
   have h3:=h1.1;have h4:=h2.1
   exact UInt8.le_antisymm (UInt8.not_lt.1 h4) (UInt8.not_lt.1 h3)
  subst hab
  rw[Yv x y (h1.2.resolve_left (by simp)) (h2.2.resolve_left (by simp))]
theorem QH: ∀(a b c:List UInt8),Op.bytesLess a b=true→Op.bytesLess b c=true→Op.bytesLess a c=true
 |_,[],_,h,_=>by simp[Op.bytesLess] at h
 |_,_::_,[],_,h=>by simp[Op.bytesLess] at h
 | [],_::_,_::_,_,_=>by simp[Op.bytesLess]
 |a::x,b::y,c::z,h1,h2=>by
  simp only[Op.bytesLess,Bool.or_eq_true,Bool.and_eq_true,decide_eq_true_eq,beq_iff_eq] at h1 h2 ⊢
  rcases h1 with h1|⟨rfl,h1⟩
  ·rcases h2 with h2|⟨rfl,h2⟩
   ·exact .inl (UInt8.lt_trans h1 h2)
   ·exact .inl h1
  ·rcases h2 with h2|⟨rfl,h2⟩
   ·exact .inl h2
   ·exact .inr ⟨rfl,QH x y z h1 h2⟩
theorem Bb(a:ByteArray):sLt a a=false:=Ns _
theorem CZ {a b c:ByteArray}(h1:sLt a b=true)(h2:sLt b c=true):sLt a c=true:=QH _ _ _ h1 h2
theorem K9 {a b:ByteArray}(h1:sLt a b=false)(h2:sLt b a=false):a=b:=by
 have:=Yv _ _ h1 h2
 have h3:sEq a b=true:=by simp[sEq,this]
 rw[BZ] at h3
 simpa using h3
theorem Nl {a b:ByteArray}(h1:sLt a b=true):sLt b a=false:=by
 cases h:sLt b a
 ·rfl
 ·have:=CZ h1 h;rw[Bb] at this;cases this
theorem ADb {a b c:ByteArray}(h1:sLt a b=true)(h2:sLt c b=false):sLt a c=true:=by
 cases h:sLt b c
 ·rw [K9 h2 h];exact h1
 ·exact CZ h1 h
theorem VO {a b c:ByteArray}(h1:sLt b a=false)(h2:sLt c b=false):sLt c a=false:=by
 cases h:sLt c a
 ·rfl
 ·have:=ADb h h1;rw[this] at h2;cases h2
def upto(p q:Pr):Bool:=sLt q.key p.key||sEq q.key p.key
def Ga(p:Pr)(l:List Pr):List Pr:=l.dropWhile (upto p)
inductive Jd:List (List Pr)→List Pr→Prop
 |done {ls:List (List Pr)} (h: ∀l,l∈ls→l= []):Jd ls []
 |step {ls:List (List Pr)} {k:Nat} {p:Pr} {t out:List Pr} (hk:ls[k]? =some (p::t))
   (hmin: ∀j q u,ls[j]? =some (q::u)→sLt q.key p.key=false∧(j<k→sLt p.key q.key=true)) (hm:Jd (ls.map (Ga p)) out):Jd ls (p::out)
theorem Jd.nil_inv {ls:List (List Pr)}{out:List Pr}(m:Jd ls out)(h: ∀l,l∈ls→l= []):out= []:=by
 cases m with
 |done _=>rfl
 |step hk hmin hm=>have:=h _ (List.mem_of_getElem? hk);cases this
theorem Jd.step_inv {ls:List (List Pr)}{out:List Pr}(m:Jd ls out){k:Nat}{p:Pr}{t:List Pr}(hk:ls[k]? =some (p::t))
  (hmin: ∀j q u,ls[j]? =some (q::u)→sLt q.key p.key=false∧(j<k→sLt p.key q.key=true)): ∃out',out=p::out'∧Jd (ls.map (Ga p)) out':=by
 cases m with
 |done h=>have:=h _ (List.mem_of_getElem? hk);cases this
 | @step _ k2 p2 t2 out2 hk2 hmin2 hm2=>
  have e:k=k2:=by
   rcases Nat.lt_trichotomy k k2 with h|h|h
   ·have h1:=(hmin2 _ _ _ hk).2 h
    rw[(hmin _ _ _ hk2).1] at h1;cases h1
   ·exact h
   ·have h1:=(hmin _ _ _ hk2).2 h
    rw[(hmin2 _ _ _ hk).1] at h1;cases h1
  subst e
  rw[hk] at hk2
  cases hk2
  exact⟨out2,rfl,hm2⟩
theorem ADy {α:Type}: ∀(cs:List α) (n i:Nat) (v:α),(cs.set i v).take n=(cs.take n).set i v
 | [],n,i,v=>by simp
 |c::cs,0,i,v=>by simp
 |c::cs,n+1,0,v=>by simp
 |c::cs,n+1,i+1,v=>by simp[ADy cs n i v]
end Go.Lf.G.M
namespace Go.Lf
open G
theorem Own.storeM {T:TypeId}{h:Heap}{s:Sl}{l:List Sl}(o:Own SlE T h s l){i:Nat}(hi:i<l.length){x:Sl}{K:Heap→Prop}{a:Addr}(ha:s.p=some a)
  (H: ∀h',Own SlE T h' s (l.set i x)→Mod (fun b=>s.blk=some b) h h'→h'.size=h.size→K h'):Store h (a.add (i*1)) (.slice x.p x.len x.cap) K:=by
 rcases o.row with⟨rfl,_⟩|⟨g,cur,hp,hg,h1,h2,h3,h4⟩
 ·simp at ha
 ·rw [hp] at ha;cases ha
  rw[Bg,Nat.zero_add,Nat.mul_one]
  have hw:SlE.w=1:=rfl
  rw[hw,Nat.mul_one] at h3 h4
  have hlen:=o.len
  refine Store.mk hg (by omega) fun h' hb m hsz=>H h' ⟨by simpa using o.len,.inr ⟨g,_,hp,hb,h1,h2,by simp[h3,hw],?_⟩⟩ (m.weak fun b _ hb=>by simp[Sl.blk,hp,hb]) hsz
  rw[hw,Nat.mul_one,Array.toList_setIfInBounds,Go.Lf.G.M.ADy,h4]
  have e: ∀l:List Sl,l.flatMap SlE.enc=l.map (fun s=>Value.slice s.p s.len s.cap):=fun l=>by
   induction l with
   |nil=>rfl
   |cons y l ih=>rw[List.flatMap_cons,ih];rfl
  rw[e,e,List.map_set]
end Go.Lf
namespace Go.Lf.G.M
open Go Go.Lf Go.Lf.G
structure Wl (lo:Nat) (h:Heap) (O:Nat→Prop) (t:Sl) (sls:List Sl) (ls:List (List Pr)):Prop where
 len:sls.length=ls.length
 row: ∀(j:Nat) (sl:Sl) (l:List Pr),sls[j]? =some sl→ls[j]? =some l→View Ak h sl l∧l.length≤1099511627776∧ ∀c,sl.blk=some c→lo≤c∧c<h.size∧t.blk≠some c∧ ¬O c
theorem Wl.mod {lo:Nat}{h h':Heap}{O O':Nat→Prop}{t t':Sl}{sls:List Sl}{ls:List (List Pr)}{S:Nat→Prop}(r:Wl lo h O t sls ls)(m:Mod S h h')(hS: ∀c,lo≤c→c<h.size→t.blk≠some c→ ¬O c→ ¬S c)
  (ht: ∀c,c<h.size→t'.blk=some c→t.blk=some c) (hO: ∀c,c<h.size→O' c→O c):Wl lo h' O' t' sls ls:=
 ⟨r.len,fun j sl l h1 h2=>by
  obtain⟨v,hl,hc⟩:=r.row j sl l h1 h2
  refine⟨v.mod m fun c hb=>hS c (hc c hb).1 (hc c hb).2.1 (hc c hb).2.2.1 (hc c hb).2.2.2,hl,fun c hb=>?_⟩
  obtain⟨h1,h2,h3,h4⟩:=hc c hb
  have:=m.size
  exact⟨h1,by omega,fun e=>h3 (ht c h2 e),fun e=>h4 (hO c h2 e)⟩⟩
end Go.Lf.G.M
namespace Go.Lf
open G
theorem View.val {h:Heap}{s:Sl}{vs:List AAZ}(v:View AGZ h s vs){i:Nat}{x:AAZ}(hi:vs[i]? =some x): ∃a,s.p=some a∧hget h (a.add (i*1))=some x.v:=by
 obtain⟨a,ha,hc⟩:=v.cells i x hi
 exact⟨a,ha,hc.val⟩
end Go.Lf
namespace Go.Lf.G.M
open Go Go.Lf Go.Lf.G
theorem ALw {A:Amb}{h0:Heap}{b:Nat}{T:TypeId}{fr:Nat×Nat}{s:Sl}{S:Nat→Prop}{vs:List AAZ}{os:List (Option (List Pr))}{out:List Pr}(hb:h0[b]? =some (.cells #[.slice s.p s.len s.cap] T fr))(v:View AGZ h0 s vs)
  (hl:vs.length≤1099511627776) (hos:os.length=vs.length)
  (it: ∀(i:Nat) (v:AAZ),vs[i]? =some v→(v.v= .nilFunc∧os[i]? =some none)∨ ∃l,os[i]? =some (some l)∧DF A P v.v S h0 l∧l.length≤1099511627776) (hm:Jd (os.filterMap id) out) (hSlt: ∀b,S b→b<h0.size):
  DF A P (.func (.func J2) #[] #[.pointer (some ⟨b,0,none⟩)]) (fun c=>S c∨(c<h0.size∧(c=b∨s.blk=some c))) h0 out:=by
 have hbl:=Ah hb
 refine⟨?_,_,_,rfl,fun yv=>by kernel_rfl,fun h hS yv J O hy hd hB hY hJ=>?_⟩
 ·rintro c (hc|hc)
  ·exact hSlt c hc
  ·exact hc.1
 rw[AML]
 refine ZF ?_
 unfold Mq
 have hOlt:=hB.wf _ _ _ _ hJ
 have hbh:h[b]? =some (.cells #[.slice s.p s.len s.cap] T fr):=(hS b (.inr ⟨hbl,.inl rfl⟩)).trans hb
 have hvh: ∀i x,vs[i]? =some x→ ∃a,s.p=some a∧hget h (a.add (i*1))=some x.v:=fun i x hi=>by
  obtain⟨a,ha,hg⟩:=v.val hi
  refine⟨a,ha,?_⟩
  have hlt:=UU hg
  rw[add_block] at hlt
  have e:=hS _ (.inr ⟨hlt,.inr (by simp[Sl.blk,ha])⟩)
  exact(MC (by rw[add_block];exact e)).trans hg
 have hSh: ∀c,S c→c<h.size:=fun c hc=>by
  have:=hS c (.inl hc)
  rw[Array.getElem?_eq_getElem (hSlt c hc)] at this
  exact Ah this
 refine AZ.mk (AC hbh rfl) ?_
 refine Loop.rule (fun m x hh=> ∃(i:Nat) (t:Sl) (sls:List Sl),x=(t,(i:Int),())∧m=vs.length-i∧i≤vs.length∧Ext h hh∧Own SlE AV hh t sls∧(∀ c,t.blk=some c→h.size≤c)∧Wl h.size hh O t sls ((os.take i).filterMap id)∧sls.length≤i) ?_
  ⟨0,⟨none,0,0⟩,[],rfl,rfl,by omega,Mod.refl,Own.nil,fun c hc=>by simp[Sl.blk] at hc,⟨by simp,fun j sl l h=>by simp at h⟩,by simp⟩
 rintro K m _ hh ⟨i,t,sls,rfl,rfl,hi,hx,o,hbt,hr,hsl⟩ hK
 refine PIf.intro (fun hq=>?_) (fun hq=>?_)
 ·have hi':i<vs.length:=by simp[v.len] at hq;omega
  have hgi:=List.getElem?_eq_getElem hi'
  refine Join.mk fun K1 hK1=>?_
  obtain⟨a,ha,hg⟩:=hvh i _ hgi
  refine Idx.mk ha (by rw[v.len];exact hi') ?_
  refine PP.mk (hx.hget hg) ?_
  rcases it i _ hgi with⟨hv,ho⟩|⟨l,ho,hit,hlb⟩
  ·refine⟨by rw[hv];trivial,PIf.no (by rw[hv];rfl) ?_⟩
   refine hK1 _ _ (hK (vs.length-(i+1)) _ _ (by omega) ⟨i+1,t,sls,by rw[AR (by omega)],rfl,by omega,hx,o,hbt,?_,by omega⟩)
   have:(os.take (i+1)).filterMap id=(os.take i).filterMap id:=by rw[List.take_add_one,ho];simp
   rw[this];exact hr
  ·refine⟨hit.one.2.1,PIf.yes (by rw[hit.one.2.2];rfl) ?_⟩
   refine TR hit (fun c hc=>(hx.get c (hSh c hc) (by simp)).trans (hS c (.inl hc))) hlb fun s3 h3 o3 hb3 x3=>⟨s3,rfl,?_⟩
   refine New.append1 (E:=SlE) (x:=s3) rfl AJX (o.ext x3) (by omega) (by simp[maxLen];omega) fun s4 h4 o4 m4 bl4 _=>?_
   have x04:Ext h h4:=(hx.trans x3).then (m4.weak fun c _ hc=> .inr (hbt c hc))
   refine hK1 _ _ (hK (vs.length-(i+1)) _ _ (by omega) ⟨i+1,s4,_,by rw[AR (by omega)],rfl,by omega,x04,o4,?_,?_,?_⟩)
   ·intro c hc
    rcases bl4 c hc with h1|h1
    ·exact hbt c h1
    ·have:=hx.size;have:=x3.size;omega
   ·have e:(os.take (i+1)).filterMap id=(os.take i).filterMap id++ [l]:=by rw[List.take_add_one,ho];simp
    rw[e]
    have r4:=(hr.mod x3 (fun c _ _ _ _ h=>h) (fun c _ h=>h) (fun c _ h=>h)).mod (t':=s4) m4 (fun c _ _ hn _=>hn) (fun c hc h1=>(bl4 c h1).elim id fun h2=>by omega) (fun c _ h=>h)
    refine⟨by simp[r4.len],fun j sl l' h1 h2=>?_⟩
    rcases Nat.lt_trichotomy j sls.length with hj|hj|hj
    ·rw [List.getElem?_append_left hj] at h1
     rw[List.getElem?_append_left (by rw[← r4.len];exact hj)] at h2
     exact r4.row j sl l' h1 h2
    ·subst hj
     rw[List.getElem?_concat_length] at h1
     rw[r4.len,List.getElem?_concat_length] at h2
     cases h1;cases h2
     have hne:t.blk≠s3.blk∨s3.blk=none:=by
      cases hs:s3.blk with
      |none=>exact .inr rfl
      |some c=>
       refine .inl fun e=>?_
       have:=o.lt e;have:=hb3 c hs;omega
     refine⟨(o3.view).mod m4 fun c hc hn=>?_,hlb,fun c hc=>⟨?_,?_,?_,?_⟩⟩
     ·have:=o.lt hn;have:=hb3 c hc;omega
     ·have:=hb3 c hc;have:=hx.size;omega
     ·have:=o3.lt hc;have:=m4.size;omega
     ·intro h1
      have:=o3.lt hc
      rcases bl4 c h1 with h2|h2
      ·have:=o.lt h2;have:=hb3 c hc;omega
      ·omega
     ·intro h1;have:=hOlt c h1;have:=hb3 c hc;have:=hx.size;omega
    ·rw [List.getElem?_eq_none (by simp;omega)] at h1;cases h1
   ·simp;omega
 ·have hi':i=vs.length:=by simp[v.len] at hq;omega
  rw[hi',←hos,List.take_length] at hr
  have hJh:=hB.stable _ _ _ _ _ hJ (hx.weak (S':=fun b=>¬O b∧h.size≤b) fun _ _ h=>h.elim)
  refine Loop.rule (fun m _ hh=> ∃(i:Nat) (O1:Nat→Prop) (sls:List Sl) (cur:List (List Pr)) (out':List Pr),Jd cur out'∧m=out'.length∧(∀ k,out[i+k]? =out'[k]?)∧i+out'.length=out.length∧Mod O h hh∧(∀ b,O1 b→O b∨h.size≤b)∧J i true O1 hh∧
    Own SlE AV hh t sls∧(∀ c,t.blk=some c→ ¬O1 c)∧Wl h.size hh O1 t sls cur∧sls.length≤1099511627776) ?_
   ⟨0,O,sls,_,out,hm,rfl,fun k=>by rw[Nat.zero_add],by omega,hx.mod,fun b hb=> .inl hb,hJh,o,fun c hc hn=>by have:=hOlt c hn;have:=hbt c hc;omega,hr,by omega⟩
  clear hK hr hx o hsl hJh
  rintro K2 m _ hh ⟨i,O1,sls,cur,out',hmg,rfl,hout,hlen,hmd,hsub,hj,o,hnt,hr,hsl⟩ hK
  have hO1lt:=hB.wf _ _ _ _ hj
  refine Loop.rule (fun m x h7=> ∃(n:Nat) (bi:Int),x=(bi,(n:Int),())∧h7=hh∧m=cur.length-n∧n≤cur.length∧((bi= -1∧ ∀j l,j<n→cur[j]? =some l→l= [])∨
   ∃k p u,bi=(k:Nat)∧k<n∧cur[k]? =some (p::u)∧ ∀j q w,j<n→cur[j]? =some (q::w)→sLt q.key p.key=false∧(j<k→sLt p.key q.key=true))) ?_
   ⟨0,-1,rfl,rfl,rfl,by omega,.inl ⟨rfl,fun j l h=>by omega⟩⟩
  rintro K3 m _ h7 ⟨n,bi,rfl,hh7,rfl,hn,hbest⟩ hK3
  subst hh7
  have hlc:=hr.len
  refine PIf.intro (fun hq=>?_) (fun hq=>?_)
  ·have hn':n<cur.length:=by simp[o.len] at hq;omega
   have hgn:=List.getElem?_eq_getElem hn'
   have hgs:=List.getElem?_eq_getElem (l:=sls) (i:=n) (by omega)
   obtain⟨vn,hvb,_⟩:=hr.row n _ _ hgs hgn
   refine Join.mk fun K4 hK4=>?_
   refine o.view.idx hgs fun a2 _ c2=>?_
   refine AZ.mk c2.sl ?_
   refine Join.mk fun K5 hK5=>?_
   have hkeep:((bi= -1∧ ∀j l,j<n+1→cur[j]? =some l→l= [])∨
     ∃k p u,bi=(k:Nat)∧k<n+1∧cur[k]? =some (p::u)∧ ∀j q w,j<n+1→cur[j]? =some (q::w)→sLt q.key p.key=false∧(j<k→sLt p.key q.key=true))→K5 (false,()) h7:=fun e=>
    hK5 _ _ (PIf.no rfl (hK4 _ _ (hK3 (cur.length-(n+1)) _ _ (by omega) ⟨n+1,bi,by rw[AR (by omega)],rfl,rfl,by omega,e⟩)))
   have hnew:(∃ k p u,(n:Int)=(k:Nat)∧k<n+1∧cur[k]? =some (p::u)∧ ∀j q w,j<n+1→cur[j]? =some (q::w)→sLt q.key p.key=false∧(j<k→sLt p.key q.key=true))→K5 (true,()) h7:=fun e=>
    hK5 _ _ (PIf.yes rfl (hK4 _ _ (hK3 (cur.length-(n+1)) _ _ (by omega) ⟨n+1,n,by rw[AR (by omega)],rfl,rfl,by omega,.inr e⟩)))
   refine PIf.intro (fun hq=>?_) (fun hq=>?_)
   ·cases hcn:cur[n] with
    |nil=>rw[hcn] at vn;have:=vn.len;simp[this] at hq
    |cons q w=>
     rw[hcn] at vn hgn
     rcases hbest with⟨rfl,he⟩|⟨k,p,u,rfl,hk,hgk,hmin⟩
     ·refine PIf.yes (by simp) (hnew ⟨n,q,w,rfl,by omega,hgn,fun j q' w' hj hgj=>?_⟩)
      rcases Nat.lt_or_ge j n with h1|h1
      ·have:=he j _ h1 hgj;cases this
      ·have:j=n:=by omega
       subst this
       rw[hgn] at hgj;cases hgj
       exact⟨Bb _,fun h=>by omega⟩
     ·refine PIf.no (by simp) ?_
      refine vn.idx (i:=0) (x:=q) rfl fun a3 _ c3=>?_
      refine AL.mk c3.pair.1 ?_
      have hgsk:=List.getElem?_eq_getElem (l:=sls) (i:=k) (by omega)
      obtain⟨vk,_,_⟩:=hr.row k _ _ hgsk hgk
      refine o.view.idx hgsk fun a4 _ c4=>?_
      refine AZ.mk c4.sl ?_
      refine vk.idx (i:=0) (x:=p) rfl fun a5 _ c5=>?_
      refine AL.mk c5.pair.1 ?_
      cases hs:sLt q.key p.key
      ·refine hkeep (.inr ⟨k,p,u,rfl,by omega,hgk,fun j q' w' hj hgj=>?_⟩)
       rcases Nat.lt_or_ge j n with h1|h1
       ·exact hmin j q' w' h1 hgj
       ·have:j=n:=by omega
        subst this
        rw[hgn] at hgj;cases hgj
        exact⟨hs,fun h=>by omega⟩
      ·refine hnew ⟨n,q,w,rfl,by omega,hgn,fun j q' w' hj hgj=>?_⟩
       rcases Nat.lt_or_ge j n with h1|h1
       ·have h2:=(hmin j q' w' h1 hgj).1
        have h3:=ADb hs h2
        exact⟨Nl h3,fun _=>h3⟩
       ·have:j=n:=by omega
        subst this
        rw[hgn] at hgj;cases hgj
        exact⟨Bb _,fun h=>by omega⟩
   ·have hcn:cur[n]= []:=by
     have:=vn.len
     cases hcn:cur[n] with
     |nil=>rfl
     |cons q w=>rw[hcn] at this;simp[this] at hq
    rw[hcn] at hgn
    refine hkeep ?_
    rcases hbest with⟨rfl,he⟩|⟨k,p,u,rfl,hk,hgk,hmin⟩
    ·refine .inl ⟨rfl,fun j l hj hgj=>?_⟩
     rcases Nat.lt_or_ge j n with h1|h1
     ·exact he j l h1 hgj
     ·have:j=n:=by omega
      subst this
      rw[hgn] at hgj;cases hgj;rfl
    ·refine .inr ⟨k,p,u,rfl,by omega,hgk,fun j q' w' hj hgj=>?_⟩
     rcases Nat.lt_or_ge j n with h1|h1
     ·exact hmin j q' w' h1 hgj
     ·have:j=n:=by omega
      subst this
      rw[hgn] at hgj;cases hgj
  ·have hn':n=cur.length:=by simp[o.len] at hq;omega
   subst hn'
   clear hK3
   rcases hbest with⟨rfl,he⟩|⟨k,p,u,rfl,hk,hgk,hmin⟩
   ·refine PIf.yes (by simp) ?_
    have:out'= []:=hmg.nil_inv fun l hl=>by
     obtain⟨j,hj,e⟩:=List.getElem_of_mem hl
     exact he j l hj (by rw[List.getElem?_eq_getElem hj,e])
    subst this
    refine⟨rfl,i,true,O1,hmd,hsub,hj,fun _=>by have:=hlen;simp only[List.length_nil] at this;omega,by have:=hlen;simp only[List.length_nil] at this;omega⟩
   ·refine PIf.no (by simp) ?_
    have hmin': ∀j q w,cur[j]? =some (q::w)→sLt q.key p.key=false∧(j<k→sLt p.key q.key=true):=fun j q w hg=>hmin j q w (List.getElem?_eq_some_iff.1 hg).1 hg
    obtain⟨out2,rfl,hmg2⟩:=hmg.step_inv hgk hmin'
    have hgsk:=List.getElem?_eq_getElem (l:=sls) (i:=k) (by omega)
    obtain⟨vk,_,_⟩:=hr.row k _ _ hgsk hgk
    refine o.view.idx hgsk fun a4 _ c4=>?_
    refine AZ.mk c4.sl ?_
    refine vk.idx (i:=0) (x:=p) rfl fun a5 _ c5=>?_
    refine AL.mk c5.pair.1 (AL.mk c5.pair.2.1 (Ab.mk c5.pair.2.2 ?_))
    refine New.pair fun b1 h13 eb hb1 x13 hs13=>?_
    have o13:=o.ext x13
    have r13:Wl h.size h13 O1 t sls cur:=hr.mod x13 (fun c _ _ _ _ h=>h) (fun c _ h=>h) (fun c _ h=>h)
    have hj13:J i true O1 h13:=hB.stable _ _ _ _ _ hj (x13.weak (S':=fun b=>¬O1 b∧h.size≤b) fun _ _ h=>h.elim)
    have htb:t.blk≠some b1:=fun e=>by have:=o.lt e;omega
    refine Loop.rule (fun m x h14=> ∃(n:Nat) (sls':List Sl),x=((n:Int),())∧m=cur.length-n∧n≤cur.length∧Mod (fun c=>t.blk=some c) h13 h14∧Own SlE AV h14 t sls'∧Wl h.size h14 O1 t sls' ((cur.take n).map (Ga p)++cur.drop n)) ?_
     ⟨0,sls,rfl,rfl,by omega,Mod.refl,o13,by simpa using r13⟩
    rintro K6 m _ h14 ⟨n,sls',rfl,rfl,hn,m14,o14,r14⟩ hK6
    have hlc':sls'.length=cur.length:=by have:=r14.len;simp at this;omega
    have hb14:=m14.blk hb1 htb
    refine PIf.intro (fun hq=>?_) (fun hq=>?_)
    ·have hn':n<cur.length:=by simp[o14.len] at hq;omega
     have hgs:=List.getElem?_eq_getElem (l:=sls') (i:=n) (by omega)
     have hgn:((cur.take n).map (Ga p)++cur.drop n)[n]? =some cur[n]:=by
      rw[List.getElem?_append_right (by simp;omega)]
      simp;rw[Nat.min_eq_left (by omega),Nat.sub_self];simp[hn']
     obtain⟨vn,hvb,hvc⟩:=r14.row n _ _ hgs hgn
     refine o14.view.idx hgs fun a8 ha8 c8=>?_
     refine AZ.mk c8.sl ?_
     refine Loop.rule (fun m x h15=> ∃(y:Sl) (l':List Pr),x=(y,())∧h15=h14∧m=l'.length∧View Ak h14 y l'∧(∀ c,y.blk=some c→sls'[n].blk=some c)∧Ga p l'=Ga p cur[n]∧l'.length≤1099511627776) ?_
      ⟨_,_,rfl,rfl,rfl,vn,fun c h=>h,rfl,hvb⟩
     rintro K7 m _ h15 ⟨y,l',rfl,hh15,rfl,vy,hyb,hdw,hyl⟩ hK7
     subst hh15
     refine Join.mk fun K8 hK8=>?_
     have hend:Ga p l'=l'→K8 (false,()) h15:=fun e=>hK8 _ _ (PIf.no rfl (by
      refine o14.view.idx hgs fun a9 ha9 _=>?_
      refine o14.storeM (i:=n) (by omega) ha9 fun h17 o17 m17 hs17=>?_
      refine hK6 (cur.length-(n+1)) _ _ (by omega) ⟨n+1,_,by rw[AR (by omega)],rfl,by omega,m14.trans m17,o17,?_⟩
      have r17:Wl h.size h17 O1 t sls' ((cur.take n).map (Ga p)++cur.drop n):=r14.mod m17 (fun c _ _ hn _=>hn) (fun c _ h=>h) (fun c _ h=>h)
      refine⟨?_,fun j sl l h1 h2=>?_⟩
      ·simp [hlc'];omega
      ·rcases Nat.lt_trichotomy j n with hjn|hjn|hjn
       ·rw [List.getElem?_set_ne (by omega)] at h1
        refine r17.row j sl l h1 ?_
        rw[List.getElem?_append_left (by simp;omega)] at h2 ⊢
        rw[List.getElem?_map,List.getElem?_take_of_lt (by omega)] at h2 ⊢
        exact h2
       ·subst hjn
        rw[List.getElem?_set_self (by omega)] at h1
        cases h1
        rw[List.getElem?_append_left (by simp;omega),List.getElem?_map,List.getElem?_take_of_lt (by omega),List.getElem?_eq_getElem hn'] at h2
        simp at h2
        subst h2
        rw[← hdw,e]
        obtain⟨_,_,hc⟩:=r17.row j _ _ hgs hgn
        exact⟨vy.mod m17 fun c hb=>(hc c (hyb c hb)).2.2.1,hyl,fun c hb=>hc c (hyb c hb)⟩
       ·rw [List.getElem?_set_ne (by omega)] at h1
        refine r17.row j sl l h1 ?_
        rw[List.getElem?_append_right (by simp;omega)] at h2 ⊢
        simp only[List.length_map,List.length_take,List.getElem?_drop] at h2 ⊢
        rw[← h2];congr 1;omega))
     refine PIf.intro (fun hq=>?_) (fun hq=>?_)
     ·cases l' with
      |nil=>have:=vy.len;simp[this] at hq
      |cons q w=>
       refine vy.idx (i:=0) (x:=q) rfl fun a10 _ c10=>?_
       refine AL.mk c10.pair.1 (AL.mk (AC hb14 rfl) ?_)
       cases hu:(sLt q.key p.key||sEq q.key p.key)
       ·exact hend (by simp[Ga,upto,hu])
       ·have hyl':=vy.len
        simp at hyl' hyl
        refine hK8 _ _ (PIf.yes rfl ⟨⟨by omega,by show(1:Int)≤((y.len:Nat):Int);omega⟩,hK7 w.length _ _ (by simp) ⟨_,w,rfl,rfl,rfl,?_,?_,?_,by omega⟩⟩)
        ·have:=vy.sub (lo:=1) (hi:=(q::w).length) (by simp) (Nat.le_refl _)
         rw[List.take_length,←vy.len] at this
         exact this
        ·intro c hc;exact hyb c (RO hc)
        ·rw [← hdw];simp[Ga,upto,hu]
     ·have:l'= []:=by
       have:=vy.len
       cases l' with
       |nil=>rfl
       |cons q w=>simp[this] at hq
      subst this
      exact hend rfl
    ·have hn':n=cur.length:=by simp[o14.len] at hq;omega
     subst hn'
     rw[List.take_length,List.drop_length,List.append_nil] at r14
     refine AL.mk (AC hb14 rfl) (AL.mk (AB hb14 rfl) (Ab.mk (AB hb14 rfl) ?_))
     have hj14:J i true O1 h14:=hB.stable _ _ _ _ _ hj13 (m14.weak fun c _ hc=>⟨hnt c hc,hbt c hc⟩)
     have hgo:out[i]? =some p:=by have:=hout 0;simpa using this
     refine FE.mono (hY i p O1 h14 hgo hj14) ?_
     rintro _ h18 ⟨g,O2,rfl,hsub2,m18,hj18⟩
     have hs1:=m14.size
     have hs0:=hmd.size
     have hsub3: ∀b,O2 b→O b∨h.size≤b:=fun b hb=>(hsub2 b hb).elim (hsub b) fun hle=> .inr (by omega)
     have md14:Mod O h h14:=(hmd.trans x13.mod).then (m14.weak fun b _ hb=> .inr (hbt b hb))
     have md18:Mod O h h18:=md14.then (m18.weak fun b _ hb=>hsub b hb)
     refine⟨g,rfl,PIf.intro (fun hq=>?_) (fun hq=>?_)⟩
     ·have hg:g=false:=by simpa using hq
      subst hg
      exact⟨rfl,i+1,false,O2,md18,hsub3,hj18,(fun h=>by cases h),by simp at hlen;omega⟩
     ·have hg:g=true:=by simpa using hq
      subst hg
      refine hK out2.length _ _ (by simp) ⟨i+1,O2,sls',_,out2,hmg2,rfl,fun k=>?_,by simp at hlen;omega,md18,hsub3,hj18,o14.mod m18 (fun c hc=>hnt c hc),?_,?_,by omega⟩
      ·have:=hout (k+1)
       rw[show i+1+k=i+(k+1) by omega,this];rfl
      ·intro c hc h2
       rcases hsub2 c h2 with h3|h3
       ·exact hnt c hc h3
       ·have:=o14.lt hc;omega
      ·exact r14.mod m18 (fun c _ _ _ hn=>hn) (fun c _ h=>h) (fun c hc h2=>(hsub2 c h2).elim id fun h3=>by omega)
end Go.Lf.G.M

/-
 The plain law: lists of pairs in the order of their keys.
-/
namespace Go.Lf.G.M
open Go Go.Lf Go.Lf.G
def Sorted(l:List Pr):Prop:=l.Pairwise fun a b=>sLt a.key b.key=true
def Ag(k:ByteArray)(l:List Pr):Option Pr:=l.find? fun q=>decide (q.key=k)
theorem V4(k:ByteArray):Ag k []=none:=rfl
theorem Ay(k:ByteArray)(x:Pr)(l:List Pr):Ag k (x::l)=if x.key=k then some x else Ag k l:=by
 unfold Ag;rw[List.find?_cons];by_cases h:x.key=k<;>simp[h]
theorem NV {k:ByteArray}{l:List Pr}{x:Pr}(h:Ag k l=some x):x.key=k∧x∈l:=by
 unfold Ag at h
 exact⟨by simpa using List.find?_some h,List.mem_of_find?_eq_some h⟩
theorem Fg {k:ByteArray}{l:List Pr}(h: ∀x∈l,x.key≠k):Ag k l=none:=by
 unfold Ag;rw[List.find?_eq_none];simpa using h
theorem Ko {a b:ByteArray}(h:sLt a b=true):a≠b:=by rintro rfl;rw[Bb] at h;cases h
theorem Sorted.find {l:List Pr}(s:Sorted l){x:Pr}(hx:x∈l):Ag x.key l=some x:=by
 induction l with
 |nil=>cases hx
 |cons y l ih=>
  rw[Ay]
  have s':=List.pairwise_cons.1 s
  rcases List.mem_cons.1 hx with rfl|hx
  ·simp
  ·rw [if_neg (Ko (s'.1 x hx))];exact ih s'.2 hx
theorem Sorted.ext: ∀ {l m:List Pr},Sorted l→Sorted m→(∀ k,Ag k l=Ag k m)→l=m
 | [],[],_,_,_=>rfl
 | [],y::m,_,_,h=>by have:=h y.key;rw[Ay,if_pos rfl] at this;cases this
 |x::l,[],_,_,h=>by have:=h x.key;rw[Ay,if_pos rfl] at this;cases this
 |x::l,y::m,sl,sm,h=>by
  have sl':=List.pairwise_cons.1 sl
  have sm':=List.pairwise_cons.1 sm
  have hk:x.key=y.key:=by
   have h1:=h x.key
   have h2:=h y.key
   rw[Ay,if_pos rfl] at h1
   rw[Ay y.key y m,if_pos rfl] at h2
   have m1:=(NV h1.symm).2
   have m2:=(NV h2).2
   rcases List.mem_cons.1 m1 with e|m1
   ·rw [e]
   ·rcases List.mem_cons.1 m2 with e|m2
    ·rw [e]
    ·have a1:=sm'.1 x m1
     have a2:=sl'.1 y m2
     rw[Nl a1] at a2;cases a2
  have hxy:x=y:=by
   have h1:=h x.key
   rw[Ay,Ay,if_pos rfl,if_pos hk.symm] at h1
   exact Option.some.inj h1
  subst hxy
  rw[Sorted.ext sl'.2 sm'.2 fun k=>?_]
  have:=h k
  rw[Ay,Ay] at this
  by_cases hk:x.key=k
  ·subst hk
   rw[Fg fun y hy e=>Ko (sl'.1 y hy) e.symm,Fg fun y hy e=>Ko (sm'.1 y hy) e.symm]
  ·simpa [hk] using this
def ins(x:Pr):List Pr→List Pr
 | []=> [x]
 |q::l=>if sLt q.key x.key then q::ins x l else if q.key=x.key then x::l else x::q::l
theorem Xl(x:Pr): ∀l,Tx x l=ins x l
 | []=>rfl
 |q::l=>by
  unfold ins
  cases h:sLt q.key x.key
  ·have e:AAb x.key (q::l)= []:=by simp[AAb,h]
   by_cases hk:q.key=x.key
   ·simp [Tx,atK,e,Bc,hk]
   ·simp [Tx,atK,e,Bc,hk]
  ·have e:AAb x.key (q::l)=q::AAb x.key l:=by simp[AAb,h]
   have ea:atK x.key (q::l)=atK x.key l+1:=by simp[atK,e]
   have et:Bc x.key (q::l)=Bc x.key l:=by simp[Bc,ea]
   have ih:=Xl x l
   unfold Tx at ih ⊢
   rw[ea,et]
   have ht:(if Bc x.key l=true then atK x.key l+1+1 else atK x.key l+1)=(if Bc x.key l=true then atK x.key l+1 else atK x.key l)+1:=by split<;>rfl
   rw[ht,List.take_succ_cons,List.drop_succ_cons,List.cons_append,List.cons_append,ih]
   simp
theorem ACJ {x y:Pr}: ∀ {l:List Pr},y∈ins x l→y=x∨y∈l
 | [],h=>by simp[ins] at h;exact .inl h
 |q::l,h=>by
  unfold ins at h
  split at h
  ·rcases List.mem_cons.1 h with rfl|h
   ·exact .inr (by simp)
   ·rcases ACJ h with h|h
    ·exact .inl h
    ·exact .inr (by simp[h])
  ·split at h
   ·rcases List.mem_cons.1 h with rfl|h
    ·exact .inl rfl
    ·exact .inr (by simp[h])
   ·rcases List.mem_cons.1 h with rfl|h
    ·exact .inl rfl
    ·exact .inr h
theorem SV(x:Pr): ∀ {l:List Pr},Sorted l→Sorted (ins x l)
 | [],_=>List.pairwise_singleton _ _
 |q::l,s=>by
  have s':=List.pairwise_cons.1 s
  unfold ins
  split
  ·rename_i h
   refine List.pairwise_cons.2 ⟨fun y hy=>?_,SV x s'.2⟩
   rcases ACJ hy with rfl|hy
   ·exact h
   ·exact s'.1 y hy
  ·rename_i h
   split
   ·rename_i hk
    refine List.pairwise_cons.2 ⟨fun y hy=>?_,s'.2⟩
    have:=s'.1 y hy
    rwa [hk] at this
   ·rename_i hk
    have hlt:sLt x.key q.key=true:=by
     cases h2:sLt x.key q.key
     ·exact absurd (K9 (by simpa using h) h2) hk
     ·rfl
    refine List.pairwise_cons.2 ⟨fun y hy=>?_,s⟩
    rcases List.mem_cons.1 hy with rfl|hy
    ·exact hlt
    ·exact CZ hlt (s'.1 y hy)
theorem Uu(x:Pr)(k:ByteArray): ∀ {l:List Pr},Sorted l→Ag k (ins x l)=if x.key=k then some x else Ag k l
 | [],_=>by simp[ins,Ay,V4]
 |q::l,s=>by
  have s':=List.pairwise_cons.1 s
  unfold ins
  split
  ·rename_i h
   rw[Ay,Ay,Uu x k s'.2]
   by_cases h1:q.key=k
   ·have h2:x.key≠k:=by rw[← h1];exact fun e=>Ko h e.symm
    simp[h1,h2]
   ·simp [h1]
  ·split
   ·rename_i hk
    rw[Ay,Ay,hk]
    by_cases h1:x.key=k<;>simp[h1]
   ·rw [Ay]
def CV(l:List Pr):Prop:= ∀x∈l,Ap x=0
theorem Nz {x:Pr}{l:List Pr}(h:Ap x=0):DR x l=ins x l:=by simp[DR,h,Xl]
theorem Ml {x:Pr}{l:List Pr}(s:Sorted l):Sorted (DR x l):=by
 by_cases h:Ap x=0
 ·rw [Nz h];exact SV x s
 ·simpa [DR,h] using s
theorem Yb {x:Pr}{l:List Pr}(g:CV l):CV (DR x l):=by
 by_cases h:Ap x=0
 ·rw [Nz h];exact fun y hy=>(ACJ hy).elim (fun e=>e▸h) (g y)
 ·simpa [DR,h] using g
def BJ(t l:List Pr):List Pr:=l.foldl (fun t x=>DR x t) t
theorem Oh {l:List Pr}: ∀ {t},Sorted t→Sorted (BJ t l):=by
 induction l with
 |nil=>exact fun s=>s
 |cons x l ih=>exact fun s=>ih (Ml s)
theorem Te {l:List Pr}: ∀ {t},CV t→CV (BJ t l):=by
 induction l with
 |nil=>exact fun s=>s
 |cons x l ih=>exact fun s=>ih (Yb s)
theorem Np {l:List Pr}: ∀ {t},(BJ t l).length≤t.length+l.length:=by
 induction l with
 |nil=>exact fun {t}=>by simp[BJ]
 |cons x l ih=>intro t;have:=ih (t:=DR x t);have:=AJn x t;simp[BJ] at *;omega
theorem AGN {l:List Pr}(k:ByteArray): ∀ {t},Sorted t→Sorted l→CV l→Ag k (BJ t l)=(Ag k l).or (Ag k t):=by
 induction l with
 |nil=>intro t _ _ _;simp[BJ,V4]
 |cons x l ih=>
  intro t st sl g
  have sl':=List.pairwise_cons.1 sl
  show Ag k (BJ (DR x t) l)=_
  rw[ih (Ml st) sl'.2 (fun y hy=>g y (by simp[hy])),Nz (g x (by simp)),Uu x k st,Ay]
  by_cases h:x.key=k
  ·subst h
   rw[Fg fun y hy e=>Ko (sl'.1 y hy) e.symm]
   simp
  ·simp [h]
def Ai(ls:List (List Pr)):List Pr:=ls.reverse.foldl BJ []
theorem Kr(l:List Pr)(ls:List (List Pr)):Ai (l::ls)=BJ (Ai ls) l:=by simp[Ai,List.foldl_append]
theorem Cs: ∀ls,Sorted (Ai ls)
 | []=>List.Pairwise.nil
 |l::ls=>by rw[Kr];exact Oh (Cs ls)
structure OkL (ls:List (List Pr)):Prop where
 sorted: ∀l∈ls,Sorted l
 good: ∀l∈ls,CV l
def BD(k:ByteArray)(ls:List (List Pr)):Option Pr:=ls.findSome? (Ag k)
theorem Cw(k:ByteArray)(l:List Pr)(ls:List (List Pr)):BD k (l::ls)=(Ag k l).or (BD k ls):=by
 unfold BD;rw[List.findSome?_cons];cases Ag k l<;>rfl
theorem Hr(k:ByteArray): ∀ {ls},OkL ls→Ag k (Ai ls)=BD k ls
 | [],_=>rfl
 |l::ls,o=>by
  rw[Kr,AGN k (Cs ls) (o.sorted l (by simp)) (o.good l (by simp)),Hr k ⟨fun m hm=>o.sorted m (by simp[hm]),fun m hm=>o.good m (by simp[hm])⟩,Cw]
theorem Q8(p:Pr)(l:List Pr):(Ga p l).Sublist l:=List.dropWhile_sublist _
theorem AGI {p q:Pr}(h:upto p q=false):sLt p.key q.key=true:=by
 unfold upto at h
 rw[BZ] at h
 simp at h
 cases h2:sLt p.key q.key
 ·exact absurd (K9 h.1 h2) h.2
 ·rfl
theorem AIo {p q:Pr}(h:upto p q=true):sLt p.key q.key=false:=by
 unfold upto at h
 rw[BZ] at h
 simp at h
 rcases h with h|h
 ·exact Nl h
 ·rw [h];exact Bb _
theorem Vy {p q:Pr}: ∀ {l:List Pr},Sorted l→q∈Ga p l→sLt p.key q.key=true
 | [],_,h=>by cases h
 |y::l,s,h=>by
  have s':=List.pairwise_cons.1 s
  unfold Ga at h
  rw[List.dropWhile_cons] at h
  split at h
  ·exact Vy s'.2 h
  ·rename_i hy
   have h1:=AGI (p:=p) (q:=y) (by simpa using hy)
   rcases List.mem_cons.1 h with rfl|h
   ·exact h1
   ·exact CZ h1 (s'.1 q h)
theorem Ye {p:Pr}{k:ByteArray}(hk:sLt p.key k=true): ∀ {l:List Pr},Ag k (Ga p l)=Ag k l
 | []=>rfl
 |y::l=>by
  unfold Ga
  rw[List.dropWhile_cons]
  split
  ·rename_i hy
   have h1:=AIo hy
   rw[Ay,if_neg (by rintro rfl;rw[hk] at h1;cases h1)]
   exact Ye hk
  ·rfl
theorem Jd.ok {ls:List (List Pr)}{out:List Pr}(m:Jd ls out):(∀ l∈ls,Sorted l)→Sorted out∧ ∀k,Ag k out=BD k ls:=by
 induction m with
 |done h=>
  rename_i ls
  intro _
  refine⟨List.Pairwise.nil,fun k=>?_⟩
  have: ∀ls:List (List Pr),(∀ l∈ls,l= [])→BD k ls=none:=fun ls h=>by
   unfold BD
   rw[List.findSome?_eq_none_iff]
   intro l hl;rw[h l hl];rfl
  rw[this ls h];rfl
 | @step ls k p t out hk hmin hm ih=>
  intro hs
  have hs2: ∀l∈ls.map (Ga p),Sorted l:=fun l hl=>by
   obtain⟨l',hl',rfl⟩:=List.mem_map.1 hl
   exact(hs l' hl').sublist (Q8 p l')
  obtain⟨so,fo⟩:=ih hs2
  have hlow: ∀q∈out,sLt p.key q.key=true:=fun q hq=>by
   have h1:=so.find hq
   rw[fo] at h1
   unfold BD at h1
   obtain⟨l,hl,h2⟩:=List.exists_of_findSome?_eq_some h1
   obtain⟨l',hl',rfl⟩:=List.mem_map.1 hl
   exact Vy (hs l' hl') (NV h2).2
  refine⟨List.pairwise_cons.2 ⟨hlow,so⟩,fun c=>?_⟩
  have hbel: ∀l∈ls,∀q∈l,sLt q.key p.key=false:=fun l hl q hq=>by
   obtain⟨j,hj,e⟩:=List.getElem_of_mem hl
   cases l with
   |nil=>cases hq
   |cons y u=>
    have h1:=(hmin j y u (by rw[List.getElem?_eq_getElem hj,e])).1
    have s':=List.pairwise_cons.1 (hs _ hl)
    rcases List.mem_cons.1 hq with rfl|hq
    ·exact h1
    ·cases h2:sLt q.key p.key
     ·rfl
     ·have:=CZ (s'.1 q hq) h2;rw[this] at h1;cases h1
  rw[Ay]
  by_cases hc:p.key=c
  ·subst hc
   simp only[if_true]
   have: ∀(ls:List (List Pr)) (k:Nat),ls[k]? =some (p::t)→(∀ j q u,ls[j]? =some (q::u)→j<k→sLt p.key q.key=true)→(∀ l∈ls,Sorted l)→BD p.key ls=some p:=by
    intro ls
    induction ls with
    |nil=>intro k h;simp at h
    |cons l ls ih=>
     intro k h hm hs
     rw[Cw]
     cases k with
     |zero=>simp at h;subst h;rw[Ay,if_pos rfl];rfl
     |succ k=>
      have hn:Ag p.key l=none:=by
       cases l with
       |nil=>rfl
       |cons y u=>
        have h1:=hm 0 y u rfl (by omega)
        have s':=List.pairwise_cons.1 (hs _ (by simp:(y::u)∈(y::u)::ls))
        refine Fg fun x hx e=>?_
        rcases List.mem_cons.1 hx with rfl|hx
        ·rw [e,Bb] at h1;cases h1
        ·have:=CZ h1 (s'.1 x hx);rw[e,Bb] at this;cases this
      rw[hn,Option.none_or]
      exact ih k (by simpa using h) (fun j q u hj hjk=>hm (j+1) q u (by simpa using hj) (by omega)) (fun l hl=>hs l (by simp[hl]))
   rw[this ls k hk (fun j q u hj=>(hmin j q u hj).2) hs]
  ·rw [if_neg hc,fo]
   unfold BD
   cases h2:sLt p.key c
   ·
    have h3:sLt c p.key=true:=by
     cases h3:sLt c p.key
     ·exact absurd (K9 h2 h3) hc
     ·rfl
    have e1:(ls.map (Ga p)).findSome? (Ag c)=none:=by
     rw[List.findSome?_eq_none_iff]
     intro l hl
     obtain⟨l',hl',rfl⟩:=List.mem_map.1 hl
     refine Fg fun x hx e=>?_
     have:=Vy (hs l' hl') hx
     rw[e,h2] at this;cases this
    have e2:ls.findSome? (Ag c)=none:=by
     rw[List.findSome?_eq_none_iff]
     intro l hl
     refine Fg fun x hx e=>?_
     have:=hbel l hl x hx
     rw[e,h3] at this;cases this
    rw[e1,e2]
   ·have: ∀ls:List (List Pr),(ls.map (Ga p)).findSome? (Ag c)=ls.findSome? (Ag c):=fun ls=>by
     induction ls with
     |nil=>rfl
     |cons l ls ih=>rw[List.map_cons,List.findSome?_cons,List.findSome?_cons,Ye h2,ih]
    rw[this]
theorem QU: ∀(ls:List (List Pr)),(∀ l∈ls,l= [])∨ ∃(k:Nat) (p:Pr) (t:List Pr),ls[k]? =some (p::t)∧ ∀(j:Nat) (q:Pr) (u:List Pr),ls[j]? =some (q::u)→sLt q.key p.key=false∧(j<k→sLt p.key q.key=true)
 | []=> .inl fun l h=>by cases h
 |l::ls=>by
  cases l with
  |nil=>
   rcases QU ls with h|⟨k,p,t,hk,hm⟩
   ·refine .inl fun l hl=>?_
    rcases List.mem_cons.1 hl with rfl|hl
    ·rfl
    ·exact h l hl
   ·refine .inr ⟨k+1,p,t,by simpa using hk,fun j q u hj=>?_⟩
    cases j with
    |zero=>simp at hj
    |succ j=>have:=hm j q u (by simpa using hj);exact⟨this.1,fun h=>this.2 (by omega)⟩
  |cons y u=>
   rcases QU ls with h|⟨k,p,t,hk,hm⟩
   ·refine .inr ⟨0,y,u,rfl,fun j q w hj=>⟨?_,fun h=>by omega⟩⟩
    cases j with
    |zero=>simp at hj;rw[hj.1];exact Bb _
    |succ j=>have:=h _ (List.mem_of_getElem? (by simpa using hj));cases this
   ·cases hlt:sLt p.key y.key
    ·refine .inr ⟨0,y,u,rfl,fun j q w hj=>⟨?_,fun h=>by omega⟩⟩
     cases j with
     |zero=>simp at hj;rw[hj.1];exact Bb _
     |succ j=>exact VO hlt (hm j q w (by simpa using hj)).1
    ·refine .inr ⟨k+1,p,t,by simpa using hk,fun j q w hj=>?_⟩
     cases j with
     |zero=>simp at hj;rw[← hj.1];exact⟨Nl hlt,fun _=>hlt⟩
     |succ j=>have:=hm j q w (by simpa using hj);exact⟨this.1,fun h=>this.2 (by omega)⟩
def total(ls:List (List Pr)):Nat:=(ls.map List.length).sum
theorem Tu(p:Pr): ∀ls,total (ls.map (Ga p))≤total ls
 | []=>Nat.le_refl _
 |l::ls=>by
  have:=Tu p ls
  have:=(Q8 p l).length_le
  simp[total] at *;omega
theorem Ur {p:Pr}{t:List Pr}: ∀ {ls:List (List Pr)} {k:Nat},ls[k]? =some (p::t)→total (ls.map (Ga p))<total ls
 | [],k,h=>by simp at h
 |l::ls,0,h=>by
  simp at h;subst h
  have h1:=Tu p ls
  have h2:=(Q8 p t).length_le
  have h3:Ga p (p::t)=Ga p t:=by simp[Ga,upto,BZ]
  simp only[total,List.map_cons,List.sum_cons,h3,List.length_cons] at*
  omega
 |l::ls,k+1,h=>by
  have h1:=Ur (p:=p) (t:=t) (ls:=ls) (k:=k) (by simpa using h)
  have h2:=(Q8 p l).length_le
  simp only[total,List.map_cons,List.sum_cons] at*
  omega
theorem AAz(ls:List (List Pr)): ∃out,Jd ls out∧out.length≤total ls:=by
 generalize hn:total ls=n
 induction n using Nat.strongRecOn generalizing ls with
 |_ n ih=>
  rcases QU ls with h|⟨k,p,t,hk,hm⟩
  ·exact⟨[],.done h,by simp⟩
  ·have hlt:=Ur hk
   obtain⟨out,h1,h2⟩:=ih _ (by omega) (ls.map (Ga p)) rfl
   exact⟨p::out,.step hk hm h1,by simp;omega⟩
end Go.Lf.G.M

/-
 Contracts of the parts of the statements about merged sequences.
-/
set_option maxRecDepth 100000
namespace Go.Lf.G.M
open Go Go.Lf Go.Lf.G
def LV(h:Heap)(s:Sl)(ls:List (List Pr)):Prop:=
 ∃sls,View SlE h s sls∧sls.length=ls.length∧ ∀(i:Nat) (sl:Sl) (l:List Pr),sls[i]? =some sl→ls[i]? =some l→View Ak h sl l
def LA(X:Nat→Prop)(h:Heap)(s:Sl)(ls:List (List Pr)):Prop:=
 ∃sls,View SlE h s sls∧(∀ c,s.blk=some c→c<h.size∧ ¬X c)∧sls.length=ls.length∧ ∀(i:Nat) (sl:Sl) (l:List Pr),sls[i]? =some sl→ls[i]? =some l→View Ak h sl l∧ ∀c,sl.blk=some c→c<h.size∧ ¬X c
theorem LV.ext {h h':Heap}{s:Sl}{ls:List (List Pr)}(v:LV h s ls)(x:Ext h h'):LV h' s ls:=by
 obtain⟨sls,v,hl,hr⟩:=v
 exact⟨sls,v.ext x,hl,fun i sl l h1 h2=>(hr i sl l h1 h2).ext x⟩
theorem LA.mod {X X':Nat→Prop}{S:Nat→Prop}{h h':Heap}{s:Sl}{ls:List (List Pr)}(v:LA X h s ls)(x:Mod S h h')(hS: ∀c,c<h.size→S c→X c)(hX: ∀c,c<h.size→X' c→X c):LA X' h' s ls:=by
 obtain⟨sls,v,hb,hl,hr⟩:=v
 have:=x.size
 refine⟨sls,v.mod x fun c hc hs=>(hb c hc).2 (hS c (hb c hc).1 hs),fun c hc=>⟨by have:=(hb c hc).1;omega,fun hx=>(hb c hc).2 (hX c (hb c hc).1 hx)⟩,hl,fun i sl l h1 h2=>?_⟩
 obtain⟨v1,hb1⟩:=hr i sl l h1 h2
 exact⟨v1.mod x fun c hc hs=>(hb1 c hc).2 (hS c (hb1 c hc).1 hs),fun c hc=>⟨by have:=(hb1 c hc).1;omega,fun hx=>(hb1 c hc).2 (hX c (hb1 c hc).1 hx)⟩⟩
theorem LA.ext {X:Nat→Prop}{h h':Heap}{s:Sl}{ls:List (List Pr)}(v:LA X h s ls)(x:Ext h h'):LA X h' s ls:=v.mod x (fun _ _ h=>h.elim) fun _ _ h=>h
theorem Yq {t l:List Pr}{n:Nat}{x:Pr}(h:l[n]? =some x):BJ t (l.take (n+1))=DR x (BJ t (l.take n)):=by
 rw[List.take_add_one,h]
 simp only[BJ,List.foldl_append,Option.toList_some,List.foldl_cons,List.foldl_nil]
theorem Mo: ∀ls,(Ai ls).length≤total ls
 | []=>Nat.le_refl _
 |l::ls=>by
  rw[Kr]
  have:=Mo ls
  have:=Np (l:=l) (t:=Ai ls)
  simp[total] at *;omega
theorem Ux: ∀ls,CV (Ai ls)
 | []=>fun _ h=>by cases h
 |l::ls=>by rw[Kr];exact Te (Ux ls)
theorem Y0(l:List Pr)(ls:List (List Pr)):total (l::ls)=l.length+total ls:=by simp[total]
def ANh(A:Amb)(X:Nat→Prop)(h:Heap)(s:Sl)(ls:List (List Pr)):Prop:=
 ∃vs,View AGZ h s vs∧(∀ c,s.blk=some c→c<h.size∧ ¬X c)∧vs.length=ls.length∧ ∀(i:Nat) (v:AAZ) (l:List Pr),vs[i]? =some v→ls[i]? =some l→(v.v= .nilFunc∧l= [])∨(DF A P v.v (fun c=>c<h.size∧ ¬X c) h l∧l.length≤1099511627776)
end Go.Lf.G.M
namespace Go.Lf
open G
theorem DF.later {A:Amb}{X:Nat→Prop}{fv:Value}{h h':Heap}{l:List Pr}(it:DF A P fv (fun c=>c<h.size∧ ¬X c) h l){S:Nat→Prop}(x:Mod S h h')(hS: ∀c,c<h.size→S c→X c):DF A P fv (fun c=>c<h'.size∧ ¬X c) h' l:=
 it.weak (fun c hc=>⟨by have:=x.size;omega,hc.2⟩) (fun c hc=>hc.1) fun c hc=>x.get c hc.1 fun hs=>hc.2 (hS c hc.1 hs)
end Go.Lf
namespace Go.Lf.G.M
open Go Go.Lf Go.Lf.G
theorem AKh {A:Amb}{X:Nat→Prop}{h:Heap}{s:Sl}{ls:List (List Pr)}{R:Value→Heap→Prop}(q:ANh A X h s ls)(hX: ∀c,X c→c<h.size)(hl:ls.length≤1099511627776)(o:OkL ls)
  (H: ∀fv h',DF A P fv (fun c=>c<h'.size∧ ¬X c) h' (Ai ls)→Ext h h'→h'.size=h.size+1→R fv h'):AA A P KA #[.slice s.p s.len s.cap] h R:=by
 obtain⟨vs,v,hsb,hvl,hit⟩:=q
 refine ACx ?_
 unfold Ps
 refine New.mk fun h1 _ hb1 hx hsz=>?_
 have hos: ∃os:List (Option (List Pr)),os.length=vs.length∧(∀ (i:Nat) (v:AAZ),vs[i]? =some v→(v.v= .nilFunc∧os[i]? =some none)∨ ∃l,os[i]? =some (some l)∧DF A P v.v (fun c=>c<h.size∧ ¬X c) h l∧l.length≤1099511627776)∧
   (∀ l,l∈os.filterMap id→l∈ls)∧ ∀k,BD k (os.filterMap id)=BD k ls:=by
  clear v hX hl o H hb1 hx hsz hsb
  induction vs generalizing ls with
  |nil=>
   have:ls= []:=List.eq_nil_of_length_eq_zero hvl.symm
   subst this
   exact⟨[],rfl,fun i v h=>by simp at h,fun l h=>by simp at h,fun k=>rfl⟩
  |cons v vs ih=>
   cases ls with
   |nil=>simp at hvl
   |cons l ls=>
    obtain⟨os,h1,h2,h3,h4⟩:=ih (ls:=ls) (by simpa using hvl) (fun i v l h1 h2=>hit (i+1) v l (by simpa using h1) (by simpa using h2))
    rcases hit 0 v l rfl rfl with⟨h5,h6⟩|⟨h5,h6⟩
    ·refine⟨none::os,by simp[h1],fun i v hi=>?_,fun m hm=>?_,fun k=>?_⟩
     ·cases i with
      |zero=>simp at hi;subst hi;exact .inl ⟨h5,rfl⟩
      |succ i=>exact h2 i v (by simpa using hi)
     ·simp at hm;exact List.mem_cons_of_mem _ (h3 m (by simpa using hm))
     ·subst h6
      rw[Cw]
      simpa [V4] using h4 k
    ·refine⟨some l::os,by simp[h1],fun i v hi=>?_,fun m hm=>?_,fun k=>?_⟩
     ·cases i with
      |zero=>simp at hi;subst hi;exact .inr ⟨l,rfl,h5,h6⟩
      |succ i=>exact h2 i v (by simpa using hi)
     ·simp at hm
      rcases hm with rfl|hm
      ·simp
      ·exact List.mem_cons_of_mem _ (h3 m (by simpa using hm))
     ·rw [Cw,List.filterMap_cons]
      simp only[id]
      rw[Cw,h4 k]
 obtain⟨os,ho1,ho2,ho3,ho4⟩:=hos
 obtain⟨out,hm,_⟩:=AAz (os.filterMap id)
 have hout:out=Ai ls:=by
  have hmo:=hm.ok fun l hl=>o.sorted l (ho3 l hl)
  exact hmo.1.ext (Cs ls) fun k=>by rw[hmo.2 k,ho4 k,Hr k o]
 subst hout
 refine H _ h1 ((ALw (S:=fun c=>c<h.size∧ ¬X c) hb1 (v.ext hx) (by omega) ho1 (fun i v hi=>?_) hm (fun c hc=>by omega)).weak ?_ (fun c hc=>hc.1) (fun c _=>rfl)) hx hsz
 ·rcases ho2 i v hi with h5|⟨l,h5,h6,h7⟩
  ·exact .inl h5
  ·exact .inr ⟨l,h5,h6.weak (fun c hc=>hc) (fun c hc=>by omega) (fun c hc=>hx.get c hc.1 (fun h=>h)),h7⟩
 ·rintro c (hc|⟨h1,h2⟩)
  ·exact⟨by omega,hc.2⟩
  ·refine⟨h1,?_⟩
   rcases h2 with rfl|h2
   ·intro h;have:=hX _ h;omega
   ·exact(hsb c h2).2
end Go.Lf.G.M

/-
 The statements about merged sequences, over the formulas.
-/
set_option maxRecDepth 100000
namespace Go.Lf.G.M
open Go Go.Lf Go.Lf.G
theorem LA.sub {X:Nat→Prop}{h:Heap}{s:Sl}{ls:List (List Pr)}(v:LA X h s ls){lo hi:Nat}(h1:lo≤hi)(h2:hi≤ls.length):LA X h ⟨Ao s.p s.cap lo 1,hi-lo,s.cap-lo⟩ ((ls.take hi).drop lo):=by
 obtain⟨sls,v,hb,hl,hr⟩:=v
 refine⟨(sls.take hi).drop lo,v.sub h1 (by omega),fun c hc=>hb c (RO hc),by simp[hl],fun i sl l h3 h4=>?_⟩
 rw[List.getElem?_drop,List.getElem?_take] at h3 h4
 split at h3
 ·rename_i hlt
  rw[if_pos hlt] at h4
  exact hr _ _ _ h3 h4
 ·cases h3
end Go.Lf.G.M

/-
 The statements about merged sequences that are left early, and about their keys, over the formulas.
-/
set_option maxRecDepth 100000
namespace Go.Lf.G.M
open Go Go.Lf Go.Lf.G
theorem Mt(k:ByteArray)(ls ms:List (List Pr)):BD k (ls++ms)=(BD k ls).or (BD k ms):=by
 unfold BD;rw[List.findSome?_append]
theorem Uz(k:ByteArray)(l m:List Pr):Ag k (l++m)=(Ag k l).or (Ag k m):=by
 unfold Ag;rw[List.find?_append]
end Go.Lf.G.M

/-
 The skip list: how it lies, what is before a key.
-/
set_option maxRecDepth 100000
namespace Go.Lf.G.M
open Go Go.Lf Go.Lf.G
structure CX where
 blk:Nat
 pr:Pr
 ht:Nat
def ptrs(nx:Nat→Option Addr):List Value:=(List.range 12).map fun i=> .pointer (nx i)
def Dy(p:Pr)(nx:Nat→Option Addr):Array Value:=(([.string p.key,.string p.val,.bool p.gone]:List Value)++ptrs nx).toArray
def Ck(nx:Nat→Option Addr)(n sz:Int):Array Value:=(([.string ⟨#[]⟩,.string ⟨#[]⟩,.bool false]:List Value)++ptrs nx++([.int .i64 n,.int .i64 sz]:List Value)).toArray
theorem BA(nx:Nat→Option Addr):(ptrs nx).length=12:=by simp[ptrs]
theorem Pt {nx:Nat→Option Addr}{i:Nat}(hi:i<12):(ptrs nx)[i]? =some (.pointer (nx i)):=by simp[ptrs,hi]
theorem Xz {nx:Nat→Option Addr}{i:Nat}(v:Option Addr):(ptrs nx).set i (.pointer v)=ptrs (fun k=>if k=i then v else nx k):=by
 refine List.ext_getElem? fun k=>?_
 by_cases hk:k<12
 ·rw [List.getElem?_set,Pt hk,Pt hk,BA]
  by_cases h:i=k
  ·subst h;simp[hk]
  ·simp [h,Ne.symm h]
 ·rw [List.getElem?_eq_none (by simp[BA];omega),List.getElem?_eq_none (by simp[BA];omega)]
theorem AKC {p:Pr}{nx:Nat→Option Addr}{i:Nat}(hi:i<12):(Dy p nx)[3+i]? =some (.pointer (nx i)):=by
 simp only[Dy,List.getElem?_toArray]
 rw[List.getElem?_append_right (by simp)]
 simpa using Pt hi
theorem AJD {nx:Nat→Option Addr}{n sz:Int}{i:Nat}(hi:i<12):(Ck nx n sz)[3+i]? =some (.pointer (nx i)):=by
 simp only[Ck,List.getElem?_toArray]
 rw[List.append_assoc,List.getElem?_append_right (by simp),List.getElem?_append_left (by simp[BA];omega)]
 simpa using Pt hi
theorem ZM {nx:Nat→Option Addr}{n sz:Int}:(Ck nx n sz)[15]? =some (.int .i64 n)∧(Ck nx n sz)[16]? =some (.int .i64 sz):=by
 simp only[Ck,List.getElem?_toArray]
 constructor
 ·rw [List.getElem?_append_right (by simp[BA])];simp[BA]
 ·rw [List.getElem?_append_right (by simp[BA])];simp[BA]
theorem Nk {p:Pr}{nx:Nat→Option Addr}:(Dy p nx).size=15:=by simp[Dy,BA]
theorem head_size {nx:Nat→Option Addr}{n sz:Int}:(Ck nx n sz).size=17:=by simp[Ck,BA]
theorem AEl {p:Pr}{nx:Nat→Option Addr}{i:Nat}(v:Option Addr):(Dy p nx).setIfInBounds (3+i) (.pointer v)=Dy p (fun k=>if k=i then v else nx k):=by
 apply Array.toList_inj.1
 rw[Array.toList_setIfInBounds]
 simp only[Dy,List.toList_toArray]
 rw[List.set_append_right _ _ (by simp),←Xz v]
 simp
theorem AKq {nx:Nat→Option Addr}{n sz:Int}{i:Nat}(hi:i<12)(v:Option Addr):(Ck nx n sz).setIfInBounds (3+i) (.pointer v)=Ck (fun k=>if k=i then v else nx k) n sz:=by
 apply Array.toList_inj.1
 rw[Array.toList_setIfInBounds]
 simp only[Ck,List.toList_toArray]
 rw[List.append_assoc,List.set_append_right _ _ (by simp),List.set_append_left _ _ (by simp[BA];omega),←Xz v]
 simp
theorem AIp {nx:Nat→Option Addr}{n sz n':Int}:(Ck nx n sz).setIfInBounds 15 (.int .i64 n')=Ck nx n' sz:=by
 apply Array.toList_inj.1
 rw[Array.toList_setIfInBounds]
 simp only[Ck,List.toList_toArray]
 rw[List.set_append_right _ _ (by simp[BA])]
 simp[BA]
theorem ABP {nx:Nat→Option Addr}{n sz s':Int}:(Ck nx n sz).setIfInBounds 16 (.int .i64 s')=Ck nx n s':=by
 apply Array.toList_inj.1
 rw[Array.toList_setIfInBounds]
 simp only[Ck,List.toList_toArray]
 rw[List.set_append_right _ _ (by simp[BA])]
 simp[BA]
theorem CJ {h:Heap}{b i:Nat}{l:Nat→Option Addr}{T:TypeId}{fr:Nat×Nat}(hb:h[b]? =some (.cells (ptrs l).toArray T fr))(hi:i<12):hget h ⟨b,i,none⟩=some (.pointer (l i)):=by
 rw[Il hb,List.getElem?_toArray];exact Pt hi
def addrAt(t:Nat)(ns:List CX)(p:Nat):Addr:=match p with|0=>⟨t,0,none⟩|p+1=>match ns[p]? with|some x=>⟨x.blk,0,none⟩|none=>⟨t,0,none⟩
def Pg(ns:List CX)(p:Nat):Nat:=match p with|0=>12|p+1=>match ns[p]? with|some x=>x.ht|none=>0
def CS(i:Nat)(l:List CX):Option Addr:=(l.find? fun x=>decide (i<x.ht)).map fun x=>⟨x.blk,0,none⟩
def inT(t:Nat)(ns:List CX)(b:Nat):Prop:=b=t∨ ∃x∈ns,x.blk=b
structure Lay (h:Heap) (t:Nat) (ns:List CX) (nx:Nat→Nat→Option Addr) (n sz:Int):Prop where
 head:h[t]? =some (.cells (Ck (nx 0) n sz) Wv (0,0))
 node: ∀(j:Nat) (x:CX),ns[j]? =some x→h[x.blk]? =some (.cells (Dy x.pr (nx (j+1))) Ow (0,0))∧x.blk≠t
 apart:ns.Pairwise fun x y=>x.blk≠y.blk
structure ABa (ns:List CX) (nx:Nat→Nat→Option Addr):Prop where
 link: ∀p i,p≤ns.length→i<12→i<Pg ns p→nx p i=CS i (ns.drop p)
 ht: ∀x∈ns,1≤x.ht∧x.ht≤12
theorem Lay.mod {h h':Heap}{t:Nat}{ns:List CX}{nx:Nat→Nat→Option Addr}{n sz:Int}{S:Nat→Prop}(l:Lay h t ns nx n sz)(m:Mod S h h')(hS: ∀b,inT t ns b→ ¬S b):Lay h' t ns nx n sz:=
 ⟨m.blk l.head (hS _ (.inl rfl)),fun j x hx=>⟨m.blk (l.node j x hx).1 (hS _ (.inr ⟨x,List.mem_of_getElem? hx,rfl⟩)),(l.node j x hx).2⟩,l.apart⟩
theorem Lay.ext {h h':Heap}{t:Nat}{ns:List CX}{nx:Nat→Nat→Option Addr}{n sz:Int}(l:Lay h t ns nx n sz)(m:Ext h h'):Lay h' t ns nx n sz:=l.mod m fun _ _ h=>h
theorem Lay.lt {h:Heap}{t:Nat}{ns:List CX}{nx:Nat→Nat→Option Addr}{n sz:Int}(l:Lay h t ns nx n sz){b:Nat}(hb:inT t ns b):b<h.size:=by
 rcases hb with rfl|⟨x,hx,rfl⟩
 ·exact Ah l.head
 ·obtain⟨j,hj,e⟩:=List.getElem_of_mem hx
  exact Ah (l.node j x (by rw[List.getElem?_eq_getElem hj,e])).1
theorem Lay.next {h:Heap}{t:Nat}{ns:List CX}{nx:Nat→Nat→Option Addr}{n sz:Int}(l:Lay h t ns nx n sz){p i:Nat}(hp:p≤ns.length)(hi:i<12):hget h (((addrAt t ns p).add 3).add (i*1))=some (.pointer (nx p i)):=by
 rw[add_add,Nat.mul_one]
 cases p with
 |zero=>show hget h ((⟨t,0,none⟩:Addr).add (3+i))=_;exact AB l.head (AJD hi)
 |succ p=>
  have hg:=List.getElem?_eq_getElem (l:=ns) (i:=p) (by omega)
  have e:addrAt t ns (p+1)=⟨ns[p].blk,0,none⟩:=by simp[addrAt,hg]
  rw[e]
  exact AB (l.node p _ hg).1 (AKC hi)
theorem Lay.pair {h:Heap}{t:Nat}{ns:List CX}{nx:Nat→Nat→Option Addr}{n sz:Int}(l:Lay h t ns nx n sz){j:Nat}{x:CX}(hx:ns[j]? =some x):
  hget h ⟨x.blk,0,none⟩=some (.string x.pr.key)∧hget h ((⟨x.blk,0,none⟩:Addr).add 1)=some (.string x.pr.val)∧hget h ((⟨x.blk,0,none⟩:Addr).add 2)=some (.bool x.pr.gone):=by
 have hb:=(l.node j x hx).1
 exact⟨AC hb rfl,AB hb rfl,AB hb rfl⟩
theorem ACD {i:Nat}{l:List CX}{a:Addr}(h:CS i l=some a): ∃k x,l[k]? =some x∧a=⟨x.blk,0,none⟩∧i<x.ht∧ ∀(j:Nat) (y:CX),j<k→l[j]? =some y→y.ht≤i:=by
 induction l with
 |nil=>simp[CS] at h
 |cons x l ih=>
  unfold CS at h
  rw[List.find?_cons] at h
  by_cases hx:i<x.ht
  ·simp [hx] at h
   exact⟨0,x,rfl,h.symm,hx,fun j y hj=>by omega⟩
  ·simp [hx] at h
   obtain⟨k,y,h1,h2,h3,h4⟩:=ih (by simpa [CS] using h)
   refine⟨k+1,y,by simpa using h1,h2,h3,fun j z hj hz=>?_⟩
   cases j with
   |zero=>simp at hz;subst hz;omega
   |succ j=>exact h4 j z (by omega) (by simpa using hz)
theorem VF {i:Nat}{l:List CX}(h:CS i l=none): ∀x∈l,x.ht≤i:=by
 intro x hx
 simp[CS] at h
 exact h x hx
theorem AB8 {i:Nat}{l:List CX}{k:Nat}(hk:k≤l.length)(h: ∀(j:Nat) (y:CX),j<k→l[j]? =some y→y.ht≤i):CS i l=CS i (l.drop k):=by
 induction k generalizing l with
 |zero=>simp
 |succ k ih=>
  cases l with
  |nil=>simp at hk
  |cons x l=>
   have hx:=h 0 x (by omega) rfl
   rw[List.drop_succ_cons,←ih (by simpa using hk) fun j y hj hy=>h (j+1) y (by omega) (by simpa using hy)]
   unfold CS
   rw[List.find?_cons]
   simp[Nat.not_lt.2 hx]
abbrev prs(ns:List CX):List Pr:=ns.map (·.pr)
theorem ACv {key:ByteArray}: ∀ {l:List Pr},Sorted l→ ∀ {j:Nat} {x:Pr},l[j]? =some x→(j<atK key l↔sLt x.key key=true)
 | [],_,j,x,h=>by simp at h
 |y::l,s,j,x,h=>by
  have s':=List.pairwise_cons.1 s
  by_cases hy:sLt y.key key=true
  ·have ea:atK key (y::l)=atK key l+1:=by simp[atK,AAb,hy]
   rw[ea]
   cases j with
   |zero=>simp at h;subst h;simp[hy]
   |succ j=>
    have:=ACv (key:=key) s'.2 (j:=j) (x:=x) (by simpa using h)
    rw[← this];omega
  ·have ea:atK key (y::l)=0:=by simp[atK,AAb,hy]
   rw[ea]
   cases j with
   |zero=>simp at h;subst h;simp[hy]
   |succ j=>
    have hx:x∈l:=List.mem_of_getElem? (by simpa using h)
    have h1:=s'.1 x hx
    constructor
    ·intro h2;omega
    ·intro h2;exact absurd (CZ h1 h2) hy
structure Q9 (ns:List CX) (key:ByteArray) (i p:Nat):Prop where
 le:p≤atK key (prs ns)
 ht:i<Pg ns p
 last: ∀(j:Nat) (y:CX),p≤j→j<atK key (prs ns)→ns[j]? =some y→y.ht≤i
theorem Ud(key:ByteArray)(ns:List CX):atK key (prs ns)≤ns.length:=by have:=Tj key (prs ns);simpa using this
theorem F6 {cs:Array Value}(l:Nat→Option Addr)(e:cs=(ptrs l).toArray)(i:Nat)(v:Option Addr):cs.setIfInBounds i (.pointer v)=(ptrs (fun k=>if k=i then v else l k)).toArray:=by
 subst e
 apply Array.toList_inj.1
 rw[Array.toList_setIfInBounds]
 exact Xz v
theorem AIM {n:Nat}(h:n<100):IntKind.wrap .i64 (((n+1:Nat):Int)-(1:Int))=(n:Int):=by
 rw[show(((n+1:Nat):Int)-1)=(n:Int) by omega];exact Fy (by omega)
set_option maxHeartbeats 400000 in
theorem WH {A:Amb}{h:Heap}{t:Nat}{ns:List CX}{nx:Nat→Nat→Option Addr}{n sz:Int}{key:ByteArray}{R:Value→Heap→Prop}(L:Lay h t ns nx n sz)(K:ABa ns nx)(s:Sorted (prs ns))
  (H: ∀(q:Nat→Nat) h',(∀ i,i<12→Q9 ns key i (q i))→Ext h h'→R (.agg #[.pointer (some (addrAt t ns (q 0))),.pointer (some (addrAt t ns (q 1))),.pointer (some (addrAt t ns (q 2))),.pointer (some (addrAt t ns (q 3))),.pointer (some (addrAt t ns (q 4))),.pointer (some (addrAt t ns (q 5))),.pointer (some (addrAt t ns (q 6))),.pointer (some (addrAt t ns (q 7))),.pointer (some (addrAt t ns (q 8))),.pointer (some (addrAt t ns (q 9))),.pointer (some (addrAt t ns (q 10))),.pointer (some (addrAt t ns (q 11)))]) h'):
  AA A P Dc #[.pointer (some ⟨t,0,none⟩),.string key] h R:=by
 refine Rv ?_
 unfold Ie
 refine New.mk fun h1 _ hb1 x1 hs1=>New.mk fun h2 _ hb2 x2 hs2=>?_
 have x02:Ext h h2:=x1.trans x2
 have hak:=Ud key ns
 refine Loop.rule (fun m x h3=> ∃(p:Nat) (q:Nat→Nat) (l:Nat→Option Addr),x=(some (addrAt t ns p),(m:Int)-1,())∧m≤12∧Mod (fun c=>c=h1.size) h2 h3∧p≤atK key (prs ns)∧(m=0∨m≤Pg ns p)∧
   h3[h1.size]? =some (.cells (ptrs l).toArray Cu (0,0))∧(∀ i,i<12→m≤i→Q9 ns key i (q i)∧l i=some (addrAt t ns (q i)))) ?_
  (m:=12) ⟨0,fun _=>0,fun _=>none,rfl,by omega,Mod.refl,by omega,.inr (by simp[Pg]),hb2,fun i h1 h2=>by omega⟩
 rintro K0 m _ h3 ⟨p,q,l,rfl,hm,md,hp,hht,hbl,hq⟩ hK
 have xm:Ext h h3:=x02.then (md.weak fun c _ hc=> .inr (by have:=x1.size;omega))
 refine PIf.intro (fun hc=>?_) (fun hc=>?_)
 ·cases m with
  |zero=>simp at hc
  |succ i=>
   have hi:i<12:=by omega
   have hii:(((i+1:Nat):Int)-1)=(i:Int):=by omega
   rw[hii]
   have L3:=L.ext xm
   refine Loop.rule (fun m x h4=> ∃p:Nat,x=(some (addrAt t ns p),())∧h4=h3∧m=atK key (prs ns)-p∧p≤atK key (prs ns)∧i<Pg ns p) ?_ ⟨p,rfl,rfl,rfl,hp,by rcases hht with h|h<;>omega⟩
   rintro K1 m _ h4 ⟨p,rfl,hh,rfl,hp,hht⟩ hK1
   subst hh
   have hnx:nx p i=CS i (ns.drop p):=K.link p i (by omega) hi hht
   have hget:=L3.next (p:=p) (i:=i) (by omega) hi
   refine Join.mk fun K2 hK2=>?_
   have hchk:(0:Int)≤(i:Int)∧(i:Int)<(12:Int):=⟨by omega,by omega⟩
   have hend:(∀ (j:Nat) (y:CX),p≤j→j<atK key (prs ns)→ns[j]? =some y→y.ht≤i)→K2 (false,()) h4:=fun hl=>hK2 _ _ (PIf.no rfl (by
    refine⟨hchk,?_⟩
    show Store h4 ((⟨h1.size,0,none⟩:Addr).add (i*1)) _ _
    rw[Bg,Nat.zero_add,Nat.mul_one]
    refine Store.mk hbl (by simp[BA];omega) fun h6 hb6 m6 hs6=>?_
    rw[F6 l rfl] at hb6
    have hbp:Q9 ns key i p:=⟨hp,hht,hl⟩
    refine hK i _ _ (by omega) ⟨p,fun k=>if k=i then p else q k,_,?_,by omega,md.trans m6,hp,.inr (by omega),hb6,fun k hk hik=>?_⟩
    ·cases i with
     |zero=>rfl
     |succ i=>rw[AIM (by omega),show(((i+1:Nat):Int)-1)=(i:Int) by omega]
    ·by_cases hki:k=i
     ·subst hki;simp[hbp]
     ·simp [hki];exact hq k hk (by omega)))
   refine⟨hchk,?_⟩
   rw[Int.toNat_natCast]
   refine AP.mk hget ?_
   cases hf:nx p i with
   |none=>
    refine PIf.no rfl ?_
    refine hend fun j y hj hja hy=>?_
    rw[hnx] at hf
    refine VF hf y ?_
    rw[List.mem_drop_iff_getElem]
    have:=List.getElem?_eq_some_iff.1 hy
    exact⟨j-p,by omega,by rw[← this.2];congr 1;omega⟩
   |some a=>
    refine PIf.yes rfl ?_
    refine⟨hchk,AP.mk (hf▸hget) ?_⟩
    rw[hnx] at hf
    obtain⟨k,x,hk,rfl,hxh,hbel⟩:=ACD hf
    rw[List.getElem?_drop] at hk
    refine AL.mk (L3.pair hk).1 ?_
    have hpk:(prs ns)[p+k]? =some x.pr:=by simp[prs,hk]
    have hlow:=ACv (key:=key) s hpk
    cases hs:sLt x.pr.key key
    ·refine hend fun j y hj hja hy=>?_
     have hjk:j<p+k:=by
      rcases Nat.lt_or_ge j (p+k) with h1|h1
      ·exact h1
      ·have h2:p+k<atK key (prs ns):=by omega
       rw[hlow.1 h2] at hs;cases hs
     exact hbel (j-p) y (by omega) (by rw[List.getElem?_drop];rw[← hy];congr 1;omega)
    ·have h2:=hlow.2 hs
     refine hK2 _ _ (PIf.yes rfl ?_)
     refine⟨hchk,AP.mk (hf▸hnx▸hget) ?_⟩
     have ea:addrAt t ns (p+k+1)=⟨x.blk,0,none⟩:=by simp[addrAt,hk]
     refine hK1 (atK key (prs ns)-(p+k+1)) _ _ (by omega) ⟨p+k+1,by rw[ea],rfl,rfl,by omega,by simp[Pg,hk,hxh]⟩
 ·have hm0:m=0:=by simp at hc;omega
  subst hm0
  have hb0:h3[h.size]? =some (.cells (ptrs (fun _=>none)).toArray Cu (0,0)):=md.blk (x2.blk hb1 (by simp)) (by omega)
  simp only[Bg,Nat.zero_add]
  refine AP.mk (CJ hbl (i:=0) (by omega)) ?_
  refine AP.mk (CJ hbl (i:=1) (by omega)) ?_
  refine AP.mk (CJ hbl (i:=2) (by omega)) ?_
  refine AP.mk (CJ hbl (i:=3) (by omega)) ?_
  refine AP.mk (CJ hbl (i:=4) (by omega)) ?_
  refine AP.mk (CJ hbl (i:=5) (by omega)) ?_
  refine AP.mk (CJ hbl (i:=6) (by omega)) ?_
  refine AP.mk (CJ hbl (i:=7) (by omega)) ?_
  refine AP.mk (CJ hbl (i:=8) (by omega)) ?_
  refine AP.mk (CJ hbl (i:=9) (by omega)) ?_
  refine AP.mk (CJ hbl (i:=10) (by omega)) ?_
  refine AP.mk (CJ hbl (i:=11) (by omega)) ?_
  refine Store.mk hb0 (by simp[BA]) fun g0 b0 m0 s0=>?_
  rw[F6 _ rfl] at b0
  refine Store.mk b0 (by simp[BA]) fun g1 b1 m1 s1=>?_
  rw[F6 _ rfl] at b1
  refine Store.mk b1 (by simp[BA]) fun g2 b2 m2 s2=>?_
  rw[F6 _ rfl] at b2
  refine Store.mk b2 (by simp[BA]) fun g3 b3 m3 s3=>?_
  rw[F6 _ rfl] at b3
  refine Store.mk b3 (by simp[BA]) fun g4 b4 m4 s4=>?_
  rw[F6 _ rfl] at b4
  refine Store.mk b4 (by simp[BA]) fun g5 b5 m5 s5=>?_
  rw[F6 _ rfl] at b5
  refine Store.mk b5 (by simp[BA]) fun g6 b6 m6 s6=>?_
  rw[F6 _ rfl] at b6
  refine Store.mk b6 (by simp[BA]) fun g7 b7 m7 s7=>?_
  rw[F6 _ rfl] at b7
  refine Store.mk b7 (by simp[BA]) fun g8 b8 m8 s8=>?_
  rw[F6 _ rfl] at b8
  refine Store.mk b8 (by simp[BA]) fun g9 b9 m9 s9=>?_
  rw[F6 _ rfl] at b9
  refine Store.mk b9 (by simp[BA]) fun g10 b10 m10 s10=>?_
  rw[F6 _ rfl] at b10
  refine Store.mk b10 (by simp[BA]) fun g11 b11 m11 s11=>?_
  rw[F6 _ rfl] at b11
  have bb:g11[h.size]? =some (.cells (ptrs l).toArray Cu (0,0)):=by
   rw[b11]
   congr 3
  refine AP.mk (CJ bb (i:=0) (by omega)) ?_
  refine AP.mk (CJ bb (i:=1) (by omega)) ?_
  refine AP.mk (CJ bb (i:=2) (by omega)) ?_
  refine AP.mk (CJ bb (i:=3) (by omega)) ?_
  refine AP.mk (CJ bb (i:=4) (by omega)) ?_
  refine AP.mk (CJ bb (i:=5) (by omega)) ?_
  refine AP.mk (CJ bb (i:=6) (by omega)) ?_
  refine AP.mk (CJ bb (i:=7) (by omega)) ?_
  refine AP.mk (CJ bb (i:=8) (by omega)) ?_
  refine AP.mk (CJ bb (i:=9) (by omega)) ?_
  refine AP.mk (CJ bb (i:=10) (by omega)) ?_
  refine AP.mk (CJ bb (i:=11) (by omega)) ?_
  have mall:=((((((((((m0.trans m1).trans m2).trans m3).trans m4).trans m5).trans m6).trans m7).trans m8).trans m9).trans m10).trans m11
  have:=H q g11 (fun i hi=>(hq i hi (by omega)).1) (xm.then (mall.weak fun c _ hc=> .inr (by omega)))
  rw[(hq 0 (by omega) (by omega)).2,(hq 1 (by omega) (by omega)).2,(hq 2 (by omega) (by omega)).2,(hq 3 (by omega) (by omega)).2,(hq 4 (by omega) (by omega)).2,(hq 5 (by omega) (by omega)).2,(hq 6 (by omega) (by omega)).2,(hq 7 (by omega) (by omega)).2,(hq 8 (by omega) (by omega)).2,(hq 9 (by omega) (by omega)).2,(hq 10 (by omega) (by omega)).2,(hq 11 (by omega) (by omega)).2]
  exact this
end Go.Lf.G.M

