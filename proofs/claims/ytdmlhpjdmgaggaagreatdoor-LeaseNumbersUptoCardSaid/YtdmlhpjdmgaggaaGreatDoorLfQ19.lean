/-
 The law LeaseNumbers (chapter 18) over its formula.
-/
import Derived.Test.YtdmlhpjdmgaggaaGreatDoorLfGLLeaseNumbers
import Derived.Test.YtdmlhpjdmgaggaaGreatDoorLfQ18
set_option linter.unusedVariables false
set_option linter.unusedSimpArgs false
set_option maxRecDepth 100000
set_option linter.unusedVariables false
set_option linter.unusedSimpArgs false
namespace Go.Lf.G
open Go
open M (Sorted Ag DR BJ Ai BD CV Ap OkL Ba atK Bc)
theorem AL8:P.underlying JA=some (.map Nw Je):=by kernel_rfl
theorem ANM:P.underlying Nw=some (.int .u64):=by kernel_rfl
theorem AM6:(zeroValue Je).calc P=some (.bool false):=by kernel_rfl
structure Vo (l:List Hs) (seen:List Nat) (r i:Nat):Prop where
 low: ∀m∈seen,∃r' x',m=r'*16777216+x'∧r'≤r∧x'<16777216
 host: ∀(j:Nat) x,l[j]? =some x→x.f 0≤r∧x.u 0≤i∧(x.f 0≠0→ ∀x',x'<16777216→x.f 0*16777216+x'∈seen→x'≤x.u 0)
 apart: ∀(j1 j2:Nat) x y,l[j1]? =some x→l[j2]? =some y→j1≠j2→x.f 0=y.f 0→x.f 0=0
theorem Vo.more {l:List Hs}{seen:List Nat}{r i:Nat}(H:Vo l seen r i):Vo l seen r (i+1):=⟨H.low,fun j x hx=>by
 obtain⟨a,b,c⟩:=H.host j x hx
 exact⟨a,by omega,c⟩,H.apart⟩
theorem Vo.got {l:List Hs}{seen:List Nat}{r i j:Nat}{x:Hs}(H:Vo l seen r i)(hx:l[j]? =some x):Vo (l.set j (x.got 0 (r+1))) seen (r+1) i:=by
 have hj:=(List.getElem?_eq_some_iff.1 hx).1
 have ef:(x.got 0 (r+1)).f 0=r+1:=rfl
 have eu:(x.got 0 (r+1)).u 0=0:=rfl
 refine⟨fun m hm=>?_,fun j' y hy=>?_,fun j1 j2 y z hy hz hne e=>?_⟩
 ·obtain⟨r',x',e,h1,h2⟩:=H.low m hm
  exact⟨r',x',e,by omega,h2⟩
 ·by_cases e:j=j'
  ·subst e
   rw[List.getElem?_set_self hj] at hy
   cases hy
   rw[ef,eu]
   refine⟨by omega,by omega,fun _ x' hx' hm=>?_⟩
   obtain⟨r',x'',e,h1,h2⟩:=H.low _ hm
   omega
  ·rw [List.getElem?_set_ne e] at hy
   obtain⟨a,b,c⟩:=H.host j' y hy
   exact⟨by omega,b,c⟩
 ·by_cases e1:j=j1
  ·subst e1
   rw[List.getElem?_set_self hj] at hy
   rw[List.getElem?_set_ne hne] at hz
   cases hy
   have:=(H.host j2 z hz).1
   rw[ef] at e
   omega
  ·rw [List.getElem?_set_ne e1] at hy
   by_cases e2:j=j2
   ·subst e2
    rw[List.getElem?_set_self hj] at hz
    cases hz
    have:=(H.host j1 y hy).1
    rw[ef] at e
    omega
   ·rw [List.getElem?_set_ne e2] at hz
    exact H.apart j1 j2 y z hy hz hne e
theorem Vo.gave {l:List Hs}{seen:List Nat}{r i j:Nat}{x:Hs}(H:Vo l seen r i)(hx:l[j]? =some x)(h0:x.f 0≠0)(hu:x.u 0+1<16777216):
  x.f 0*16777216+(x.u 0+1)∉seen∧Vo (l.set j (x.gave 0)) ((x.f 0*16777216+(x.u 0+1))::seen) r (i+1):=by
 have hj:=(List.getElem?_eq_some_iff.1 hx).1
 have eu:(x.gave 0).u 0=x.u 0+1:=rfl
 have ef:(x.gave 0).f 0=x.f 0:=rfl
 obtain⟨a,b,c⟩:=H.host j x hx
 refine⟨fun hm=>?_,fun m hm=>?_,fun j' y hy=>?_,fun j1 j2 y z hy hz hne e=>?_⟩
 ·have:=c h0 _ hu hm
  omega
 ·rcases List.mem_cons.1 hm with rfl|hm
  ·exact⟨_,_,rfl,a,hu⟩
  ·exact H.low m hm
 ·by_cases e:j=j'
  ·subst e
   rw[List.getElem?_set_self hj] at hy
   cases hy
   rw[ef,eu]
   refine⟨a,by omega,fun _ x' hx' hm=>?_⟩
   rcases List.mem_cons.1 hm with h|h
   ·omega
   ·have:=c h0 x' hx' h
    omega
  ·rw [List.getElem?_set_ne e] at hy
   obtain⟨a',b',c'⟩:=H.host j' y hy
   refine⟨a',by omega,fun hy0 x' hx' hm=>?_⟩
   rcases List.mem_cons.1 hm with h|h
   ·have hne:y.f 0≠x.f 0:=fun e2=>hy0 (H.apart j' j y x hy hx (fun h=>e h.symm) e2)
    omega
   ·exact c' hy0 x' hx' h
 ·by_cases e1:j=j1
  ·subst e1
   rw[List.getElem?_set_self hj] at hy
   rw[List.getElem?_set_ne hne] at hz
   cases hy
   exact H.apart j j2 x z hx hz hne e
  ·rw [List.getElem?_set_ne e1] at hy
   by_cases e2:j=j2
   ·subst e2
    rw[List.getElem?_set_self hj] at hz
    cases hz
    exact H.apart j1 j y x hy hx hne e
   ·rw [List.getElem?_set_ne e2] at hz
    exact H.apart j1 j2 y z hy hz hne e
def AAD(h:Heap)(b:Nat)(seen:List Nat)(N:Nat):Prop:= ∃sm,OE .u64 h b sm∧sm.length≤N∧ ∀n:Nat,(I8 n sm).getD (.bool false)= .bool (decide (n∈seen))
theorem XM {A:Amb}{h:Heap}{order:Sl}{os:List Int}{R:Value→Heap→Prop}(E:Evn h)(v:View Eg h order os)(H: ∀h',Ext h h'→R (.bool true) h'):AA A P Eb #[.slice order.p order.len order.cap] h R:=by
 refine LP ?_
 unfold Ed
 refine TV E fun h1 x1=>⟨_,rfl,PIf.no rfl ?_⟩
 have hl:=v.len
 refine PIf.intro (fun hq=>H h1 x1) (fun hq=>?_)
 have hcl:os.length≤200:=by have:=of_decide_eq_false hq;omega
 refine OU fun b h2 Sb B2 x2 f2=>⟨_,rfl,?_⟩
 have x02:=x1.trans x2
 have sz1:=x1.size
 refine LW.start (B:=Tk) (sh:=1) E B2 x02 (fun c hc=>by have:=f2 c hc;omega) rfl rfl (fun n=>rfl) (fun n=>rfl) (fun x hx=>absurd rfl hx) (by decide) (by decide) fun h3 s W3 x3 hs=>⟨_,_,rfl,?_⟩
 refine W3.host (name:=ka) (by decide) (by decide) fun h4 p1 bh1 bu1 W4 x4=>⟨_,_,rfl,?_⟩
 refine W4.host (name:=kb) (by decide) (by decide) fun h5 p2 bh2 bu2 W5 x5=>⟨_,_,rfl,?_⟩
 refine New.mk fun h6 _ hb6 x6 s6=>New.mk fun h7 _ hb7 x7 s7=>?_
 have W7:=W5.own (O':=fun c=>c=h5.size∨c=h6.size) ((x6.trans x7).weak fun _ _ h=>h.elim) fun c hc=> .inr (by omega)
 have row7:JX h7 h5.size DL [p1,p2]:=⟨_,AU x7 hb6,fun i p hp=>by
  match i,hp with
  |0,hp=>simpa using hp
  |1,hp=>simpa using hp
  |i+2,hp=>simp at hp⟩
 have hne:h5.size≠h6.size:=by omega
 have seen7:AAD h7 h6.size [] 0:=⟨[],OE.empty hb7,Nat.le_refl _,fun n=>rfl⟩
 have num7:Vo ([]++ [⟨p1,bh1,bu1,ka,fun _=>0,fun _=>0⟩]++ [⟨p2,bh2,bu2,kb,fun _=>0,fun _=>0⟩]) [] 0 0:=by
  refine⟨fun m hm=>(by cases hm),fun j x hx=>?_,fun j1 j2 x y hx hy hne e=>?_⟩
  ·have hm:=List.mem_of_getElem? hx
   simp only[List.nil_append,List.cons_append,List.mem_cons,List.not_mem_nil,or_false] at hm
   rcases hm with rfl|rfl<;>exact⟨Nat.le_refl _,Nat.le_refl _,fun h=>absurd rfl h⟩
  ·have hm:=List.mem_of_getElem? hx
   simp only[List.nil_append,List.cons_append,List.mem_cons,List.not_mem_nil,or_false] at hm
   rcases hm with rfl|rfl<;>rfl
 generalize h5.size=br at*
 generalize h6.size=bm at*
 refine Loop.rule (fun mm x hz=> ∃(i r:Nat) (nm:ByteArray) (l:List Hs) (mp:List Pr) (seen:List Nat),x=((i:Int),())∧LW Tk h hz s i (2*i) 1 l mp (fun c=>c=br∨c=bm)∧l.length=2∧l.map (·.p)= [p1,p2]∧JX hz br DL [p1,p2]∧AAD hz bm seen i∧BQ mp 0 r nm∧r≤i∧Vo l seen r i∧i≤os.length∧mm=os.length-i) ?_
  ⟨0,0,⟨#[]⟩,_,[],[],rfl,W7,rfl,rfl,row7,seen7,BQ.empty,Nat.le_refl _,num7,Nat.zero_le _,rfl⟩
 clear W7 row7 hb7 hb6 seen7 num7
 rintro K mm _ hh ⟨i,r,nm,l,mp,seen,rfl,W,hli,hps,row,hseen,L,hr,num,hi,rfl⟩ hK
 dsimp only
 rw[hl]
 refine PIf.intro (fun hq=>?_) (fun hq=>H hh W.ext)
 have hil:i<os.length:=by have:=of_decide_eq_true hq;omega
 have hget:os[i]? =some os[i]:=List.getElem?_eq_getElem hil
 generalize os[i]=o at*
 rw[← hl]
 obtain⟨hi2,hh2,eh⟩:=Na (x:=o) (n:=2) (by decide) (by decide)
 rw[show((2:Nat):Int)=2 from rfl] at eh
 refine Join.mk fun K1 hK1=>?_
 refine(v.ext W.ext).idx hget fun a _ c0=>Aa.mk c0.int ?_
 rw[eh]
 obtain⟨x,hx⟩: ∃x,l[hi2]? =some x:=⟨_,List.getElem?_eq_getElem (by omega)⟩
 have hp:=VN hx
 rw[hps] at hp
 have hk1: ∀h' r' (nm':ByteArray) l' mp' seen',LW Tk h h' s (i+1) (2*(i+1)) 1 l' mp' (fun c=>c=br∨c=bm)→l'.length=2→l'.map (·.p)= [p1,p2]→JX h' br DL [p1,p2]→AAD h' bm seen' (i+1)→BQ mp' 0 r' nm'→r'≤i+1→Vo l' seen' r' (i+1)→K1 () h':=fun h' r' nm' l' mp' seen' W' a1 a2 a3 a4 a5 a6 a7=>by
  refine hK1 _ _ ?_
  rw[AR (by omega)]
  exact hK (os.length-(i+1)) _ _ (by omega) ⟨i+1,r',nm',l',mp',seen',rfl,W',a1,a2,a3,a4,a5,a6,a7,hil,rfl⟩
 clear hK hK1
 refine X7 row hp hh2 fun hg=>?_
 simp only[Bg,Nat.zero_add,Int.toNat_natCast,Nat.mul_one]
 refine AP.mk hg ?_
 refine Join.mk fun K2 hK2=>?_
 have ask: ∀h10 r' nm' l' mp' y,LW Tk h h10 s (i+1) (2*i+1) 1 l' mp' (fun c=>c=br∨c=bm)→l'.length=2→l'.map (·.p)= [p1,p2]→JX h10 br DL [p1,p2]→AAD h10 bm seen i→BQ mp' 0 r' nm'→r'≤i+1→Vo l' seen r' i→l'[hi2]? =some y→y.p=x.p→K2 () h10:=by
  intro h10 r' nm' l' mp' y W' a1 a2 a3 a4 a5 a6 a7 hy ep
  refine hK2 _ _ ?_
  obtain⟨b1,b2,b3⟩:=a7.host hi2 y hy
  rw[← ep]
  have hseen': ∀ {h'},Mod (LWS h fun c=>c=br∨c=bm) h10 h'→AAD h' bm seen i:=fun md=>by
   obtain⟨sm,c1,c2,c3⟩:=a4
   exact⟨sm,c1.mod md fun h=>h.2 (.inr rfl),c2,c3⟩
  refine W'.number (i:=hi2) (n:=0) hy (by omega) (by omega) (by omega) (fun h0=>⟨_,rfl,PIf.yes rfl ?_⟩) fun h0 h11 W11 md11=>⟨_,rfl,PIf.no ?_ ?_⟩
  ·refine W'.holds (n:=0) hy ⟨_,rfl,PIf.no (by rw[h0];rfl) ?_⟩
   exact hk1 h10 r' nm' l' mp' seen (W'.put (Nat.le_refl _) (by show 64*(i+1)≤32000;omega) (by omega) (by omega)) a1 a2 a3 (by obtain⟨sm,c1,c2,c3⟩:=a4;exact⟨sm,c1,by omega,c3⟩) a5 a6 a7.more
  ·rw [beq_eq_false_iff_ne];omega
  ·obtain⟨nin,num'⟩:=a7.gave hy h0 (by omega)
   generalize y.f 0*16777216+(y.u 0+1)=num at*
   obtain⟨sm,c1,c2,c3⟩:=hseen' md11
   refine Ih AL8 ANM AM6 c1 ⟨_,c3 num,PIf.no (decide_eq_false nin) ?_⟩
   refine Y9 AL8 ANM c1 (by simp only[maxLen];omega) fun h14 M14 md14 sz14=>?_
   refine hk1 h14 r' nm' _ mp' (num::seen) ((W11.own (O':=fun c=>c=br∨c=bm) (md14.weak fun c _ hc=> .inr hc) fun c hc=> .inl hc).put (Nat.le_refl _) (by show 64*(i+1)≤32000;omega) (by omega) (by omega)) (by simpa using a1) ((map_set (x':=y.gave 0) hy rfl).trans a2) ((a3.mod md11 fun h=>h.2 (.inl rfl)).mod md14 hne) ⟨_,M14,Nat.le_trans QD (by omega),fun m=>?_⟩ a5 a6 num'
   rw[RQ]
   by_cases e:m=num
   ·subst e;rw[if_pos rfl,decide_eq_true (List.mem_cons_self)];rfl
   ·rw [if_neg (by omega),c3 m]
    congr 1
    rw[decide_eq_decide,List.mem_cons]
    exact⟨.inr,fun h=>h.elim (fun h=>absurd h e) id⟩
 refine PIf.intro (fun hq2=>?_) (fun hq2=>?_)
 ·refine W.acquire (n:=0) E hx (by decide) L (by omega) (by show 4+3*i≤1600;omega) (by show 64*i+64≤32000;omega) (by omega) (by omega) fun h12 W12 md12=>⟨_,_,rfl,?_⟩
  obtain⟨hnm,_⟩:GV x.name=true∧True:=by
   obtain⟨q,k,st,m,D,nn,C,hn2,e,Al,hN,out⟩:=W
   exact⟨(Al.host hi2 x hx).named,trivial⟩
  obtain⟨sm,c1,c2,c3⟩:=hseen
  exact ask h12 (r+1) x.name _ _ (x.got 0 (r+1)) W12 (by simpa using hli) ((map_set (x':=x.got 0 (r+1)) hx rfl).trans hps) (row.mod md12 fun h=>h.2 (.inl rfl)) ⟨sm,c1.mod md12 fun h=>h.2 (.inr rfl),c2,c3⟩ (BQ.laid W.sorted (by omega) (by omega) hnm) (by omega) (num.got hx) (List.getElem?_set_self (by omega)) rfl
 ·exact ask hh r nm l mp x (W.put (by omega) (by show 64*(i+1)≤32000;omega) (by omega) (by omega)) hli hps row hseen L (by omega) num hx rfl
end Go.Lf.G

