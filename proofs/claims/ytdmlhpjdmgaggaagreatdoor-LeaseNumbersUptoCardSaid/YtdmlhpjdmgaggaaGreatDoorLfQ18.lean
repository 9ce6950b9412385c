/-
 The law LeaseReleases (chapter 18) over its formula.
-/
import Derived.Test.YtdmlhpjdmgaggaaGreatDoorLfGLLeaseReleases
import Derived.Test.YtdmlhpjdmgaggaaGreatDoorLfQ17
set_option linter.unusedVariables false
set_option linter.unusedSimpArgs false
set_option maxRecDepth 100000
set_option linter.unusedVariables false
set_option linter.unusedSimpArgs false
namespace Go.Lf.G
open Go
open M (Sorted Ag DR BJ Ai BD CV Ap OkL Ba atK Bc)
theorem X7 {h:Heap}{b:Nat}{T:TypeId}{ps:List Nat}(H:JX h b T ps){i p:Nat}(hi:ps[i]? =some p){n:Nat}(hn:i<n){K:Addr→Prop}(HK:hget h ⟨b,i,none⟩=some (Aq p)→K ⟨b,0,none⟩):Idx (some (⟨b,0,none⟩:Addr)) n (i:Int) K:=
 Idx.mk rfl hn (HK (H.at hi))
theorem AIB(f:Nat→Nat): ∀ {n:Nat},n<2→(#[.int .i64 (f 0:Int),.int .i64 (f 1:Int)]:Array Value)[n]? =some (.int .i64 (f n:Int))
 |0,_=>rfl
 |1,_=>rfl
 |n+2,h=>by omega
theorem AK6(f:Nat→Nat)(r:Nat): ∀ {n:Nat},n<2→(#[.int .i64 (f 0:Int),.int .i64 (f 1:Int)]:Array Value).setIfInBounds n (.int .i64 (r:Int))= #[.int .i64 (upN f n r 0:Int),.int .i64 (upN f n r 1:Int)]
 |0,_=>rfl
 |1,_=>rfl
 |n+2,h=>by omega
theorem WC {A:Amb}{h:Heap}{order:Sl}{os:List Int}{R:Value→Heap→Prop}(E:Evn h)(v:View Eg h order os)(H: ∀h',Ext h h'→R (.bool true) h'):AA A P EL #[.slice order.p order.len order.cap] h R:=by
 refine KX ?_
 unfold EK
 refine TV E fun h1 x1=>⟨_,rfl,PIf.no rfl ?_⟩
 have hl:=v.len
 refine PIf.intro (fun hq=>H h1 x1) (fun hq=>?_)
 have hcl:os.length≤100:=by have:=of_decide_eq_false hq;omega
 refine OU fun b h2 Sb B2 x2 f2=>⟨_,rfl,?_⟩
 have x02:=x1.trans x2
 have sz1:=x1.size
 refine LW.start (B:=Tk) (sh:=2) E B2 x02 (fun c hc=>by have:=f2 c hc;omega) rfl rfl (fun n=>rfl) (fun n=>rfl) (fun x hx=>absurd rfl hx) (by decide) (by decide) fun h3 s W3 x3 hs=>⟨_,_,rfl,?_⟩
 refine W3.host (name:=ka) (by decide) (by decide) fun h4 p1 bh1 bu1 W4 x4=>⟨_,_,rfl,?_⟩
 refine W4.host (name:=kb) (by decide) (by decide) fun h5 p2 bh2 bu2 W5 x5=>⟨_,_,rfl,?_⟩
 refine New.mk fun h6 _ hb6 x6 s6=>New.mk fun h7 _ hb7 x7 s7=>?_
 have W7:=W5.own (O':=fun c=>c=h5.size∨c=h6.size) ((x6.trans x7).weak fun _ _ h=>h.elim) fun c hc=> .inr (by omega)
 have row7:JX h7 h5.size DL [p1,p2]:=⟨_,AU x7 hb6,fun i p hp=>by
  match i,hp with
  |0,hp=>simpa using hp
  |1,hp=>simpa using hp
  |i+2,hp=>simp at hp⟩
 have hne:h5.size≠h6.size:=by omega
 generalize h5.size=br at*
 generalize h6.size=bl' at*
 refine Loop.rule (fun mm x hz=> ∃(i:Nat) (la:Nat→Nat) (nm:Nat→ByteArray) (l:List Hs) (mp:List Pr),x=((i:Int),())∧LW Tk h hz s i i 2 l mp (fun c=>c=br∨c=bl')∧l.length=2∧l.map (·.p)= [p1,p2]∧JX hz br DL [p1,p2]∧hz[bl']? =some (.cells #[.int .i64 (la 0:Int),.int .i64 (la 1:Int)] ACw (0,0))∧(∀ n,n<2→BQ mp n (la n) (nm n)∧la n≤i)∧i≤os.length∧mm=os.length-i) ?_
  ⟨0,fun _=>0,fun _=>⟨#[]⟩,_,[],rfl,W7,rfl,rfl,row7,hb7,fun n _=>⟨BQ.empty,Nat.le_refl _⟩,Nat.zero_le _,rfl⟩
 clear W7 row7 hb7 hb6
 rintro K mm _ hh ⟨i,la,nm,l,mp,rfl,W,hli,hps,row,hbl,hL,hi,rfl⟩ hK
 dsimp only
 rw[hl]
 refine PIf.intro (fun hq=>?_) (fun hq=>H hh W.ext)
 have hil:i<os.length:=by have:=of_decide_eq_true hq;omega
 have hget:os[i]? =some os[i]:=List.getElem?_eq_getElem hil
 generalize os[i]=o at*
 rw[← hl]
 obtain⟨hi2,hh2,eh⟩:=Na (x:=o) (n:=2) (by decide) (by decide)
 obtain⟨n,hn2,en⟩:=Na (x:=IntKind.wrap .i64 (o.tdiv (2:Int))) (n:=2) (by decide) (by decide)
 rw[show((2:Nat):Int)=2 from rfl] at eh en
 refine Join.mk fun K1 hK1=>?_
 refine(v.ext W.ext).idx hget fun a _ c0=>Aa.mk c0.int ?_
 rw[eh,en]
 obtain⟨x,hx⟩: ∃x,l[hi2]? =some x:=⟨_,List.getElem?_eq_getElem (by omega)⟩
 have hp:=VN hx
 rw[hps] at hp
 have hk1: ∀h' (la':Nat→Nat) (nm':Nat→ByteArray) l' mp',LW Tk h h' s (i+1) (i+1) 2 l' mp' (fun c=>c=br∨c=bl')→l'.length=2→l'.map (·.p)= [p1,p2]→JX h' br DL [p1,p2]→h'[bl']? =some (.cells #[.int .i64 (la' 0:Int),.int .i64 (la' 1:Int)] ACw (0,0))→(∀ n,n<2→BQ mp' n (la' n) (nm' n)∧la' n≤i+1)→K1 () h':=fun h' la' nm' l' mp' W' a1 a2 a3 a4 a5=>by
  refine hK1 _ _ ?_
  rw[AR (by omega)]
  exact hK (os.length-(i+1)) _ _ (by omega) ⟨i+1,la',nm',l',mp',rfl,W',a1,a2,a3,a4,a5,hil,rfl⟩
 clear hK hK1
 refine X7 row hp hh2 fun hg=>?_
 simp only[Bg,Nat.zero_add,Int.toNat_natCast,Nat.mul_one]
 refine AP.mk hg ?_
 refine PIf.intro (fun hq2=>?_) (fun hq2=>?_)
 ·refine W.release hx fun h10 W10 md10=>⟨rfl,?_⟩
  have hlt:hi2<l.length:=by omega
  refine W10.holds (i:=hi2) (n:=n) (x:=x.lost n) (List.getElem?_set_self hlt) ⟨_,rfl,PIf.no ?_ ?_⟩
  ·have:(x.lost n).f n=0:=by show upN x.f n 0 n=0;unfold upN;rw[if_pos rfl]
   rw[this];rfl
  ·refine hk1 h10 la nm _ mp (W10.put (Nat.le_succ _) (by show 64*(i+1)≤32000;omega) (Nat.le_succ _) (by omega)) (by simpa using hli) ((map_set (x':=x.lost n) hx rfl).trans hps) (row.mod md10 fun h=>h.2 (.inl rfl)) (md10.blk hbl fun h=>h.2 (.inr rfl)) fun m hm=>⟨(hL m hm).1,by have:=(hL m hm).2;omega⟩
 ·obtain⟨Ln,hlan⟩:=hL n hn2
  refine W.acquire E hx hn2 Ln (by omega) (by show 4+3*i≤1600;omega) (by show 64*i+64≤32000;omega) (by omega) (by omega) fun h12 W12 md12=>⟨_,_,rfl,?_⟩
  have hlt:hi2<l.length:=by omega
  have hx12:(l.set hi2 (x.got n (la n+1)))[hi2]? =some (x.got n (la n+1)):=List.getElem?_set_self hlt
  have ef:(x.got n (la n+1)).f n=la n+1:=by show upN x.f n (la n+1) n=la n+1;unfold upN;rw[if_pos rfl]
  have hbl12:=md12.blk hbl fun h=>h.2 (.inr rfl)
  have row12:=row.mod md12 fun h=>h.2 (.inl rfl)
  have hcell:=AIB la hn2
  refine Join.mk fun K2 hK2=>PIf.no rfl ⟨⟨by omega,by omega⟩,?_⟩
  refine Aa.mk (AC hbl12 hcell) ?_
  rw[AR (by omega)]
  refine PIf.no (by simp) ?_
  refine W12.holds (x:=x.got n (la n+1)) hx12 ⟨_,rfl,hK2 _ _ (PIf.no (by rw[ef];simp) ⟨⟨by omega,by omega⟩,?_⟩)⟩
  refine Store.mk hbl12 (by simpa using hn2) fun h14 hb14 md14 sz14=>?_
  have W14:=W12.own (O':=fun c=>c=br∨c=bl') (md14.weak fun c _ hc=> .inr hc) fun c hc=> .inl hc
  have row14:=row12.mod md14 hne
  obtain⟨y,hy⟩: ∃y,(l.set hi2 (x.got n (la n+1)))[0]? =some y:=⟨_,List.getElem?_eq_getElem (by simp;omega)⟩
  have hp12:=map_set (x':=x.got n (la n+1)) hx rfl
  have hp0:=VN hy
  rw[hp12,hps] at hp0
  obtain⟨hnm,_⟩:GV x.name=true∧True:=by
   obtain⟨q,k,st,m,D,nn,C,hn2,e,Al,hN,out⟩:=W
   exact⟨(Al.host hi2 x hx).named,trivial⟩
  have L14:BQ (wrL mp [⟨Bu n,Fe (la n+1) x.name,false⟩]) n (la n+1) x.name:=BQ.laid W.sorted (by omega) (by omega) hnm
  refine X7 (i:=0) row14 hp0 (by decide) fun hg0=>AP.mk hg0 ?_
  refine W14.look hy hn2 L14 fun h15 x15=>⟨_,_,_,rfl,?_⟩
  refine Join.mk fun K3 hK3=>PIf.no rfl (hK3 _ _ (PIf.no (by simp) ?_))
  refine hk1 h15 (upN la n (la n+1)) (fun m=>if m=n then x.name else nm m) _ _ (W14.on x15) (by simpa using hli) (hp12.trans hps) (row14.mod x15 fun h=>h) ?_ fun m hm=>?_
  ·have hb15:=AU x15 hb14
   rw[AK6 la (la n+1) hn2] at hb15
   exact hb15
  ·by_cases e:m=n
   ·subst e
    show BQ _ m (upN la m (la m+1) m) (if m=m then x.name else nm m)∧upN la m (la m+1) m≤i+1
    unfold upN
    rw[if_pos rfl,if_pos rfl]
    exact⟨L14,by omega⟩
   ·show BQ _ m (upN la n (la n+1) m) (if m=n then x.name else nm m)∧upN la n (la n+1) m≤i+1
    unfold upN
    rw[if_neg e,if_neg e]
    obtain⟨Lm,hm2⟩:=hL m hm
    exact⟨Lm.other W.sorted fun e2=>e (AFc (by omega) (by omega) e2).symm,by omega⟩
end Go.Lf.G

