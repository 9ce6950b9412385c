/-
 Contracts: hosts, and what they believe (chapter 18).
-/
import Derived.Test.YtdmlhpjdmgaggaaGreatDoorLfZ23ToO5
import Derived.Test.YtdmlhpjdmgaggaaGreatDoorLfZ25
import Derived.Test.YtdmlhpjdmgaggaaGreatDoorLfQ12
set_option linter.unusedVariables false
set_option linter.unusedSimpArgs false
set_option maxRecDepth 100000
set_option linter.unusedVariables false
set_option linter.unusedSimpArgs false
namespace Go.Lf.G
open Go
open M (Sorted Ag DR BJ Ai BD CV Ap OkL Ba atK Bc)
theorem AEo:P.underlying Dl=some (.map BL BL):=by kernel_rfl
theorem AFa:P.underlying DZ=some (.map BL Nw):=by kernel_rfl
theorem AAf:P.underlying BL=some (.int .i64):=by kernel_rfl
theorem AHT:(zeroValue BL).calc P=some (.int .i64 0):=by kernel_rfl
theorem AH0:(zeroValue Nw).calc P=some (.int .u64 0):=by kernel_rfl
def upN(f:Nat→Nat)(n r:Nat):Nat→Nat:=fun m=>if m=n then r else f m
structure Cg (g h:Heap) (k:Nat→Nat) (s p bh bu:Nat) (name:ByteArray) (shards:Nat) (f u:Nat→Nat) (N:Nat):Prop where
 cell:h[p]? =some (.cells #[Aq s,.string name,.int .i64 (shards:Int),.map (some bh),.map (some bu)] UC (0,0))
 held: ∃hm,OE .i64 h bh hm∧hm.length≤N∧ ∀n:Nat,(I8 n hm).getD (.int .i64 0)= .int .i64 (f n:Int)
 used: ∃um,OE .i64 h bu um∧um.length≤N∧ ∀n:Nat,(I8 n um).getD (.int .u64 0)= .int .u64 (u n:Int)
 mine: ∀c,c=p∨c=bh∨c=bu→k c=0∧g.size≤c∧c≠s
 ne:bh≠bu
 named:GV name=true
 sh:1≤shards∧shards≤16
 cnt:N≤1000000
def BQ(mp:List Pr)(n r:Nat)(nm:ByteArray):Prop:=(r=0∧nm=⟨#[]⟩∧(G6 mp (Bu n)).2=false)∨(1≤r∧r≤2147483647∧GV nm=true∧G6 mp (Bu n)=(Fe r nm,true))
section
variable {A : Amb} {B : Bud} {g h : Heap} {s p bh bu : Nat} {q : Hp} {k : Nat → Nat} {st : Db} {m : Bx} {D : BO} {age c nn N : Nat} {name : ByteArray} {shards : Nat} {f u : Nat → Nat} {R : Value → Heap → Prop}
theorem Cg.lt(H:Cg g h k s p bh bu name shards f u N): ∀c,c=p∨c=bh∨c=bu→c<h.size:=by
 obtain⟨hm,h1,_⟩:=H.held
 obtain⟨um,h2,_⟩:=H.used
 rintro c (rfl|rfl|rfl)
 ·exact Ah H.cell
 ·exact h1.lt
 ·exact h2.lt
theorem Cg.pne(H:Cg g h k s p bh bu name shards f u N):p≠bh∧p≠bu:=by
 obtain⟨hm,⟨_,_,h1,_⟩,_⟩:=H.held
 obtain⟨um,⟨_,_,h2,_⟩,_⟩:=H.used
 have hc:=H.cell
 constructor
 ·rintro rfl;rw[hc] at h1;cases h1
 ·rintro rfl;rw[hc] at h2;cases h2
theorem Cg.beside {h':Heap}{k':Nat→Nat}{X:Nat→Prop}(H:Cg g h k s p bh bu name shards f u N)(md:Mod X h h')(hX: ∀c,c=p∨c=bh∨c=bu→ ¬X c)(hk: ∀c,c=p∨c=bh∨c=bu→k' c=0):Cg g h' k' s p bh bu name shards f u N:=by
 obtain⟨hm,h1,h2,h3⟩:=H.held
 obtain⟨um,h4,h5,h6⟩:=H.used
 exact⟨md.blk H.cell (hX p (.inl rfl)),⟨hm,h1.mod md (hX bh (.inr (.inl rfl))),h2,h3⟩,⟨um,h4.mod md (hX bu (.inr (.inr rfl))),h5,h6⟩,fun c hc=>⟨hk c hc,(H.mine c hc).2⟩,H.ne,H.named,H.sh,H.cnt⟩
theorem Cg.on {h':Heap}(H:Cg g h k s p bh bu name shards f u N)(x:Ext h h'):Cg g h' k s p bh bu name shards f u N:=H.beside x (fun _ _ h=>h) fun c hc=>(H.mine c hc).1
theorem Cg.more {N':Nat}(H:Cg g h k s p bh bu name shards f u N)(h1:N≤N')(h2:N'≤1000000):Cg g h k s p bh bu name shards f u N':=by
 obtain⟨hm,a1,a2,a3⟩:=H.held
 obtain⟨um,a4,a5,a6⟩:=H.used
 exact⟨H.cell,⟨hm,a1,by omega,a3⟩,⟨um,a4,by omega,a6⟩,H.mine,H.ne,H.named,H.sh,h2⟩
theorem Cg.step {h':Heap}{k':Nat→Nat}{S:Nat→Prop}(H:Cg g h k s p bh bu name shards f u N)(md:Mod S h h')(hS: ∀c,S c→k c≠0∨h.size≤c∨c=s∨ ¬(c=p∨c=bh∨c=bu))(kk: ∀c,k' c≠0→k c≠0∨h.size≤c):Cg g h' k' s p bh bu name shards f u N:=by
 refine H.beside md (fun c hc hs=>?_) fun c hc=>Decidable.byContradiction fun h3=>?_
 ·have h1:=H.mine c hc
  have h2:=H.lt c hc
  rcases hS c hs with h|h|h|h
  ·exact h h1.1
  ·omega
  ·exact h1.2.2 h
  ·exact h hc
 ·have h1:=H.mine c hc
  have h2:=H.lt c hc
  rcases kk c h3 with h|h
  ·exact h h1.1
  ·omega
theorem AK3 {s:Nat}(C:D6 B g h s q k st m D age c nn)(hn:GV name=true)(hs:1≤shards∧shards≤16)
  (H: ∀h' p bh bu,Cg g h' k s p bh bu name shards (fun _=>0) (fun _=>0) 0→(∀ c,c=p∨c=bh∨c=bu→h.size≤c∧c<h'.size)→Ext h h'→R (.tuple #[Aq p,.int .i64 0]) h'):AA A P Dr #[Aq s,.string name,.int .i64 (shards:Int)] h R:=by
 refine ACF ?_
 unfold Qn
 refine Join.mk fun K hK=>PIf.no rfl (ABU ⟨_,rfl,PIf.no (by rw[hn];rfl) (PIf.no (decide_eq_false (by omega)) (hK _ _ (PIf.no (decide_eq_false (by omega)) ?_)))⟩)
 refine New.mk fun h1 _ hb1 x1 s1=>New.mk fun h2 _ hb2 x2 s2=>New.mk fun h3 _ hb3 x3 s3=>?_
 have x03:=(x1.trans x2).trans x3
 have hsz:=C.db.mem.ext.size
 have hsl:=C.lt
 have b1:h3[h.size]? =some (.map #[] 0):=x3.blk (x2.blk hb1 (fun h=>h)) (fun h=>h)
 have b2:h3[h1.size]? =some (.map #[] 0):=x3.blk hb2 (fun h=>h)
 refine H h3 h2.size h.size h1.size ⟨hb3,⟨[],OE.empty b1,Nat.le_refl _,fun n=>rfl⟩,⟨[],OE.empty b2,Nat.le_refl _,fun n=>rfl⟩,fun c hc=>?_,by omega,hn,hs,by omega⟩ (fun c hc=>?_) x03
 ·have:h.size≤c:=by rcases hc with rfl|rfl|rfl<;>omega
  exact⟨C.db.free this,by omega,by omega⟩
 ·rcases hc with rfl|rfl|rfl<;>omega
theorem WA {n:Nat}(HH:Cg g h k s p bh bu name shards f u N)(H:R (.int .i64 (f n:Int)) h):AA A P BF #[Aq p,.int .i64 (n:Int)] h R:=by
 obtain⟨hm,h1,h2,h3⟩:=HH.held
 refine Rj ?_
 unfold Ig
 exact PIf.no rfl (atI (DC.mk (AB HH.cell rfl) (Ih AEo AAf AHT h1 ⟨_,h3 n,H⟩)))
theorem AIz {hm:List (Int×Value)}{n r:Nat}(h: ∀m:Nat,(I8 m hm).getD (.int .i64 0)= .int .i64 (f m:Int))(m:Nat):(I8 m (QM n (.int .i64 (r:Int)) hm)).getD (.int .i64 0)= .int .i64 (upN f n r m:Int):=by
 rw[RQ]
 unfold upN
 by_cases e:m=n
 ·subst e;rw[if_pos rfl,if_pos rfl];rfl
 ·rw [if_neg (by omega),if_neg e];exact h m
theorem AEY {hm:List (Int×Value)}{n r:Nat}(h: ∀m:Nat,(I8 m hm).getD (.int .u64 0)= .int .u64 (f m:Int))(m:Nat):(I8 m (QM n (.int .u64 (r:Int)) hm)).getD (.int .u64 0)= .int .u64 (upN f n r m:Int):=by
 rw[RQ]
 unfold upN
 by_cases e:m=n
 ·subst e;rw[if_pos rfl,if_pos rfl];rfl
 ·rw [if_neg (by omega),if_neg e];exact h m
theorem Cg.strike {n:Nat}{ty:TypeId}{K:Value→Heap→Prop}(HH:Cg g h k s p bh bu name shards f u N)(H: ∀h',Cg g h' k s p bh bu name shards (upN f n 0) u N→Mod (fun c=>c=bh) h h'→K (.tuple #[]) h'):BK A P (Builtin.delete_ #[Dl,BL] ty #[.map (some bh),.int .i64 (n:Int)]) h K:=by
 obtain⟨hm,h1,h2,h3⟩:=HH.held
 obtain⟨um,h4,h5,h6⟩:=HH.used
 refine AGC AEo AAf h1 fun h' M' md sz=>H h' ⟨md.blk HH.cell HH.pne.1,⟨_,M',Nat.le_trans AJz h2,fun m=>?_⟩,⟨um,h4.mod md HH.ne.symm,h5,h6⟩,HH.mine,HH.ne,HH.named,HH.sh,HH.cnt⟩ md
 rw[ABo]
 unfold upN
 by_cases e:m=n
 ·subst e;rw[if_pos rfl,if_pos rfl];rfl
 ·rw [if_neg (by omega),if_neg e];exact h3 m
theorem ADg {n:Nat}(HH:Cg g h k s p bh bu name shards f u N)(H: ∀h',Cg g h' k s p bh bu name shards (upN f n 0) u N→Mod (fun c=>c=bh) h h'→R (.tuple #[]) h'):AA A P Dq #[Aq p,.int .i64 (n:Int)] h R:=by
 refine PX ?_
 unfold Gv
 exact PIf.yes rfl (atI (DC.mk (AB HH.cell rfl) (HH.strike fun h' H' md=>⟨rfl,H h' H' md⟩)))
theorem AE6 {n r:Nat}{nm:ByteArray}(C:D6 B g h s q k st m D age c nn)(HH:Cg g h k s p bh bu name shards f u N)(hn:n<shards)(L:BQ (Bp st) n r nm)(H: ∀h',Ext h h'→R (.tuple #[.int .i64 (r:Int),.string nm,.int .i64 0]) h'):AA A P Dz #[Aq p,.int .i64 (n:Int)] h R:=by
 have hsh:=HH.sh
 refine TU ?_
 unfold JJ
 refine Join.mk fun K hK=>PIf.no rfl (PIf.no (decide_eq_false (by omega)) (atI (Aa.mk (AB HH.cell rfl) (hK _ _ (PIf.no (decide_eq_false (by omega)) ?_)))))
 refine atI (AP.mk (AC HH.cell rfl) (Qc (by omega) fun h1 x1=>⟨_,rfl,⟨AC (AU x1 HH.cell) rfl,?_⟩⟩))
 refine AHa (C.on x1) (by rw[Io];omega) fun h2 x2=>⟨_,_,_,rfl,?_⟩
 have x02:=x1.trans x2
 refine Join.mk fun K1 hK1=>PIf.no rfl (hK1 _ _ ?_)
 rcases L with⟨rfl,rfl,e⟩|⟨h1,h2,h3,e⟩
 ·rw [e];exact PIf.yes rfl (H _ x02)
 ·rw [e]
  exact PIf.no rfl (AIV h1 h2 h3 fun h3 x3=>⟨_,_,_,rfl,H h3 (x02.trans x3)⟩)
theorem AJF {k v:ByteArray}(h1:k≠⟨#[]⟩)(h2:k.size≤64)(h3:v.size≤8192):CQ [⟨k,v,false⟩]=0:=by
 have e:Ap ⟨k,v,false⟩=0:=by
  unfold Ap
  rw[if_neg (by simp[h1]),if_neg (by simp;omega)]
 unfold CQ
 rw[if_neg (by simp),if_neg (by simp)]
 unfold EZ
 rw[if_neg (by rw[e];decide)]
 rfl
theorem AEn {n r:Nat}{nm:ByteArray}(E:Evn g)(C:D6 B g h s q k st m D age c nn)(HH:Cg g h k s p bh bu name shards f u N)(hn:n<shards)(L:BQ (Bp st) n r nm)(hr:r+1≤2147483647)(hA:age+3≤B.A)(hC:c+64≤B.C)(hnn:nn+1≤1000000)(hN:N+1≤1000000)
  (H: ∀h' q' k' st' m' D',q'.d=q.d→q'.b=q.b→D6 B g h' s q' k' st' m' D' (age+3) (c+64) (nn+1)→Bp st'=wrL (Bp st) [⟨Bu n,Fe (r+1) name,false⟩]→Cg g h' k' s p bh bu name shards (upN f n (r+1)) (upN u n 0) (N+1)→
   Mod (fun c=>k c≠0∨h.size≤c∨c=s∨c=bh∨c=bu) h h'→(∀ c,k' c≠0→k c≠0∨h.size≤c)→R (.tuple #[.int .i64 ((r+1:Nat):Int),.int .i64 0]) h'):
  AA A P Bw #[Aq p,.int .i64 (n:Int)] h R:=by
 have hsh:=HH.sh
 refine Pn ?_
 unfold HY
 refine AE6 C HH hn L fun h1 x1=>⟨_,_,_,rfl,PIf.no rfl ?_⟩
 refine Qc (by omega) fun h2 x2=>⟨_,rfl,?_⟩
 have x02:=x1.trans x2
 refine New.pair fun b h3 eb3 hb3 x3 s3=>?_
 have x03:=x02.trans x3
 have sz2:=x02.size
 have szg:=C.db.mem.ext.size
 refine Join.mk fun K hK=>?_
 have main: ∀h8 cv cg,Ext h h8→h8[b]? =some (.cells #[.string (Bu n),.string cv,.bool cg] AO (0,0))→CL (Bp st) ⟨Bu n,cv,cg⟩=true→K () h8:=by
  intro h8 cv cg x8 hb8 hold
  refine hK _ _ ?_
  have C8:=C.on x8
  have H8:=HH.on x8
  refine atI (AL.mk (AB H8.cell rfl) ?_)
  rw[AR (by omega)]
  refine Xh (by omega) hr HH.named fun h9 x9=>⟨_,_,rfl,?_⟩
  have x09:=x8.trans x9
  refine PIf.no rfl (Join.mk fun K1 hK1=>?_)
  have C9:=C.on x09
  have H9:=HH.on x09
  have hb9:=AU x9 hb8
  have go: ∀hx b1 b2,Ext h9 hx→hx[b1]? =some (.cells #[.string (Bu n),.string cv,.bool cg] AO (0,0))→hx[b2]? =some (.cells #[.string (Bu n),.string (Fe (r+1) name),.bool false] AO (0,0))→h9.size≤b2→
    AA A P CP #[Aq s,.slice (some (⟨b1,0,none⟩:Addr)) 1 1,.slice (some (⟨b2,0,none⟩:Addr)) 1 1] hx fun v6 h18=> ∃t59:Int,v6= .int .i64 t59∧K1 (t59,()) h18:=by
   intro hx b1 b2 xx hb1 hb2 hl2
   have Cx:=C9.on xx
   have Hx:=H9.on xx
   have x0x:=x09.trans xx
   have vc:View Ak hx ⟨some ⟨b1,0,none⟩,1,1⟩ [⟨Bu n,cv,cg⟩]:=(Own.lit (E:=Ak) (l:= [⟨Bu n,cv,cg⟩]) hb1 rfl (by simp[maxLen])).view
   have vl:View Ak hx ⟨some ⟨b2,0,none⟩,1,1⟩ [⟨Bu n,Fe (r+1) name,false⟩]:=(Own.lit (E:=Ak) (l:= [⟨Bu n,Fe (r+1) name,false⟩]) hb2 rfl (by simp[maxLen])).view
   have hck:=AJF (AIk n) (show(Bu n).size≤64 by rw[Io];omega) (AGg hr HH.named)
   have e0:doC (Bp st) [⟨Bu n,cv,cg⟩] [⟨Bu n,Fe (r+1) name,false⟩]=0:=by
    unfold doC
    rw[if_neg (by simp),if_neg (by rw[hck];decide),if_pos (by simp[hold])]
   have kb2:k b2=0:=C9.db.free hl2
   refine AC5 (B:=B) (conds:=⟨some ⟨b1,0,none⟩,1,1⟩) (sl:=⟨some ⟨b2,0,none⟩,1,1⟩) E Cx hA hC hnn vc vl (fun _ bb hb=>by
    have e:b2=bb:=by simpa [Sl.blk] using hb
    subst e;exact⟨Ah hb2,kb2⟩) (fun x hx=>by rw[List.mem_singleton.1 hx];show(Bu n).size≤_;rw[Io];omega) (fun hne=>absurd e0 hne) fun _ h18 q8 k8 st8 m8 D8 ed8 eb8 C18 mp8 md8 kk8=>⟨_,rfl,hK1 _ _ (PIf.no rfl ?_)⟩
   have szx:=x0x.size
   have H18:=Hx.step (k':=k8) md8 (fun c hc=>by
    rcases hc with h|h|h
    ·exact .inl h
    ·exact .inr (.inl h)
    ·exact .inr (.inr (.inl h))) kk8
   have M0:Mod (fun c=>k c≠0∨h.size≤c∨c=s∨c=bh∨c=bu) h h18:=(x0x.weak fun c _ hc=>hc.elim).trans (md8.weak fun c _ hc=>by
    rcases hc with h|h|h
    ·exact .inl h
    ·exact .inr (.inl (by omega))
    ·exact .inr (.inr (.inl h)))
   obtain⟨hm,a1,a2,a3⟩:=H18.held
   refine atI (DC.mk (AB H18.cell rfl) (atI (DC.mk (AB H18.cell rfl) ?_)))
   refine AHe AEo AAf AHT (v:= .int .i64 ((r+1:Nat):Int)) a1 (by have:=H18.cnt;simp only[maxLen];omega) fun h19 b1' md9 sz9=>?_
   obtain⟨um,a4,a5,a6⟩:=H18.used
   have a4':=a4.mod md9 HH.ne.symm
   refine AHe AFa AAf AH0 (v:= .int .u64 0) a4' (by have:=H18.cnt;simp only[maxLen];omega) fun h20 b2' md10 sz10=>?_
   have m1: ∀c,c=bh→k8 c=0∧g.size≤c:=fun c hc=>⟨(H18.mine c (.inr (.inl hc))).1,(H18.mine c (.inr (.inl hc))).2.1⟩
   have m2: ∀c,c=bu→k8 c=0∧g.size≤c:=fun c hc=>⟨(H18.mine c (.inr (.inr hc))).1,(H18.mine c (.inr (.inr hc))).2.1⟩
   have C20:=(C18.beside md9 m1 fun e=>(H18.mine s (.inr (.inl e))).2.2 rfl).beside md10 m2 fun e=>(H18.mine s (.inr (.inr e))).2.2 rfl
   refine H h20 q8 k8 st8 m8 D8 ed8 eb8 C20 mp8 ⟨md10.blk (md9.blk H18.cell HH.pne.1) HH.pne.2,⟨_,b1'.mod md10 HH.ne,Nat.le_trans QD (by omega),fun m=>AIz a3 m⟩,⟨_,b2',Nat.le_trans QD (by omega),fun m=>AEY (r:=0) a6 m⟩,H18.mine,H18.ne,H18.named,H18.sh,hN⟩ ((M0.trans (md9.weak fun c _ hc=> .inr (.inr (.inr (.inl hc))))).trans (md10.weak fun c _ hc=> .inr (.inr (.inr (.inr hc))))) fun c hc=>?_
   rcases kk8 c hc with h|h
   ·exact .inl h
   ·exact .inr (by omega)
  have x3': ∀ {hx:Heap},Ext h9 hx→hget hx ⟨p,0,none⟩=some (Aq s):=fun xx=>AC (AU xx H9.cell) rfl
  have row: ∀ {hx:Heap},Ext h9 hx→hget hx (⟨b,0,none⟩:Addr)=some (.string (Bu n))∧hget hx ((⟨b,0,none⟩:Addr).add 1)=some (.string cv)∧hget hx ((⟨b,0,none⟩:Addr).add 2)=some (.bool cg):=fun xx=>⟨AC (AU xx hb9) rfl,AB (AU xx hb9) rfl,AB (AU xx hb9) rfl⟩
  refine atI (AP.mk (AC H9.cell rfl) (AL.mk (AC hb9 rfl) (AL.mk (AB hb9 rfl) (Ab.mk (AB hb9 rfl) ?_))))
  refine⟨?_,?_⟩
  ·refine New.mk fun ha _ hba xa sa=>⟨x3' xa,?_⟩
   refine Qc (by omega) fun hb xb=>⟨_,rfl,?_⟩
   have xab:=xa.trans xb
   refine⟨row xab,⟨x3' xab,?_⟩⟩
   refine New.mk fun hc _ hbc xc sc=>?_
   have xac:=xab.trans xc
   exact⟨row xac,⟨x3' xac,go hc _ _ xac (AU xc (AU xb hba)) hbc xab.size⟩⟩
  ·refine Qc (by omega) fun ha xa=>⟨_,rfl,⟨row xa,⟨x3' xa,⟨?_,?_⟩⟩⟩⟩
   ·refine New.mk fun hb _ hbb xb sb=>?_
    have xab:=xa.trans xb
    refine⟨x3' xab,New.mk fun hc _ hbc xc sc=>?_⟩
    have xac:=xab.trans xc
    exact⟨row xac,⟨x3' xac,go hc _ _ xac (AU xc hbb) hbc xab.size⟩⟩
   ·refine New.mk fun hb _ hbb xb sb=>?_
    have xab:=xa.trans xb
    refine⟨row xab,⟨x3' xab,New.mk fun hc _ hbc xc sc=>?_⟩⟩
    have xac:=xab.trans xc
    exact⟨x3' xac,go hc _ _ xac hbc (AU xc hbb) xa.size⟩
 refine PIf.intro (fun hq=>?_) (fun hq=>?_)
 ·have hr0:0<r:=by have:=of_decide_eq_true hq;omega
  rcases L with⟨h1,_⟩|⟨h1,h2,h3,e⟩
  ·omega
  simp only[Bg,Nat.zero_add]
  refine Store.mk hb3 (by simp) fun h4 hb4 m4 s4=>?_
  have hb4:h4[b]? =some (.cells #[.string (Bu n),.string ⟨#[]⟩,.bool false] AO (0,0)):=by simpa using hb4
  refine Xh h1 h2 h3 fun h5 x5=>⟨_,_,rfl,?_⟩
  refine Store.mk (AU x5 hb4) (by simp) fun h6 hb6 m6 s6=>?_
  have hb6:h6[b]? =some (.cells #[.string (Bu n),.string (Fe r nm),.bool false] AO (0,0)):=by simpa using hb6
  have x04:Ext h h4:=x03.then (m4.weak fun c _ hc=> .inr (by omega))
  refine main h6 _ _ ((x04.trans x5).then (m6.weak fun c _ hc=> .inr (by omega))) hb6 ?_
  unfold CL
  rw[e];simp
 ·have hr0:r=0:=by have:=of_decide_eq_false hq;omega
  rcases L with⟨h1,_,e⟩|⟨h1,h2,h3,e⟩
  ·refine main h3 _ _ x03 hb3 ?_
   unfold CL
   rw[e];simp
  ·omega
end
end Go.Lf.G

