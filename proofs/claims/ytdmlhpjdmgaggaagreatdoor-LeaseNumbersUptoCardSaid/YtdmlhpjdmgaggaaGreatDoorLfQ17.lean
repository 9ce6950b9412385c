/-
 Hosts that are awake; the law LeaseFences (chapter 18) over its formula.
-/
import Derived.Test.YtdmlhpjdmgaggaaGreatDoorLfGLLeaseFences
import Derived.Test.YtdmlhpjdmgaggaaGreatDoorLfZ28
import Derived.Test.YtdmlhpjdmgaggaaGreatDoorLfQ13
set_option linter.unusedVariables false
set_option linter.unusedSimpArgs false
set_option maxRecDepth 100000
set_option linter.unusedVariables false
set_option linter.unusedSimpArgs false
namespace Go.Lf.G
open Go
open M (Sorted Ag DR BJ Ai BD CV Ap OkL Ba atK Bc)
def Tk:Bud:=⟨32000,0,1600,by decide,by decide,by decide⟩
theorem AJ5 {mp:List Pr}{n r:Nat}{nm key val:ByteArray}(L:BQ mp n r nm)(h1:1≤r)(hk:key≠⟨#[]⟩)(h2:key.size≤64)(h3:val.size≤8192):doC mp [MX n r nm] [⟨key,val,false⟩]=0:=by
 have hck:=AJF hk h2 h3
 unfold doC
 rw[if_neg (by simp),if_neg (by rw[hck];decide),if_pos (by simp[L.holds h1])]
theorem TV {A:Amb}{h:Heap}{R:Value→Heap→Prop}(E:Evn h)(H: ∀h',Ext h h'→R (.bool true) h'):AA A P DN #[] h R:=by
 refine QL ?_
 unfold IG
 refine OU fun b h1 Sb B1 x1 f1=>⟨_,rfl,?_⟩
 refine LW.start (B:=Tk) (sh:=2) E B1 x1 f1 rfl rfl (fun n=>rfl) (fun n=>rfl) (fun x hx=>absurd rfl hx) (by decide) (by decide) fun h2 s W2 x2 hs=>⟨_,_,rfl,?_⟩
 refine W2.host (name:=ka) (by decide) (by decide) fun h3 p1 bh1 bu1 W3 x3=>⟨_,_,rfl,?_⟩
 refine W3.host (name:=kb) (by decide) (by decide) fun h4 p2 bh2 bu2 W4 x4=>⟨_,_,rfl,?_⟩
 refine W4.acquire (i:=0) (n:=0) (r:=0) (nm:=⟨#[]⟩) (x:=⟨p1,bh1,bu1,ka,fun _=>0,fun _=>0⟩) E rfl (by decide) BQ.empty (by decide) (by decide) (by decide) (by decide) (by decide) fun h5 W5 md5=>⟨_,_,rfl,?_⟩
 have L5:BQ (wrL [] [⟨Bu 0,Fe (0+1) ka,false⟩]) 0 1 ka:=BQ.laid W4.sorted (by decide) (by decide) (by decide)
 refine W5.acquire (i:=1) (n:=0) (r:=1) (nm:=ka) (x:=⟨p2,bh2,bu2,kb,fun _=>0,fun _=>0⟩) E rfl (by decide) L5 (by decide) (by decide) (by decide) (by decide) (by decide) fun h6 W6 md6=>⟨_,_,rfl,?_⟩
 have L6:=BQ.laid (n:=0) (r:=1+1) (name:=kb) W5.sorted (by decide) (by decide) (by decide)
 refine New.mk fun h7 _ hb7 x7 s7=>?_
 have W7:=W6.own (O':=fun c=>c=h6.size) (x7.weak fun _ _ h=>h.elim) fun c hc=> .inr (by omega)
 refine PIf.yes rfl (PIf.yes rfl (PIf.yes rfl (PIf.yes rfl (PIf.yes rfl (PIf.yes rfl ?_)))))
 have v7:View Ak h7 ⟨some ⟨h6.size,0,none⟩,1,1⟩ [⟨⟨#[120]⟩,⟨#[49]⟩,false⟩]:=(Own.lit (E:=Ak) (l:= [⟨⟨#[120]⟩,⟨#[49]⟩,false⟩]) hb7 rfl (by decide)).view
 have blk: ∀b,Sl.blk ⟨some ⟨h6.size,0,none⟩,1,1⟩=some b→b=h6.size:=fun b hb=>by
  have:h6.size=b:=by simpa [Sl.blk] using hb
  exact this.symm
 have no: ¬CL (wrL (wrL [] [⟨Bu 0,Fe (0+1) ka,false⟩]) [⟨Bu 0,Fe (1+1) kb,false⟩]) (MX 0 1 ka)=true:=fun h=>absurd (L6.own (by decide) (by decide) h) (by decide)
 refine W7.change (i:=0) (n:=0) (conds:=⟨none,0,0⟩) (cl:= []) (sl:=⟨some ⟨h6.size,0,none⟩,1,1⟩) (x:=(⟨p1,bh1,bu1,ka,fun _=>0,fun _=>0⟩:Hs).got 0 1) E rfl (by decide) (by show(1:Nat)≤_;decide) (by decide) (by decide) (by decide) View.nil (by decide) v7 (fun _ b hb=> .inr (blk b hb)) (fun x hx=>by cases hx)
  (fun h0=>absurd (show(1:Nat)=0 from h0) (by decide)) (fun _ _ h8 W8 md8=>⟨_,rfl,PIf.yes rfl ?_⟩) (fun _ ht=>absurd ht no) (fun _ ht=>absurd ht no)
 refine W8.holds (i:=0) (n:=0) (x:=((⟨p1,bh1,bu1,ka,fun _=>0,fun _=>0⟩:Hs).got 0 1).lost 0) rfl ⟨_,rfl,PIf.yes rfl ?_⟩
 have v8:=v7.mod md8 fun c hc h=>h.2 (blk c hc)
 have yes:=L6.holds (by decide)
 have dz:=AJ5 (key:=⟨#[120]⟩) (val:=⟨#[49]⟩) L6 (by decide) (by decide) (by decide) (by decide)
 refine W8.change (i:=1) (n:=0) (conds:=⟨none,0,0⟩) (cl:= []) (sl:=⟨some ⟨h6.size,0,none⟩,1,1⟩) (x:=(⟨p2,bh2,bu2,kb,fun _=>0,fun _=>0⟩:Hs).got 0 2) E rfl (by decide) (by show(2:Nat)≤_;decide) (by decide) (by decide) (by decide) View.nil (by decide) v8 (fun _ b hb=> .inr (blk b hb)) (fun x hx=>by cases hx)
  (fun h0=>absurd (show(2:Nat)=0 from h0) (by decide)) (fun _ hfl=>?_) (fun _ _ hne=>absurd dz hne) (fun _ _ _ h9 W9 md9=>⟨_,rfl,H h9 W9.ext⟩)
 exact absurd (yes.symm.trans hfl) (by decide)
theorem AKo(n:Int): ∃a:UInt8,IntKind.wrap .u8 n=(a.toNat:Int):=by
 have e:IntKind.wrap .u8 n=n % 256:=by simp[IntKind.wrap,IntKind.bits,IntKind.signed]
 refine⟨UInt8.ofNat (n % 256).toNat,?_⟩
 rw[e,UInt8.toNat_ofNat'];omega
theorem New.byte {A:Amb}{h:Heap}{v:Int}{K:ByteArray→Heap→Prop}(H: ∀c h',IntKind.wrap .u8 v=((c:UInt8).toNat:Int)→Ext h h'→K (AY [c]) h'):New h (.cells #[.int .u8 (IntKind.wrap .u8 v)] Ci) fun b h1=>BK A P (convert CO Ad (.slice (some (⟨b,0,none⟩:Addr)) 1 1)) h1 fun v3 h7=> ∃t42:ByteArray,v3= .string t42∧K t42 h7:=by
 obtain⟨c,e⟩:=AKo v
 refine New.mk fun h1 _ hb1 x1 s1=>?_
 rw[e] at hb1
 have v1:View Gc h1 ⟨some ⟨h.size,0,none⟩,1,1⟩ [c]:=(Own.lit (E:=Gc) (l:= [c]) hb1 rfl (by simp[maxLen])).view
 exact Jf (s:=⟨some ⟨h.size,0,none⟩,1,1⟩) Ve AIG JY v1 ⟨_,rfl,H c h1 e x1⟩
theorem AIv {a n:Nat}(h: ¬DU a=DU 108)(c:UInt8):AY [DU a]++AY [c]≠Bu n:=fun e=>by
 rw[CF] at e
 have h1:=Ni.1 e
 simp only[List.cons_append,List.nil_append,List.cons.injEq] at h1
 exact h h1.1
def JX(h:Heap)(b:Nat)(T:TypeId)(ps:List Nat):Prop:= ∃cs,h[b]? =some (.cells cs T (0,0))∧ ∀(i:Nat) p,ps[i]? =some p→cs[i]? =some (Aq p)
theorem JX.at {h:Heap}{b:Nat}{T:TypeId}{ps:List Nat}(H:JX h b T ps){i p:Nat}(hi:ps[i]? =some p):hget h ⟨b,i,none⟩=some (Aq p):=by
 obtain⟨cs,h1,h2⟩:=H
 exact AC h1 (h2 i p hi)
theorem JX.mod {S:Nat→Prop}{h h':Heap}{b:Nat}{T:TypeId}{ps:List Nat}(H:JX h b T ps)(md:Mod S h h')(hS: ¬S b):JX h' b T ps:=by
 obtain⟨cs,h1,h2⟩:=H
 exact⟨cs,md.blk h1 hS,h2⟩
theorem map_set {l:List Hs}{i:Nat}{x x':Hs}(hx:l[i]? =some x)(h:x'.p=x.p):(l.set i x').map (·.p)=l.map (·.p):=by
 apply List.ext_getElem?
 intro j
 rw[List.getElem?_map,List.getElem?_map]
 by_cases e:i=j
 ·subst e
  rw[List.getElem?_set_self (List.getElem?_eq_some_iff.1 hx).1,hx]
  simp[h]
 ·rw [List.getElem?_set_ne e]
theorem VN {l:List Hs}{i:Nat}{x:Hs}(hx:l[i]? =some x):(l.map (·.p))[i]? =some x.p:=by rw[List.getElem?_map,hx];rfl
structure Bel (l:List Hs) (j:Nat) (last:Int) (r:Nat) (nm:ByteArray) (k:Nat):Prop where
 own: ∀(i:Nat) x,l[i]? =some x→(i:Int)=last→x.f j=r∧1≤r∧x.name=nm
 oth: ∀(i:Nat) x,l[i]? =some x→(i:Int)≠last→(x.f j=0∨x.f j<r)∧(i<k→x.f j=0)
theorem Bel.top {l:List Hs}{j:Nat}{last:Int}{r k:Nat}{nm:ByteArray}(H:Bel l j last r nm k):Bel l j last r nm 0:=⟨H.own,fun i x hx h=>⟨(H.oth i x hx h).1,fun h=>by omega⟩⟩
theorem Yh {A:Amb}{h:Heap}{order:Sl}{os:List Int}{shard:Int}{R:Value→Heap→Prop}(E:Evn h)(v:View Eg h order os)(H: ∀h',Ext h h'→R (.bool true) h'):AA A P Ej #[.slice order.p order.len order.cap,.int .i64 shard] h R:=by
 refine MP ?_
 unfold El
 obtain⟨j,hj,ej⟩:=Na (x:=shard) (n:=4) (by decide) (by decide)
 rw[show((4:Nat):Int)=4 from rfl] at ej
 rw[ej]
 clear ej
 refine TV E fun h1 x1=>⟨_,rfl,PIf.no rfl ?_⟩
 have hl:=v.len
 refine PIf.intro (fun hq=>H h1 x1) (fun hq=>?_)
 have hcl:os.length≤60:=by have:=of_decide_eq_false hq;omega
 refine OU fun b h2 Sb B2 x2 f2=>⟨_,rfl,?_⟩
 have x02:=x1.trans x2
 have sz1:=x1.size
 refine LW.start (B:=Tk) (sh:=4) E B2 x02 (fun c hc=>by have:=f2 c hc;omega) rfl rfl (fun n=>rfl) (fun n=>rfl) (fun x hx=>absurd rfl hx) (by decide) (by decide) fun h3 s W3 x3 hs=>⟨_,_,rfl,?_⟩
 refine New.mk fun h4 _ hb4 x4 s4=>?_
 have W4:=W3.own (O':=fun c=>c=h3.size) (x4.weak fun _ _ h=>h.elim) fun c hc=> .inr (by omega)
 generalize h3.size=br at*
 refine Loop.rule (fun mm x hh=> ∃(i:Nat) (l:List Hs) (cs:Array Value),x=((i:Int),())∧LW Tk h hh s 0 0 4 l [] (fun c=>c=br)∧hh[br]? =some (.cells cs Dh (0,0))∧cs.size=4∧(∀ (i:Nat) x,l[i]? =some x→cs[i]? =some (Aq x.p)∧x.f j=0)∧l.length=i∧i≤4∧mm=4-i) ?_
  ⟨0,[],_,rfl,W4,hb4,rfl,fun i x hx=>by simp at hx,rfl,by omega,rfl⟩
 rintro K mm _ hh ⟨i,l,cs,rfl,W,hb,hcs,hl4,hli,hi,rfl⟩ hK
 dsimp only
 refine PIf.intro (fun hq=>?_) (fun hq=>?_)
 ·have hil:i<4:=by have:=of_decide_eq_true hq;omega
  obtain⟨ch,ech,rch⟩: ∃ch:UInt8,IntKind.wrap .u8 (IntKind.wrap .i64 ((48:Int)+(i:Int)))=(ch.toNat:Int)∧(33≤ch.toNat∧ch.toNat≤126):=by
   refine⟨DU (48+i),?_,?_⟩
   ·rw [wrap_i64 (by omega) (by omega),show(48:Int)+(i:Int)=((48+i:Nat):Int) from by omega,wrap_u8,ET (by omega),Nat.mod_eq_of_lt (by omega)]
   ·rw [ET (by omega)];omega
  refine New.byte fun c' h6 e6 x6=>?_
  have hcc:c'=ch:=by
   rw[ech] at e6
   exact UInt8.toNat_inj.1 (by omega)
  subst hcc
  refine⟨by rw[AQ,show(⟨#[104]⟩:ByteArray).size=1 from rfl,max_i64];simp,?_⟩
  have en:(⟨#[104]⟩:ByteArray)++AY [c']=AY [DU 104,c']:=by rw[show(⟨#[104]⟩:ByteArray)=AY [DU 104] from rfl,CF];rfl
  rw[en]
  have hnm:GV (AY [DU 104,c'])=true:=by
   rw[IZ]
   refine⟨by rw[AQ];simp,by rw[AQ];simp,fun c hc=>?_⟩
   rw[show bl (AY [DU 104,c'])= [DU 104,c'] from Cz _] at hc
   simp only[List.mem_cons,List.not_mem_nil,or_false] at hc
   rcases hc with rfl|rfl
   ·decide
   ·exact rch
  refine(W.on x6).host (name:=AY [DU 104,c']) hnm (by decide) fun h8 p bh bu W8 x8=>⟨_,_,rfl,?_⟩
  refine⟨⟨by omega,by omega⟩,?_⟩
  have x68:=x6.trans x8
  have hb8:=AU x68 hb
  simp only[Bg,Nat.zero_add,Int.toNat_natCast,Nat.mul_one]
  refine Store.mk hb8 (by omega) fun h9 hb9 md9 sz9=>?_
  rw[AR (by omega)]
  refine hK (4-(i+1)) _ _ (by omega) ⟨i+1,_,_,rfl,W8.own md9 fun c hc=> .inl hc,hb9,by simpa using hcs,fun i2 x hx=>?_,by simp[hli],hil,rfl⟩
  rw[List.getElem?_append] at hx
  split at hx
  ·rename_i hlt
   obtain⟨a1,a2⟩:=hl4 i2 x hx
   rw[Array.getElem?_setIfInBounds_ne (by omega)]
   exact⟨a1,a2⟩
  ·rename_i hlt
   rw[List.getElem?_singleton] at hx
   split at hx
   ·have e:i2=i:=by omega
    subst e
    cases hx
    refine⟨by simp[hcs,hil],rfl⟩
   ·cases hx
 have hi4:i=4:=by have:=of_decide_eq_false hq;omega
 subst hi4
 have row:JX hh br Dh (l.map (·.p)):=⟨cs,hb,fun i p hp=>by
  rw[List.getElem?_map] at hp
  cases hx:l[i]? with
  |none=>rw[hx] at hp;cases hp
  |some x=>
   rw[hx] at hp
   obtain rfl:x.p=p:=by simpa using hp
   exact(hl4 i x hx).1⟩
 have bel0:Bel l j (-1) 0 ⟨#[]⟩ 4:=⟨fun i x hx h=>by omega,fun i x hx _=>⟨.inl (hl4 i x hx).2,fun _=>(hl4 i x hx).2⟩⟩
 clear hl4 hb hcs hq hK W4 hb4
 generalize hps:l.map (·.p)=ps at row
 refine Loop.rule (fun mm x hz=> ∃(n r:Nat) (last:Int) (nm:ByteArray) (l':List Hs) (mp:List Pr),x=(last,(n:Int),())∧LW Tk h hz s (5*n) n 4 l' mp (fun c=>c=br)∧l'.length=4∧l'.map (·.p)=ps∧JX hz br Dh ps∧BQ mp j r nm∧Bel l' j last r nm 4∧r≤n∧n≤os.length∧mm=os.length-n) ?_
  ⟨0,0,-1,⟨#[]⟩,l,[],rfl,W,hli,hps,row,BQ.empty,bel0,Nat.le_refl _,Nat.zero_le _,rfl⟩
 clear bel0 row hps hli W l
 rintro K mm _ hh2 ⟨n,r,last,nm,l,mp,rfl,W,hli,hps,row,L,bel,hr,hn,rfl⟩ hK
 dsimp only
 rw[hl]
 refine PIf.intro (fun hq=>?_) (fun hq=>H hh2 W.ext)
 have hnl:n<os.length:=by have:=of_decide_eq_true hq;omega
 have hget:os[n]? =some os[n]:=List.getElem?_eq_getElem hnl
 generalize os[n]=o at*
 rw[← hl]
 refine(v.ext W.ext).idx hget fun a _ c0=>Aa.mk c0.int ?_
 refine Join.mk fun K2 hK2=>?_
 have inner: ∀h11 last r nm l mp,LW Tk h h11 s (5*n+1) (n+1) 4 l mp (fun c=>c=br)→l.length=4→l.map (·.p)=ps→JX h11 br Dh ps→BQ mp j r nm→Bel l j last r nm 0→r≤n+1→K2 (last,()) h11:=by
  intro h11 last r nm l mp W hli hps row L bel hr
  refine hK2 _ _ ?_
  refine Loop.rule (fun mm x hx=> ∃(k:Nat) (l':List Hs) (mp:List Pr),x=((k:Int),())∧LW Tk h hx s (5*n+1+k) (n+1) 4 l' mp (fun c=>c=br)∧l'.length=4∧l'.map (·.p)=ps∧JX hx br Dh ps∧BQ mp j r nm∧Bel l' j last r nm k∧k≤4∧mm=4-k) ?_
   ⟨0,l,mp,rfl,W,hli,hps,row,L,bel,by omega,rfl⟩
  clear bel row hps hli W l L mp
  rintro K3 mm _ hx ⟨k,l,mp,rfl,W,hli,hps,row,L,bel,hk,rfl⟩ hK3
  dsimp only
  refine PIf.intro (fun hq=>?_) (fun hq=>?_)
  rotate_left
  ·have hk4:k=4:=by have:=of_decide_eq_false hq;omega
   subst hk4
   rw[AR (by omega)]
   exact hK (os.length-(n+1)) _ _ (by omega) ⟨n+1,r,last,nm,l,mp,rfl,W.put (by omega) (by show 64*(5*(n+1))≤32000;omega) (Nat.le_refl _) (by omega),hli,hps,row,L,bel,hr,hnl,rfl⟩
  have hk4:k<4:=by have:=of_decide_eq_true hq;omega
  have hxk:l[k]? =some l[k]:=List.getElem?_eq_getElem (by omega)
  generalize l[k]=x at hxk
  have hp:=VN hxk
  rw[hps] at hp
  refine New.byte fun ck h14 e14 x14=>?_
  have e107:(⟨#[107]⟩:ByteArray)=AY [DU 107]:=rfl
  refine⟨by rw[AQ,e107,AQ,max_i64];simp,⟨⟨by omega,by omega⟩,?_⟩⟩
  have row14:=row.mod x14 fun h=>h
  simp only[Bg,Nat.zero_add,Int.toNat_natCast,Nat.mul_one]
  refine AP.mk (row14.at hp) ?_
  obtain⟨cv,ecv⟩:=AKo (n:Int)
  rw[ecv]
  refine New.mk fun h15 _ hb15 x15 s15=>⟨(row14.mod x15 fun h=>h).at hp,?_⟩
  have v15:View Gc h15 ⟨some ⟨h14.size,0,none⟩,1,1⟩ [cv]:=(Own.lit (E:=Gc) (l:= [cv]) hb15 rfl (by simp[maxLen])).view
  refine Jf (s:=⟨some ⟨h14.size,0,none⟩,1,1⟩) Ve AIG JY v15 ⟨_,rfl,⟨(row14.mod x15 fun h=>h).at hp,?_⟩⟩
  refine New.mk fun h17 _ hb17 x17 s17=>?_
  have x1417:=x15.trans x17
  have row17:=row14.mod x1417 fun h=>h
  refine⟨row17.at hp,?_⟩
  have x017:=x14.trans x1417
  have W17:=W.own (O':=fun c=>c=br∨c=h15.size) (x017.weak fun _ _ h=>h.elim) fun c hc=>hc.imp id fun h=>by have:=(x14.trans x15).size;omega
  have vl:View Ak h17 ⟨some ⟨h15.size,0,none⟩,1,1⟩ [⟨(⟨#[107]⟩:ByteArray)++AY [ck],AY [cv],false⟩]:=(Own.lit (E:=Ak) (l:= [⟨(⟨#[107]⟩:ByteArray)++AY [ck],AY [cv],false⟩]) hb17 rfl (by simp[maxLen])).view
  have hkey:(⟨#[107]⟩:ByteArray)++AY [ck]≠Bu j:=AIv (a:=107) (by decide) ck
  have hksz:((⟨#[107]⟩:ByteArray)++AY [ck]).size=2:=by rw[ByteArray.size_append,e107,AQ,AQ];rfl
  have hkne:(⟨#[107]⟩:ByteArray)++AY [ck]≠⟨#[]⟩:=fun e=>by rw[e] at hksz;cases hksz
  generalize (⟨#[107]⟩:ByteArray)++AY [ck]=key at*
  have go: ∀hy l' mp' (e:Int),LW Tk h hy s (5*n+1+(k+1)) (n+1) 4 l' mp' (fun c=>c=br∨c=h15.size)→l'.length=4→l'.map (·.p)=ps→JX hy br Dh ps→BQ mp' j r nm→Bel l' j last r nm (k+1)→(((k:Int)=last∧e=0)∨((k:Int)≠last∧e=170))→
    Join (fun(r:Bool×Unit) h19=>PIf r.1 (R (.bool false) h19) (K3 ((IntKind.wrap .i64 ((k:Int)+(1:Int))),()) h19)) fun K4=>
            PIf (!((e==(0:Int))==((k:Int)==last))) (
             K4 (true,()) hy) (
             PIf (e != (0:Int)) (
              PIf (e != (170:Int)) (
               K4 (true,()) hy) (
               Chk ((0:Int)≤(k:Int)∧(k:Int)<(4:Int))<|
               AP hy ⟨br,k,none⟩ fun t112=>
               AA A P BF #[.pointer t112,.int .i64 (j:Int)] hy fun v8 h20=> ∃t114:Int,v8= .int .i64 t114∧(
               K4 ((!((decide (t114>(0:Int)))==((k:Int)==last))),()) h20))) (
              Chk ((0:Int)≤(k:Int)∧(k:Int)<(4:Int))<|
              AP hy ⟨br,k,none⟩ fun t112_1=>
              AA A P BF #[.pointer t112_1,.int .i64 (j:Int)] hy fun v9 h21=> ∃t114_1:Int,v9= .int .i64 t114_1∧(
              K4 ((!((decide (t114_1>(0:Int)))==((k:Int)==last))),()) h21))):=by
   intro hy l' mp' e Wy hly hpy rowy Ly by' he
   have hyk:l'[k]? =some l'[k]:=List.getElem?_eq_getElem (by omega)
   generalize l'[k]=y at hyk
   have hpp:=VN hyk
   rw[hpy] at hpp
   refine Join.mk fun K4 hK4=>?_
   have fin:K4 (false,()) hy:=hK4 _ _ (PIf.no rfl (by
    rw[AR (by omega)]
    exact hK3 (4-(k+1)) _ _ (by omega) ⟨k+1,l',mp',rfl,Wy.less fun c hc=> .inl hc,hly,hpy,rowy,Ly,by',by omega,rfl⟩))
   rcases he with⟨e1,rfl⟩|⟨e1,rfl⟩
   ·have e2:((k:Int)==last)=true:=by simpa using e1
    rw[e2]
    refine PIf.no rfl (PIf.no rfl ⟨⟨by omega,by omega⟩,AP.mk (rowy.at hpp) ?_⟩)
    refine Wy.holds hyk ⟨_,rfl,?_⟩
    obtain⟨b1,b2,_⟩:=by'.own k y hyk e1
    rw[decide_eq_true (by omega:((y.f j:Nat):Int)>0)]
    exact fin
   ·have e2:((k:Int)==last)=false:=by simpa using e1
    rw[e2]
    refine PIf.no rfl (PIf.yes rfl (PIf.no rfl ⟨⟨by omega,by omega⟩,AP.mk (rowy.at hpp) ?_⟩))
    refine Wy.holds hyk ⟨_,rfl,?_⟩
    have b1:=(by'.oth k y hyk e1).2 (by omega)
    rw[decide_eq_false (by omega: ¬((y.f j:Nat):Int)>0)]
    exact fin
  have hrl:x.f j≤r:=by
   by_cases e1:(k:Int)=last
   ·exact Nat.le_of_eq (bel.own k x hxk e1).1
   ·rcases(bel.oth k x hxk e1).1 with h|h<;>omega
  have hne:br≠h15.size:=by
   obtain⟨cs,hc,_⟩:=row14
   have:=Ah hc
   have:=x15.size
   omega
  refine W17.change (n:=j) (conds:=⟨none,0,0⟩) (cl:= []) (sl:=⟨some ⟨h15.size,0,none⟩,1,1⟩) E hxk (by omega) (by omega) (by show 4+3*(5*n+1+k)≤1600;omega) (by show 64*(5*n+1+k)+64≤32000;omega) (by omega) View.nil (by decide) vl (fun _ b hb=> .inr (.inr (by
   have:h15.size=b:=by simpa [Sl.blk] using hb
   exact this.symm))) (fun x hx=>by cases hx) (fun h0=>?_) (fun h0 hfl h18 W18 md18=>?_) (fun h0 htr hne1=>?_) (fun h0 htr hz h18 W18 md18=>?_)
  ·
   have e1:(k:Int)≠last:=fun e1=>by
    obtain⟨b1,b2,_⟩:=bel.own k x hxk e1
    omega
   exact⟨_,rfl,go h17 l mp 170 (W17.put (by omega) (by show 64*(5*n+1+(k+1))≤32000;omega) (Nat.le_refl _) (by omega)) hli hps row17 L ⟨bel.own,fun i y hy h=>⟨(bel.oth i y hy h).1,fun hi=>by
    by_cases e:i=k
    ·subst e
     rw[hxk] at hy
     cases hy;exact h0
    ·exact(bel.oth i y hy h).2 (by omega)⟩⟩ (.inr ⟨e1,rfl⟩)⟩
  ·
   have e1:(k:Int)≠last:=fun e1=>by
    obtain⟨b1,b2,b3⟩:=bel.own k x hxk e1
    rw[b1,b3,L.holds b2] at hfl
    cases hfl
   have hkl:k<l.length:=by omega
   refine⟨_,rfl,go h18 _ mp 170 (W18.put (by omega) (by show 64*(5*n+1+(k+1))≤32000;omega) (Nat.le_refl _) (by omega)) (by simpa using hli) ((map_set (x':=x.lost j) hxk rfl).trans hps) (row17.mod md18 fun h=>h.2 (.inl rfl)) L ⟨fun i y hy h=>?_,fun i y hy h=>?_⟩ (.inr ⟨e1,rfl⟩)⟩
   ·by_cases e:k=i
    ·subst e;exact absurd h e1
    ·rw [List.getElem?_set_ne e] at hy
     exact bel.own i y hy h
   ·by_cases e:k=i
    ·subst e
     rw[List.getElem?_set_self hkl] at hy
     cases hy
     have:(x.lost j).f j=0:=by show upN x.f j 0 j=0;unfold upN;rw[if_pos rfl]
     exact⟨.inl this,fun _=>this⟩
    ·rw [List.getElem?_set_ne e] at hy
     exact⟨(bel.oth i y hy h).1,fun hi=>(bel.oth i y hy h).2 (by omega)⟩
  ·
   exfalso
   have hreq:=L.own (by omega) (by omega) htr
   by_cases e1:(k:Int)=last
   ·obtain⟨b1,b2,b3⟩:=bel.own k x hxk e1
    rw[b1,b3] at hne1
    exact hne1 (AJ5 L b2 hkne (by omega) (by rw[AQ];simp))
   ·rcases(bel.oth k x hxk e1).1 with h|h<;>omega
  ·
   have hreq:=L.own (by omega) (by omega) htr
   have e1:(k:Int)=last:=Decidable.byContradiction fun e1=>by
    rcases(bel.oth k x hxk e1).1 with h|h<;>omega
   refine⟨_,rfl,go h18 l _ 0 W18 hli hps (row17.mod md18 fun h=>h.2 (.inl rfl)) (L.other W17.sorted hkey) ⟨bel.own,fun i y hy h=>⟨(bel.oth i y hy h).1,fun hi=>?_⟩⟩ (.inl ⟨e1,rfl⟩)⟩
   by_cases e:i=k
   ·subst e;exact absurd e1 h
   ·exact(bel.oth i y hy h).2 (by omega)
 clear hK2
 obtain⟨i,hi,ei⟩:=Na (x:=o) (n:=4) (by decide) (by decide)
 rw[show((4:Nat):Int)=4 from rfl] at ei
 rw[ei]
 refine PIf.intro (fun hq2=>?_) (fun hq2=>?_)
 ·have hxi:l[i]? =some l[i]:=List.getElem?_eq_getElem (by omega)
  generalize l[i]=x at hxi
  have hp:=VN hxi
  rw[hps] at hp
  refine⟨⟨by omega,by omega⟩,?_⟩
  simp only[Bg,Nat.zero_add,Int.toNat_natCast,Nat.mul_one]
  refine AP.mk (row.at hp) ?_
  refine W.acquire E hxi (by omega) L (by omega) (by show 4+3*(5*n)≤1600;omega) (by show 64*(5*n)+64≤32000;omega) (by omega) (by omega) fun h22 W22 md22=>⟨_,_,rfl,PIf.no rfl ?_⟩
  have hil:i<l.length:=by omega
  obtain⟨hnm,hsh⟩:GV x.name=true∧True:=by
   obtain⟨q,k,st,m,D,nn,C,hn2,e,Al,hN,out⟩:=W
   exact⟨(Al.host i x hxi).named,trivial⟩
  have ef:(x.got j (r+1)).f j=r+1:=by show upN x.f j (r+1) j=r+1;unfold upN;rw[if_pos rfl]
  refine inner h22 (i:Int) (r+1) x.name _ _ W22 (by simpa using hli) ((map_set (x':=x.got j (r+1)) hxi rfl).trans hps) (row.mod md22 fun h=>h.2 rfl) (BQ.laid W.sorted (by omega) (by omega) hnm) ⟨fun i2 y hy h=>?_,fun i2 y hy h=>⟨?_,fun h=>by omega⟩⟩ (by omega)
  ·have e:i=i2:=by omega
   subst e
   rw[List.getElem?_set_self hil] at hy
   cases hy
   exact⟨ef,by omega,rfl⟩
  ·have e:i≠i2:=by omega
   rw[List.getElem?_set_ne e] at hy
   by_cases e1:(i2:Int)=last
   ·have:=(bel.own i2 y hy e1).1
    omega
   ·rcases(bel.oth i2 y hy e1).1 with h|h
    ·exact .inl h
    ·omega
 ·exact inner hh2 last r nm l mp (W.put (by omega) (by show 64*(5*n+1)≤32000;omega) (by omega) (by omega)) hli hps row L bel.top (by omega)
end Go.Lf.G

