/-
 Contracts: a host changes what is behind its fence, and tells numbers (chapter 18).
-/
import Derived.Test.YtdmlhpjdmgaggaaGreatDoorLfZ26
set_option linter.unusedVariables false
set_option linter.unusedSimpArgs false
set_option maxRecDepth 100000
set_option linter.unusedVariables false
set_option linter.unusedSimpArgs false
namespace Go.Lf.G
open Go
open M (Sorted Ag DR BJ Ai BD CV Ap OkL Ba atK Bc)
section
variable {A : Amb} {B : Bud} {g h : Heap} {s p bh bu : Nat} {q : Hp} {k : Nat → Nat} {st : Db} {m : Bx} {D : BO} {age c nn N : Nat} {name : ByteArray} {shards : Nat} {f u : Nat → Nat} {R : Value → Heap → Prop}
def MX(n r:Nat)(name:ByteArray):Pr:=⟨Bu n,Fe r name,false⟩
theorem VM {mp:List Pr}{n r:Nat}{name:ByteArray}:CL mp (MX n r name)=((G6 mp (Bu n)).2&&decide ((G6 mp (Bu n)).1=Fe r name)):=rfl
theorem AMu {n:Nat}{conds sl:Sl}{cl l:List Pr}(E:Evn g)(C:D6 B g h s q k st m D age c nn)(HH:Cg g h k s p bh bu name shards f u N)(hn:n<256)(hf:f n≤2147483647)(hA:age+3≤B.A)(hC:c+64≤B.C)(hnn:nn+1≤1000000)(vc:View Ak h conds cl)(hcl:cl.length≤1000000)(v:View Ak h sl l)(hs:l≠ []→ ∀b,sl.blk=some b→b<h.size∧k b=0∧b≠bh)(hk: ∀x∈cl,x.key.size≤1099511627776)
  (H0:f n=0→R (.int .i64 170) h)
  (Hf:f n≠0→CL (Bp st) (MX n (f n) name)=false→ ∀h',D6 B g h' s q k st m D age c nn→Cg g h' k s p bh bu name shards (upN f n 0) u N→Mod (fun c=>h.size≤c∨c=bh) h h'→R (.int .i64 170) h')
  (He:f n≠0→CL (Bp st) (MX n (f n) name)=true→doC (Bp st) (MX n (f n) name::cl) l≠0→ ∀h',Ext h h'→R (.int .i64 (doC (Bp st) (MX n (f n) name::cl) l)) h')
  (H1:f n≠0→CL (Bp st) (MX n (f n) name)=true→doC (Bp st) (MX n (f n) name::cl) l=0→ ∀h' q' k' st' m' D',q'.d=q.d→q'.b=q.b→D6 B g h' s q' k' st' m' D' (age+3) (c+64) (nn+1)→Bp st'=wrL (Bp st) l→Cg g h' k' s p bh bu name shards f u N→Mod (fun c=>k c≠0∨h.size≤c∨c=s) h h'→(∀ c,k' c≠0→k c≠0∨h.size≤c)→R (.int .i64 0) h'):
  AA A P ED #[Aq p,.int .i64 (n:Int),.slice conds.p conds.len conds.cap,.slice sl.p sl.len sl.cap] h R:=by
 refine WI ?_
 unfold KP
 refine WA HH ⟨_,rfl,PIf.intro (fun hq=>?_) (fun hq=>?_)⟩
 ·exact H0 (by simpa using hq)
 have h0:f n≠0:=by simpa using hq
 refine atI (AL.mk (AB HH.cell rfl) ?_)
 refine Xh (by omega) hf HH.named fun h1 x1=>⟨_,_,rfl,?_⟩
 refine Qc hn fun h2 x2=>⟨_,rfl,?_⟩
 have x02:=x1.trans x2
 refine New.pair fun b h3 eb3 hb3 x3 s3=>?_
 have x03:=x02.trans x3
 have H3:=HH.on x03
 have C3:=C.on x03
 refine atI (AP.mk (AC H3.cell rfl) (AL.mk (AC hb3 rfl) ?_))
 refine AHa C3 (by rw[Io];omega) fun h4 x4=>⟨_,_,_,rfl,PIf.no rfl ?_⟩
 have x04:=x03.trans x4
 have H4:=HH.on x04
 have C4:=C.on x04
 have hb4:=AU x4 hb3
 have sz4:=x04.size
 have szg:=C.db.mem.ext.size
 refine Join.mk fun K hK=>?_
 have hh:=VM (mp:=Bp st) (n:=n) (r:=f n) (name:=name)
 have lost:CL (Bp st) (MX n (f n) name)=false→K (true,()) h4:=fun hfl=>by
  refine hK _ _ (PIf.yes rfl (atI (DC.mk (AB H4.cell rfl) ?_)))
  refine H4.strike fun h5 H5 md5=>⟨rfl,?_⟩
  have hm:=H4.mine bh (.inr (.inl rfl))
  exact Hf h0 hfl h5 (C4.beside md5 (fun c hc=>by subst hc;exact⟨hm.1,hm.2.1⟩) fun e=>hm.2.2 e.symm) H5 ((x04.weak fun c _ hc=>hc.elim).trans (md5.weak fun c _ hc=> .inr hc))
 have kept:CL (Bp st) (MX n (f n) name)=true→K (false,()) h4:=fun htr=>by
  refine hK _ _ (PIf.no rfl (atI (AP.mk (AC H4.cell rfl) (AL.mk (AC hb4 rfl) (AL.mk (AB hb4 rfl) (Ab.mk (AB hb4 rfl) ?_))))))
  refine New.mk fun h5 _ hb5 x5 s5=>⟨AC (AU x5 H4.cell) rfl,?_⟩
  have o5:Own Ak AO h5 ⟨some ⟨h4.size,0,none⟩,1,1⟩ [MX n (f n) name]:=Own.lit (E:=Ak) (l:= [MX n (f n) name]) hb5 rfl (by simp[maxLen])
  have x05:=x04.trans x5
  refine Gx (E:=Ak) (s:=⟨some ⟨h4.size,0,none⟩,1,1⟩) (src:=conds) M.JE o5 (vc.ext x05) (by simp only[List.length_cons,List.length_nil];omega) (by simp only[List.length_cons,List.length_nil,maxLen];omega) fun s6 h6 o6 m6 b6 _=>?_
  have x06:Ext h h6:=x05.then (m6.weak fun c _ hc=> .inr (by have:h4.size=c:=(by simpa [Sl.blk] using hc);omega))
  have x6:Ext h4 h6:=x5.then (m6.weak fun c _ hc=> .inr (by have:h4.size=c:=(by simpa [Sl.blk] using hc);omega))
  have C6:=C.on x06
  have H6:=HH.on x06
  refine⟨AC (AU x6 H4.cell) rfl,?_⟩
  have sz6:=x06.size
  have hk6: ∀x∈ [MX n (f n) name]++cl,x.key.size≤1099511627776:=fun x hx=>by
   rcases List.mem_append.1 hx with h|h
   ·rw [List.mem_singleton.1 h];show(Bu n).size≤_;rw[Io];omega
   ·exact hk x h
  refine AC5 (B:=B) (conds:=s6) (sl:=sl) E C6 hA hC hnn o6.view (v.ext x06) (fun hne bb hb=>by
   have:=hs hne bb hb
   exact⟨by omega,this.2.1⟩) hk6 (fun hne h7 x7=>⟨_,rfl,He h0 htr hne h7 (x06.trans x7)⟩) fun hz h7 q7 k7 st7 m7 D7 ed7 eb7 C7 mp7 md7 kk7=>⟨_,rfl,?_⟩
  refine H1 h0 htr hz h7 q7 k7 st7 m7 D7 ed7 eb7 C7 mp7 (H6.step (k':=k7) md7 (fun c hc=>by
   rcases hc with h|h|h
   ·exact .inl h
   ·exact .inr (.inl h)
   ·exact .inr (.inr (.inl h))) kk7) ((x06.weak fun c _ hc=>hc.elim).trans (md7.weak fun c _ hc=>by
   rcases hc with h|h|h
   ·exact .inl h
   ·exact .inr (.inl (by omega))
   ·exact .inr (.inr h))) fun c hc=>?_
  rcases kk7 c hc with h|h
  ·exact .inl h
  ·exact .inr (by omega)
 refine PIf.intro (fun h1=>?_) (fun h1=>?_)
 ·refine lost ?_
  have e:(G6 (Bp st) (Bu n)).2=false:=by simpa using h1
  rw[hh,e];rfl
 ·have e1:(G6 (Bp st) (Bu n)).2=true:=by simpa using h1
  cases e2:sEq (G6 (Bp st) (Bu n)).1 (Fe (f n) name) with
  |true=>
   refine kept ?_
   rw[BZ] at e2
   rw[hh,e1,e2];rfl
  |false=>
   refine lost ?_
   rw[BZ] at e2
   rw[hh,e1,e2];rfl
theorem ANN {r:Nat}(h:r≤2147483647):IntKind.wrap .u64 ((IntKind.wrap .u64 (r:Int))*((2:Int)^(24:Nat)))=((r*16777216:Nat):Int):=by
 rw[CU (by omega),show((r:Int)*(2:Int)^(24:Nat))=((r*16777216:Nat):Int) from by rw[show((2:Int)^(24:Nat))=((16777216:Nat):Int) from by decide];simp]
 exact CU (by omega)
theorem AGq {a b:Nat}(ha:a<18446744073709551616)(hb:b<18446744073709551616):bOr .u64 (a:Int) (b:Int)=((a ||| b:Nat):Int):=by
 have h:a ||| b<2^64:=Nat.or_lt_two_pow (by simpa using ha) (by simpa using hb)
 unfold bOr
 have e:(BitVec.ofInt (IntKind.bits .u64) (a:Int) ||| BitVec.ofInt (IntKind.bits .u64) (b:Int)).toNat=a ||| b:=by
  show(BitVec.ofInt 64 (a:Int) ||| BitVec.ofInt 64 (b:Int)).toNat=a ||| b
  rw[BitVec.toNat_or,BitVec.ofInt_natCast,BitVec.ofInt_natCast,BitVec.toNat_ofNat,BitVec.toNat_ofNat,Nat.mod_eq_of_lt (by simpa using ha),Nat.mod_eq_of_lt (by simpa using hb)]
 rw[e]
 exact CU (by simpa using h)
theorem AMZ {r x:Nat}(h:r≤2147483647)(hx:x<16777216):bOr .u64 ((r*16777216:Nat):Int) (x:Int)=((r*16777216+x:Nat):Int):=by
 rw[AGq (by omega) (by omega)]
 congr 1
 have:=Nat.two_pow_add_eq_or_of_lt (i:=24) (b:=x) (by simpa using hx) r
 rw[show 2^24*r=r*16777216 from by rw[Nat.mul_comm]] at this
 exact this.symm
theorem AFm {n:Nat}(HH:Cg g h k s p bh bu name shards f u N)(hf:f n≤2147483647)(hu:u n+1<16777216)(hN:N+1≤1000000)
  (H0:f n=0→R (.int .u64 0) h)
  (H1:f n≠0→ ∀h',Cg g h' k s p bh bu name shards f (upN u n (u n+1)) (N+1)→Mod (fun c=>c=bu) h h'→R (.int .u64 ((f n*16777216+(u n+1):Nat):Int)) h'):
  AA A P EH #[Aq p,.int .i64 (n:Int)] h R:=by
 refine QY ?_
 unfold IL
 refine WA HH ⟨_,rfl,PIf.intro (fun hq=>?_) (fun hq=>?_)⟩
 ·exact H0 (by simpa using hq)
 have h0:f n≠0:=by simpa using hq
 obtain⟨um,a4,a5,a6⟩:=HH.used
 obtain⟨hm,a1,a2,a3⟩:=HH.held
 refine atI (DC.mk (AB HH.cell rfl) ?_)
 refine Ih AFa AAf AH0 a4 ⟨_,a6 n,?_⟩
 rw[show((u n:Nat):Int)+(1:Int)=((u n+1:Nat):Int) from by omega,CU (by omega)]
 refine Y9 AFa AAf a4 (by have:=HH.cnt;simp only[maxLen];omega) fun h4 b4 md4 sz4=>?_
 have a1':=a1.mod md4 HH.ne
 have c4:=md4.blk HH.cell HH.pne.2
 have u4: ∀m:Nat,(I8 m (QM n (.int .u64 ((u n+1:Nat):Int)) um)).getD (.int .u64 0)= .int .u64 (upN u n (u n+1) m:Int):=fun m=>AEY a6 m
 have e4:upN u n (u n+1) n=u n+1:=by unfold upN;rw[if_pos rfl]
 have key:bOr .u64 (IntKind.wrap .u64 ((IntKind.wrap .u64 (f n:Int))*((2:Int)^(24:Nat)))) ((u n+1:Nat):Int)=((f n*16777216+(u n+1):Nat):Int):=by
  rw[ANN hf,AMZ hf hu]
 have fin:=H1 h0 h4 ⟨c4,⟨hm,a1',by omega,a3⟩,⟨_,b4,Nat.le_trans QD (by omega),u4⟩,HH.mine,HH.ne,HH.named,HH.sh,hN⟩ md4
 rw[← key] at fin
 have l1:=u4 n
 rw[e4] at l1
 refine atI (DC.mk (AB c4 rfl) (atI (DC.mk (AB c4 rfl) ⟨?_,?_⟩)))
 ·refine Ih AEo AAf AHT a1' ⟨_,a3 n,⟨AB c4 rfl,?_⟩⟩
  exact Ih AFa AAf AH0 b4 ⟨_,l1,⟨AB c4 rfl,fin⟩⟩
 ·refine Ih AFa AAf AH0 b4 ⟨_,l1,⟨AB c4 rfl,?_⟩⟩
  exact Ih AEo AAf AHT a1' ⟨_,a3 n,⟨AB c4 rfl,fin⟩⟩
theorem BQ.laid {mp:List Pr}(srt:Sorted mp){n r:Nat}(h1:1≤r)(h2:r≤2147483647)(hn:GV name=true):BQ (wrL mp [⟨Bu n,Fe r name,false⟩]) n r name:=by
 refine .inr ⟨h1,h2,hn,?_⟩
 unfold G6
 rw[show wrL mp [⟨Bu n,Fe r name,false⟩]=wr1 mp ⟨Bu n,Fe r name,false⟩ from rfl,YK srt,if_pos rfl,Ib]
 rfl
theorem BQ.other {mp:List Pr}(srt:Sorted mp){n r:Nat}{nm key val:ByteArray}{gone:Bool}(L:BQ mp n r nm)(hk:key≠Bu n):BQ (wrL mp [⟨key,val,gone⟩]) n r nm:=by
 have e:G6 (wrL mp [⟨key,val,gone⟩]) (Bu n)=G6 mp (Bu n):=by
  unfold G6
  rw[show wrL mp [⟨key,val,gone⟩]=wr1 mp ⟨key,val,gone⟩ from rfl,YK srt,if_neg hk]
 unfold BQ
 rw[e]
 exact L
theorem BQ.empty {n:Nat}:BQ [] n 0 ⟨#[]⟩:= .inl ⟨rfl,rfl,rfl⟩
theorem BQ.own {mp:List Pr}{n r r':Nat}{nm:ByteArray}(L:BQ mp n r nm)(h1:1≤r')(h2:r'≤2147483647):CL mp (MX n r' name)=true→r'=r:=by
 rw[VM]
 intro h
 rcases L with⟨_,_,e⟩|⟨_,h3,_,e⟩
 ·rw [e] at h;cases h
 ·rw [e] at h
  simp only[Bool.true_and,decide_eq_true_eq] at h
  exact(AIZ h3 h2 h).symm
theorem BQ.holds {mp:List Pr}{n r:Nat}(L:BQ mp n r name)(h1:1≤r):CL mp (MX n r name)=true:=by
 rw[VM]
 rcases L with⟨h,_,e⟩|⟨_,h3,_,e⟩
 ·omega
 ·rw [e];simp
end
end Go.Lf.G

