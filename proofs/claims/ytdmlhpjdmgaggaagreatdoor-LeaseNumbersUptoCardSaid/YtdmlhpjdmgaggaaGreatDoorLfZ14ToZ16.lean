/-
 Contract: tables that are none go (chapter 9).
-/
import Derived.Test.YtdmlhpjdmgaggaaGreatDoorLfZ11ToZ13
import Derived.Lib.AtoiAllCases
set_option linter.unusedVariables false
set_option linter.unusedSimpArgs false
set_option maxRecDepth 100000
set_option linter.unusedVariables false
set_option linter.unusedSimpArgs false
namespace Go.Lf.G
open Go
theorem AHc: ∀(l:List UInt8) (a:Nat),Dig l→Pe a l≤999999999999→Lib.parseUint10 a l= .ok (Pe a l)
 | [],a,_,_=>rfl
 |c::l,a,hd,hv=>by
  have h:Pe a (c::l)=Pe (a*10+(c.toNat-48)) l:=rfl
  rw[h] at hv ⊢
  have hc:=hd c (by simp)
  have hg:=AB7 l (a*10+(c.toNat-48))
  unfold Lib.parseUint10
  rw[if_pos hc,if_neg (by omega),if_neg (by omega)]
  exact AHc l _ (fun x hx=>hd x (List.mem_cons_of_mem _ hx)) hv
theorem AKd {n:Nat}(hn:n≤999999999999):Lib.atoiAll (Lib.decDigits n)= .ok (n:Int):=by
 obtain⟨h1,h2⟩:=UH n
 cases hl:Lib.decDigits n with
 |nil=>
  have:=congrArg List.length hl
  rw[Lib.decDigits_length] at this
  have:=Lib.nDigits_pos n
  simp at *;omega
 |cons c r=>
  rw[hl] at h1 h2
  have hc:=h1 c (by simp)
  have hp:=AHc (c::r) 0 h1 (by rw[h2];exact hn)
  rw[h2] at hp
  unfold Lib.atoiAll
  simp only[]
  have e1: ¬(c.toNat=43∨c.toNat=45):=by omega
  have e2: ¬c.toNat=45:=by omega
  rw[if_neg e1]
  unfold Lib.parseMag
  rw[if_neg (by simp),hp]
  simp only[e2,not_false_eq_true,true_and,false_and,if_false]
  rw[if_neg (by omega)]
theorem ALd {A:Amb}{h:Heap}{n:Nat}{R:Value→Heap→Prop}(hn:n≤999999999999)(H: ∀h',Ext h h'→R (.tuple #[.int .i64 (n:Int),.nilIface]) h'):AA A P Qx #[.string (AY (Lib.decDigits n))] h R:=by
 intro m
 have h20:(Lib.decDigits n).length≤20:=by rw[Lib.decDigits_length];exact Lib.nDigits_le20 n (by omega)
 refine Calls.mono (Proofs.Any.strconv_Atoi_ok Proofs.Tryz.laysC172 (AY (Lib.decDigits n)) (by rw[AQ];omega) (n:Int) (by rw[show(AY (Lib.decDigits n)).data.toList=Lib.decDigits n from Cz _];exact AKd hn) (A.at h m)) ?_
 rintro e w' ⟨rfl,hw|⟨t,hw⟩⟩
 ·subst hw
  exact⟨_,rfl,h,m,rfl,H h Mod.refl⟩
 ·subst hw
  refine⟨_,rfl,_,_,rfl,H _ ?_⟩
  refine⟨?_,fun b hb _=>?_⟩
  ·simp [Lib.bytesWorld,World.freeze,World.alloc,World.drew,Amb.at]
  ·simp [Lib.bytesWorld,World.freeze,World.alloc,World.drew,Amb.at,Array.getElem?_modify,Array.getElem?_push]
   rw[if_neg (by omega),if_neg (by omega)]
theorem AD8 {A:Amb}{h:Heap}{s:Sl}{l:List Int}{v:Int}{R:Value→Heap→Prop}(hv:View Eg h s l)(hl:l.length≤1000000)(H:R (.bool (decide (v∈l))) h):AA A P Cf #[.slice s.p s.len s.cap,.int .i64 v] h R:=by
 refine JV ?_
 unfold Da
 refine Ka ?_
 unfold EM
 refine Loop.rule (fun mm x hh=> ∃i:Nat,x=((i:Int),())∧mm=l.length-i∧i≤l.length∧hh=h∧v∉l.take i) ?_ ⟨0,rfl,rfl,Nat.zero_le _,rfl,by simp⟩
 rintro K mm _ _ ⟨i,rfl,rfl,hi,rfl,hno⟩ hK
 dsimp only
 rw[hv.len]
 refine PIf.intro (fun hq=>?_) (fun hq=>?_)
 ·have hil:i<l.length:=by have:=of_decide_eq_true hq;omega
  have hget:l[i]? =some l[i]:=List.getElem?_eq_getElem hil
  rw[← hv.len]
  refine hv.idx hget fun a _ c=>Aa.mk c.int ?_
  refine PIf.intro (fun q=>?_) (fun q=>?_)
  ·have e:v=l[i]:=by simpa using q
   refine⟨_,rfl,?_⟩
   rw[decide_eq_true (show((i:Int)≥0) by omega)]
   rwa [decide_eq_true (show v∈l by rw[e];exact List.getElem_mem hil)] at H
  ·have e:v≠l[i]:=by simpa using q
   rw[AR (by omega)]
   refine hK (l.length-(i+1)) _ _ (by omega) ⟨i+1,rfl,rfl,hil,rfl,?_⟩
   rw[List.take_add_one,hget]
   simp only[Option.toList_some,List.mem_append,List.mem_singleton,not_or]
   exact⟨hno,e⟩
 ·have hil:i=l.length:=by have:=of_decide_eq_false hq;omega
  subst hil
  rw[List.take_length] at hno
  refine⟨_,rfl,?_⟩
  rwa [decide_eq_false hno] at H
section
variable {A : Amb} {g h : Heap} {q : Hp} {k : Nat → Nat} {st : Db} {m : Bx} {D : BO} {R : Value → Heap → Prop}
theorem AGl(W:DbH g h q k st m)(n:Nat):I6 k n q.tp q.np (fun _=>False)=k:=by
 funext c
 unfold I6
 by_cases e:k c=0
 ·rw [if_neg (by simp[e]),if_neg (fun h=>by have:=W.kt c h;rw[e] at this;cases this),if_neg (fun h=>by have:=W.kx c h;rw[e] at this;cases this),if_neg (fun h=>h),e]
 ·rw [if_pos e]
theorem DbH.renext {h':Heap}{next:Nat}(W:DbH g h q k st m)(hc:h'[q.d]? =some (.cells (dbC q {st with next:=next} false) Du (0,0)))(x:Mod (· =q.d) h h'):DbH g h' q k {st with next:=next} m:=by
 have R:=W.rest (C:=fun c=>c=1) (h':=h') (x.weak fun c _ hc=>by rw[hc];exact W.kd) (by decide)
 have:=W.retab (h':=h') (tp:=q.tp) (np:=q.np) (ps:=q.ps) (ts:=st.ts) (next:=next) (frm:=st.frm) (S:=fun _=>False) hc (x.weak fun c _ hc=> .inl hc) (R.tabs (by decide)) (R.names (by decide)) W.tlen (fun c hc=> .inl hc) (fun c hc=> .inl hc) (fun c h=>h.elim) (fun i t p h1 h2=> .inl ⟨i,h1,h2⟩)
 rw[AGl W] at this
 exact this
theorem ALX {m:Bx}{x:ByteArray}:ff m x≠none↔x∈m.files.map (·.name):=by
 rw[← AAB (k:=x),RD]
 cases ff m x<;>simp
theorem AJO {s:ByteArray}(h:(sAt s 0 != (116:Int))=false)(hs:2≤s.size):(bl s).head? =some 116:=by
 have e:bl s=s.data.toList:=rfl
 have hsz:=Be s
 cases hl:bl s with
 |nil=>rw[hl] at hsz;simp at hsz;omega
 |cons c r=>
  have h1:sAt s 0=116:=by simpa using h
  have hc:s.data.toList[0]? =some c:=by rw[← e,hl];rfl
  have h2:(c.toNat:Int)=116:=by
   have:=Mk (i:=0) hc
   rw[← h1];exact this.symm
  have h3:c.toNat=116:=by omega
  have:c=116:=by
   apply UInt8.toNat_inj.1
   rw[h3];rfl
  rw[this];rfl
theorem AJq {N:Nat}(E:Evn g)(W:DbH g h q k st m)(hd:m.down=false)(hD:Ar (ff m) D)(hnm:(Ac D).names=st.ts.map (·.1))(hN:N≤99999999)(ht: ∀n,ff m (tfN n)≠none→n<N)(hnx:st.next≤N)(hts:st.ts.length≤100000)(hfl:m.files.length≤8000000000000)
  (H0:m.fuel≠ -1→ ∀h' S' m',BU h' q.b S' m'→m'.down=true→Mod (fun c=>k c≠0) h h'→(∀ c,S' c→k c≠0∨h.size≤c)→Ar (ff m') D→(∀ y,(∀ n,y≠tfN n)→ff m' y=ff m y)→(∀ n,ff m' (tfN n)≠none→ff m (tfN n)≠none)→wtF m'.files≤wtF m.files→R (.int .i64 30) h')
  (H1: ∀h' S' k' m' next',DbH g h' {q with Sb:=S'} k' {st with next:=next'} m'→Gw m m'→Ar (ff m') D→(∀ y,(∀ n,y≠tfN n)→ff m' y=ff m y)→(∀ n,ff m' (tfN n)≠none→n∈st.ts.map (·.1))→st.next≤next'→next'≤N→wtF m'.files≤wtF m.files→
   Mod (fun c=>k c≠0) h h'→(∀ c,k' c≠0→k c≠0∨h.size≤c)→R (.int .i64 0) h'):AA A P JK #[Aq q.d] h R:=by
 refine XY ?_
 unfold La
 refine atI (AP.mk (AC W.cell rfl) ?_)
 refine AFM W.box fun s1 h1 o1 x1 f1=>⟨s1,_,rfl,?_⟩
 have hL:ZP m=(m.files.map (·.name),0):=by unfold ZP;rw[if_neg (by simp[hd])]
 rw[hL] at o1 ⊢
 refine PIf.no rfl ?_
 dsimp only at o1
 have hnd:=AEm W.box.good
 have hin:=fun x=>ALX (m:=m) (x:=x)
 have hlenF:(m.files.map (·.name)).length≤8000000000000:=by simpa using hfl
 generalize m.files.map (·.name)=fs at*
 have W1:=W.on x1
 have sz1:=x1.size
 have v1:=o1.view
 refine Loop.rule (fun mm x hh=> ∃(i:Nat) (Si:Nat→Prop) (ki:Nat→Nat) (mi:Bx) (next:Nat),x=((i:Int),())∧mm=fs.length-i∧i≤fs.length∧DbH g hh {q with Sb:=Si} ki {st with next:=next} mi∧Gw m mi∧Ar (ff mi) D∧(∀ y,(∀ n,y≠tfN n)→ff mi y=ff m y)∧(∀ y,y∉fs.take i→ff mi y=ff m y)∧
   (∀ n,tfN n∈fs.take i→n∉st.ts.map (·.1)→ff mi (tfN n)=none)∧(∀ n,ff mi (tfN n)≠none→ff m (tfN n)≠none)∧st.next≤next∧next≤N∧wtF mi.files≤wtF m.files∧Mod (fun c=>k c≠0) h1 hh∧Grow k ki h1.size) ?_
  ⟨0,q.Sb,k,m,st.next,rfl,rfl,Nat.zero_le _,W1,Gw.refl hd,hD,fun _ _=>rfl,fun _ _=>rfl,by simp,fun _ h=>h,Nat.le_refl _,hnx,Nat.le_refl _,Mod.refl,Grow.refl⟩
 rintro K mm _ hh ⟨i,Si,ki,mi,next,rfl,rfl,hi,Wi,sti,dki,fri,keep,gone,sub,n1,n2,wti,mdi,gri⟩ hK
 dsimp only
 have szi:=mdi.size
 have kown: ∀c,ki c≠0→k c≠0∨h.size≤c:=fun c hc=>by
  by_cases hlt:c<h1.size
  ·rw [gri c hlt] at hc;exact .inl hc
  ·exact .inr (by omega)
 have s1k: ∀c,s1.blk=some c→k c=0:=fun c hc=>Decidable.byContradiction fun h=>by
  have:=(W.own c h).2
  have:=f1 c hc;omega
 have vi:View F9 hh s1 fs:=v1.mod mdi fun c hc hne=>hne (s1k c hc)
 rw[v1.len]
 refine PIf.intro (fun hq=>?_) (fun hq=>?_)
 ·have hil:i<fs.length:=by have:=of_decide_eq_true hq;omega
  have hget:fs[i]? =some fs[i]:=List.getElem?_eq_getElem hil
  have hmem:fs[i]∈fs:=List.getElem_mem hil
  have htk:fs.take (i+1)=fs.take i++ [fs[i]]:=by rw[List.take_add_one,hget];rfl
  have hni:fs[i]∉fs.take i:=fun hm=>by
   obtain⟨j,hj,e⟩:=List.getElem_of_mem hm
   have hj':j<i:=by
    have:=hj
    simp at this;omega
   rw[List.getElem_take] at e
   have:=(List.getElem_inj (h₀:=by omega) (h₁:=hil) hnd).1 e
   omega
  rw[AR (by omega)]
  refine Join.mk fun K1 hK1=>?_
  rw[← v1.len]
  refine vi.idx hget fun a _ c=>AL.mk c.str ?_
  have skip: ∀h5 k5,DbH g h5 {q with Sb:=Si} k5 {st with next:=next} mi→Mod (fun c=>k c≠0) h1 h5→Grow k k5 h1.size→(∀ n,fs[i]=tfN n→n∈st.ts.map (·.1))→K1 () h5:=fun h5 k5 W5 md5 gr5 hno=>hK1 _ _ (by
   refine hK (fs.length-(i+1)) _ _ (by omega) ⟨i+1,Si,k5,mi,next,rfl,rfl,hil,W5,sti,dki,fri,fun y hy=>keep y fun hm=>hy (by rw[htk];exact List.mem_append.2 (.inl hm)),fun n hn hno'=>?_,sub,n1,n2,wti,md5,gr5⟩
   rw[htk] at hn
   rcases List.mem_append.1 hn with hn|hn
   ·exact gone n hn hno'
   ·exact absurd (hno n (List.mem_singleton.1 hn).symm) hno')
  refine Join.mk fun K2 hK2=>?_
  have notT:(∀ n,fs[i]≠tfN n)→K2 (true,()) hh:=fun hno=>hK2 _ _ (PIf.yes rfl (skip hh ki Wi mdi gri fun n e=>absurd e (hno n)))
  have tsz: ∀n,2≤(tfN n).size:=fun n=>by
   have h1:=Be (tfN n)
   rw[Sz] at h1
   have h2:=Lib.nDigits_pos n
   have h3:=Lib.decDigits_length n
   rw[List.length_cons] at h1
   omega
  refine PIf.intro (fun q1=>?_) (fun q1=>?_)
  ·have h2:=of_decide_eq_true q1
   exact notT fun n e=>by have:=tsz n;rw[← e] at this;omega
  ·have h2:2≤fs[i].size:=by have:=of_decide_eq_false q1;omega
   refine⟨⟨Int.le_refl _,by omega⟩,?_⟩
   cases hb:(sAt fs[i] 0 != (116:Int)) with
   |true=>
    refine notT fun n e=>?_
    have:sAt fs[i] 0=116:=by
     rw[e]
     have:=Mk (s:=tfN n) (i:=0) (c:=116) (by
      have h3:=Sz n
      show(bl (tfN n))[0]? =_
      rw[h3];rfl)
     exact this
    rw[this] at hb;cases hb
   |false=>
    obtain⟨n,en⟩:=hD.tonly fs[i] ((hin _).2 hmem) (AJO hb h2)
    have hfn:ff m (tfN n)≠none:=by rw[← en];exact(hin _).2 hmem
    have hnN:=ht n hfn
    refine hK2 _ _ (PIf.no rfl ⟨⟨by omega,by omega⟩,?_⟩)
    have eS:fs[i].extract ((1:Int).toNat) fs[i].size=AY (Lib.decDigits n):=by
     rw[show(1:Int).toNat=1 from rfl,ZC,en]
     have:(tfN n).data.toList=116::Lib.decDigits n:=Sz n
     rw[this];rfl
    rw[eS]
    refine ALd (by omega) fun h5 x5=>⟨_,_,rfl,?_⟩
    have W5:=Wi.on x5
    have md5:=mdi.trans (Ext.mod x5)
    refine Join.mk fun K3 hK3=>⟨trivial,PIf.yes rfl ?_⟩
    refine NY (W5.evn E) (by omega) fun h9 x9=>⟨_,rfl,?_⟩
    have W9:=W5.on x9
    have md9:=md5.trans (Ext.mod x9)
    have hsE:sEq (tfN n) fs[i]=true:=by rw[en,BZ];exact decide_eq_true rfl
    rw[hsE]
    refine PIf.yes rfl (atI (AZ.mk (s:=q.np) (AB W9.cell rfl) ?_))
    refine AD8 W9.names.view (by simp[nmS];omega) ⟨_,rfl,?_⟩
    have emem:((n:Int)∈nmS ({st with next:=next}:Db))↔n∈st.ts.map (·.1):=by
     simp only[nmS,List.mem_map]
     constructor
     ·rintro⟨p,hp,e⟩;exact⟨p,hp,by omega⟩
     ·rintro⟨p,hp,e⟩;exact⟨p,hp,by omega⟩
    by_cases hm:n∈st.ts.map (·.1)
    ·rw [decide_eq_true (emem.2 hm)]
     exact hK3 _ _ (PIf.no rfl (skip h9 ki W9 md9 gri fun n' e=>by rw[en] at e;rw[← H7 e];exact hm))
    rw[decide_eq_false fun h=>hm (emem.1 h)]
    refine hK3 _ _ (PIf.yes rfl ?_)
    refine atI (AP.mk (AC W9.cell rfl) ?_)
    have hsome:(ff mi (tfN n)).isSome=true:=by
     rw[keep (tfN n) (by rw[← en];exact hni)]
     cases hf:ff m (tfN n) with
     |none=>exact absurd hf hfn
     |some p=>rfl
    rw[en]
    refine Sq W9.box fun h10 S10 B10 m10 s10=>⟨_,rfl,?_⟩
    have md10:Mod (fun c=>k c≠0) h1 h10:=md9.then (m10.weak fun c _ hc=>by
     have hkc:ki c≠0:=by rw[Wi.kb c hc];decide
     by_cases hlt:c<h1.size
     ·rw [gri c hlt] at hkc;exact .inl hkc
     ·exact .inr (by omega))
    have sz9:=(x5.trans x9).size
    rcases Og (k:=tfN n) sti.up hsome with⟨hf0,e10⟩|⟨e10,st10,f10⟩
    ·rw [e10] at B10 ⊢
     refine PIf.yes rfl ?_
     refine H0 (fun hh=>by have:=sti.calm hh;rw[hf0] at this;cases this) h10 S10 (JU mi) B10 rfl ((Ext.mod x1).trans md10) (fun c hc=>?_) dki fri sub wti
     exact kown c (by
      have:=Wi.kb c (s10 c hc)
      rw[this];decide)
    ·rw [e10]
     refine PIf.no rfl ?_
     have W10:=W9.boxed (j:=2) (st':= {st with next:=next}) B10 (m10.weak fun c _ hc=> .inl hc) (fun c hc=> .inl (s10 c hc)) rfl rfl rfl rfl (.inl ⟨by decide,rfl,rfl⟩) (.inl ⟨by decide,rfl⟩)
     refine atI (Aa.mk (AB W10.cell rfl) ?_)
     have ew:IntKind.wrap .i64 ((n:Int)+(1:Int))=((n+1:Nat):Int):=AR (by omega)
     rw[ew]
     have emax:(if(((n+1:Nat):Int):Int)>((next:Nat):Int) then((n+1:Nat):Int) else((next:Nat):Int))=((max (n+1) next:Nat):Int):=by split<;>omega
     refine atI (Store.mk1 W10.cell (by simp) fun h11 hb11 m11 s11=>?_)
     rw[emax] at hb11
     have W11:=W10.renext (h':=h11) (next:=max (n+1) next) (by simpa [dbC] using hb11) m11
     have gr11:Grow k (Iu ki h9.size S10 2) h1.size:=fun c hc=>by rw[Ec (by omega)];exact gri c hc
     have wt10:=Vb (m:=mi) (tfN n)
     refine hK1 _ _ ?_
     refine hK (fs.length-(i+1)) _ _ (by omega) ⟨i+1,S10,_,_,max (n+1) next,rfl,rfl,hil,W11,sti.trans st10,?_,fun y hy=>?_,fun y hy=>?_,fun n' hn' hno'=>?_,fun n' hn'=>?_,by omega,by omega,Nat.le_trans wt10 wti,?_,gr11⟩
     ·refine dki.tput fun x hx=>?_
      rw[f10,if_neg (hx n (by rw[hnm];exact hm))]
     ·rw [f10,if_neg (hy n)];exact fri y hy
     ·rw [htk] at hy
      simp only[List.mem_append,List.mem_singleton,not_or] at hy
      rw[f10,if_neg (by rw[← en];exact hy.2)]
      exact keep y hy.1
     ·rw [f10]
      split
      ·rfl
      ·rename_i hne
       rw[htk] at hn'
       rcases List.mem_append.1 hn' with h3|h3
       ·exact gone n' h3 hno'
       ·exact absurd ((List.mem_singleton.1 h3).trans en) hne
     ·rw [f10] at hn'
      split at hn'
      ·exact absurd rfl hn'
      ·exact sub n' hn'
     ·refine md10.trans (m11.weak fun c _ hc=>?_)
      have:c=q.d:=hc
      rw[this,W.kd];decide
 ·have hil:i=fs.length:=by have:=of_decide_eq_false hq;omega
  subst hil
  rw[List.take_length] at keep gone
  refine H1 hh Si ki mi next Wi sti dki fri (fun n hn=>?_) n1 n2 wti ((Ext.mod x1).trans mdi) kown
  by_cases hm:n∈st.ts.map (·.1)
  ·exact hm
  ·exact absurd (gone n ((hin _).1 (sub n hn)) hm) hn
end
end Go.Lf.G

/-
 A store as it is opened (chapter 9): its logs' records, its parts put together.
-/
set_option maxRecDepth 100000
set_option linter.unusedVariables false
set_option linter.unusedSimpArgs false
namespace Go.Lf.G
open Go
open M (Sorted Ag DR BJ Ai BD CV Ap OkL Ba)
theorem AKg {α:Type}{R:Nat→List α}{l:List Nat}{top:Nat}(hl:l.Pairwise (· < ·))(h1: ∀n∈l,n<top)(h2: ∀n,n<top→n∉l→R n= []):(List.range top).flatMap R=l.flatMap R:=by
 have e:l=(List.range top).filter fun n=>decide (n∈l):=by
  refine AHu hl (List.pairwise_lt_range.sublist List.filter_sublist) fun n=>?_
  simp only[List.mem_filter,List.mem_range,decide_eq_true_eq]
  exact⟨fun h=>⟨h1 n h,h⟩,fun h=>h.2⟩
 have key: ∀L:List Nat,(∀ n∈L,n<top)→L.flatMap R=(L.filter fun n=>decide (n∈l)).flatMap R:=by
  intro L
  induction L with
  |nil=>intro _;rfl
  |cons n L ih=>
   intro hL
   rw[List.flatMap_cons,List.filter_cons,ih fun m hm=>hL m (List.mem_cons_of_mem _ hm)]
   by_cases h:n∈l
   ·rw [if_pos (by simpa using h),List.flatMap_cons]
   ·rw [if_neg (by simpa using h),h2 n (hL n (by simp)) h,List.nil_append]
 rw[key _ fun n hn=>List.mem_range.1 hn,←e]
theorem AJ0 {l:List Nat}(hl:l.Pairwise (· < ·)){n:Nat}(hn:n∈l):n≤l.getLast?.getD 0:=by
 cases hg:l.getLast? with
 |none=>
  rw[List.getLast?_eq_none_iff] at hg
  subst hg;cases hn
 |some x=>
  show n≤x
  obtain⟨ys,rfl⟩:=List.getLast?_eq_some_iff.1 hg
  rcases List.mem_append.1 hn with h|h
  ·exact Nat.le_of_lt ((List.pairwise_append.1 hl).2.2 n h x (by simp))
  ·rw [List.mem_singleton.1 h];exact Nat.le_refl _
theorem Tz {m:Bx}{nm:ByteArray}{top:Nat}{R:Nat→List (List UInt8)}{l:List Nat}(hd:m.down=false)(SF:Tg (ff m) nm top R)(SL:AKQ nm m l)(ht:1≤top∧top≤99999999):
  PS nm m l=((List.range top).flatMap R).map AY∧l.getLast?.getD 0+1≤top∧(∀ n,l.getLast?.getD 0+1≤n→n≤99999999→ff m (fnB nm n)=none):=by
 have hmem: ∀n,1≤n→n≤99999999→(n∈l↔ff m (fnB nm n)≠none):=fun n n1 n9=>by
  rw[SL.mem,RD]
  constructor
  ·rintro⟨_,_,h⟩ e;rw[e] at h;cases h
  ·intro h
   refine⟨n1,n9,?_⟩
   cases hf:ff m (fnB nm n) with
   |none=>exact absurd hf h
   |some p=>rfl
 have hlt: ∀n∈l,n<top:=fun n hn=>by
  obtain⟨n1,n9,_⟩:=(SL.mem n).1 hn
  have h1:=(hmem n n1 n9).1 hn
  exact Decidable.byContradiction fun h=>h1 (SF.out n (by omega) n9)
 have h1:PS nm m l=l.flatMap fun n=>(R n).map AY:=ALK hd fun n hn=>by
  obtain⟨n1,n9,_⟩:=(SL.mem n).1 hn
  have h1:=(hmem n n1 n9).1 hn
  cases hf:ff m (fnB nm n) with
  |none=>exact absurd hf h1
  |some p=>
   obtain⟨h2,h3⟩:=SF.has n p n1 n9 hf
   refine⟨p,rfl,?_⟩
   rw[h2,Od,List.map_map]
   have:(R n).map (bl∘AY)=R n:=by
    conv=>rhs;rw[← List.map_id (R n)]
    exact List.map_congr_left fun x _=>IU x
   rw[this];exact h3
 refine⟨?_,?_,fun n hn n9=>?_⟩
 ·rw [h1,List.map_flatMap]
  refine(AKg SL.inc hlt fun n hn hno=>?_).symm
  by_cases n0:n=0
  ·rw [SF.far n (.inl n0)];rfl
  ·have hf:ff m (fnB nm n)=none:=Decidable.byContradiction fun h=>hno ((hmem n (by omega) (by omega)).2 h)
   rw[SF.non n (by omega) (by omega) hf];rfl
 ·cases hg:l.getLast? with
  |none=>show 0+1≤top;omega
  |some x=>
   have:=hlt x (List.mem_of_getLast? hg)
   show x+1≤top;omega
 ·exact Decidable.byContradiction fun h=>by
   have:=AJ0 SL.inc ((hmem n (by omega) n9).2 h)
   omega
open Classical in
noncomputable def kM (Sb:Nat→Prop) (N0 nt ft d lg:Nat) (tp np:Sl) (I T:Nat→Prop):Nat→Nat:=fun c=>
 if Sb c then 2 else if c<N0 then 0 else if c=nt then 4 else if c=ft then 5 else if c=d then 1 else if c=lg then 3 else if tp.blk=some c then 6 else if np.blk=some c then 7 else if I c then 5 else if T c then 8 else 0
theorem ADl {Sb:Nat→Prop}{N0 nt ft d lg:Nat}{tp np:Sl}{I T:Nat→Prop}{c:Nat}(hc:kM Sb N0 nt ft d lg tp np I T c≠0):Sb c∨(N0≤c∧(c=nt∨c=ft∨c=d∨c=lg∨tp.blk=some c∨np.blk=some c∨I c∨T c)):=by
 by_cases a:Sb c
 ·exact .inl a
 by_cases b:c<N0
 ·exact absurd (by unfold kM;rw[if_neg a,if_pos b]) hc
 refine .inr ⟨by omega,Classical.byContradiction fun hn=>hc ?_⟩
 simp only[not_or] at hn
 obtain⟨n1,n2,n3,n4,n5,n6,n7,n8⟩:=hn
 unfold kM
 rw[if_neg a,if_neg b,if_neg n1,if_neg n2,if_neg n3,if_neg n4,if_neg n5,if_neg n6,if_neg n7,if_neg n8]
theorem DbH.make {g h:Heap}{q:Hp}{st:Db}{m:Bx}{N0 NB NC ND:Nat}(cell:h[q.d]? =some (.cells (dbC q st false) Du (0,0)))(box:BU h q.b q.Sb m)(log:DI h q.lg q.b nl st.lseg st.lmade)(nts:DI h q.nt q.b nn st.nseg false)(fresh:M.Tab h q.ft q.ns st.fr)
  (tabs:Own PtE Au h q.tp q.ps) (tlen:q.ps.length=st.ts.length) (names:Own Eg BL h q.np (nmS st)) (ext:Ext g h) (hg:g.size≤N0) (hSb: ∀c,q.Sb c→g.size≤c∧c<N0)
  (h1:N0≤q.nt) (h2:q.nt<q.ft) (h3:q.ft<q.d) (h4:q.d<NB) (h5:NB≤NC) (h6:NC≤q.lg) (h7:q.lg<ND) (hnp: ∀c,q.np.blk=some c→q.d<c∧c<NB) (htp: ∀c,q.tp.blk=some c→NB≤c∧c<NC) (hns: ∀c,M.inT q.ft q.ns c→c=q.ft∨ND≤c)
  (tab: ∀(i:Nat) (t:Nat) (p:Nat×List Pr),q.ps[i]? =some t→st.ts[i]? =some p→ ∃lo hi,TabAt h t p.2 (KD p.2) lo hi∧NB≤lo∧hi≤NC∧(∀ c,q.tp.blk=some c→ ¬(lo≤c∧c<hi))∧FR p.2) (hNC:NC≤h.size):
  ∃k,DbH g h q k st m∧ ∀c,k c≠0→q.Sb c∨N0≤c:=by
 let T:Nat→Prop:=fun c=>(NB≤c∧c<NC)∧q.tp.blk≠some c
 have big0: ∀c,N0≤c→ ¬q.Sb c:=fun c hc hs=>by have:=(hSb c hs).2;omega
 refine⟨kM q.Sb N0 q.nt q.ft q.d q.lg q.tp q.np (M.inT q.ft q.ns) T,⟨cell,box,log,nts,fresh,tabs,tlen,fun i t p e1 e2=>?_,names,?_,fun c hc=>?_,?_,?_,fun c hc=>?_,fun c hc=>?_,fun c hc=>?_,fun c hc=>?_,ext⟩,fun c hc=>?_⟩
 ·obtain⟨lo,hi,T1,t1,t2,t3,t4⟩:=tab i t p e1 e2
  refine⟨lo,hi,T1,by omega,fun c c1 c2=>?_,t4⟩
  have hT:T c:=⟨⟨by omega,by omega⟩,fun e=>t3 c e ⟨c1,c2⟩⟩
  have hnI: ¬M.inT q.ft q.ns c:=fun hI=>by rcases hns c hI with h|h<;>omega
  unfold kM
  rw[if_neg (big0 c (by omega)),if_neg (by omega),if_neg (by omega),if_neg (by omega),if_neg (by omega),if_neg (by omega),if_neg hT.2,if_neg (fun e=>by have:=hnp c e;omega),if_neg hnI,if_pos hT]
 ·unfold kM
  rw[if_neg (big0 _ (by omega)),if_neg (by omega),if_neg (by omega),if_neg (by omega),if_pos rfl]
 ·unfold kM;rw[if_pos hc]
 ·unfold kM
  rw[if_neg (big0 _ (by omega)),if_neg (by omega),if_neg (by omega),if_neg (by omega),if_neg (by omega),if_pos rfl]
 ·unfold kM
  rw[if_neg (big0 _ (by omega)),if_neg (by omega),if_pos rfl]
 ·unfold kM
  rcases hns c hc with rfl|h
  ·rw [if_neg (big0 _ (by omega)),if_neg (by omega),if_neg (by omega),if_pos rfl]
  ·rw [if_neg (big0 c (by omega)),if_neg (by omega),if_neg (by omega),if_neg (by omega),if_neg (by omega),if_neg (by omega),if_neg (fun e=>by have:=htp c e;omega),if_neg (fun e=>by have:=hnp c e;omega),if_pos hc]
 ·have:=htp c hc
  unfold kM
  rw[if_neg (big0 c (by omega)),if_neg (by omega),if_neg (by omega),if_neg (by omega),if_neg (by omega),if_neg (by omega),if_pos hc]
 ·have:=hnp c hc
  unfold kM
  rw[if_neg (big0 c (by omega)),if_neg (by omega),if_neg (by omega),if_neg (by omega),if_neg (by omega),if_neg (by omega),if_neg (fun e=>by have:=htp c e;omega),if_pos hc]
 ·rcases ADl hc with hs|⟨hN,e|e|e|e|e|e|e|e⟩
  ·exact⟨(hSb c hs).1,box.lt hs⟩
  ·exact⟨by omega,by rw[e];exact Ah nts⟩
  ·exact⟨by omega,by rw[e];exact fresh.lt (.inl rfl)⟩
  ·exact⟨by omega,by rw[e];exact Ah cell⟩
  ·exact⟨by omega,by rw[e];exact Ah log⟩
  ·exact⟨by omega,tabs.lt e⟩
  ·exact⟨by omega,names.lt e⟩
  ·exact⟨by omega,fresh.lt e⟩
  ·exact⟨by omega,by have:=e.1.2;omega⟩
 ·exact(ADl hc).imp id fun h=>h.1
end Go.Lf.G

/-
 Contract: a store is opened as it was left (chapter 9).
-/
set_option maxRecDepth 100000
set_option linter.unusedVariables false
set_option linter.unusedSimpArgs false
namespace Go.Lf.G
open Go
open M (Sorted Ag DR BJ Ai BD CV Ap OkL Ba)
def IW(D:BO):List (Nat×List Pr):=(List.range D.ltop).flatMap fun n=>(D.L n).map fun b=>(n,b)
def MV(f:Nat)(l:List (Nat×List Pr)):List (List Pr):=(l.filter fun p=>decide (f≤p.1)).map (·.2)
theorem Tt(f:Nat)(a b:List (Nat×List Pr)):MV f (a++b)=MV f a++MV f b:=by simp[MV]
theorem AG6(D:BO):MV (Ac D).frm (IW D)=F3 D:=by
 unfold IW F3
 have key: ∀L:List Nat,MV (Ac D).frm (L.flatMap fun n=>(D.L n).map fun b=>(n,b))=L.flatMap fun n=>if n<(Ac D).frm then [] else D.L n:=by
  intro L
  induction L with
  |nil=>rfl
  |cons n L ih=>
   rw[List.flatMap_cons,List.flatMap_cons,Tt,ih]
   congr 1
   unfold MV
   rw[List.filter_map]
   split
   ·rename_i h
    have:(fun b:List Pr=>decide ((Ac D).frm≤((n,b):Nat×List Pr).1))=fun _=>false:=by
     funext b;simp;omega
    simp[Function.comp_def];omega
   ·rename_i h
    simp[Function.comp_def]
    intro b _;omega
 exact key _
theorem AL2 {F:Fls}{D:BO}(h:Ar F D): ∀p∈IW D,p.1≤99999999∧VG p.2:=fun p hp=>by
 obtain⟨n,hn,hb⟩:=List.mem_flatMap.1 hp
 obtain⟨b,hb',rfl⟩:=List.mem_map.1 hb
 have:=List.mem_range.1 hn
 have:=h.tops
 exact⟨by show n≤_;omega,h.bat n b hb'⟩
theorem AIm(D:BO):((List.range D.ltop).flatMap fun n=>(D.L n).map (A8 n)).map AY=(IW D).map fun p=>AY (A8 p.1 p.2):=by
 unfold IW
 rw[List.map_flatMap,List.map_flatMap]
 unfold List.flatMap
 congr 1
 refine List.map_congr_left fun n _=>?_
 rw[List.map_map,List.map_map];rfl
theorem ALP {f:Nat}{l:List (Nat×List Pr)}(i:Nat):(MV f (l.take i)).flatten.length≤(MV f l).flatten.length:=by
 conv=>rhs;rw[← List.take_append_drop i l,Tt,List.flatten_append,List.length_append]
 omega
theorem AFe(D:BO):((List.range D.ntop).flatMap fun n=>(D.N n).map Cv).map AY=(Kh D).map fun x=>AY (Cv x):=by
 unfold Kh
 rw[List.map_flatMap,List.map_flatMap]
 unfold List.flatMap
 congr 1
 exact List.map_congr_left fun n _=>by rw[List.map_map];rfl
theorem View.modn {α:Type}{E:Enc α}{h h':Heap}{s:Sl}{l:List α}{S:Nat→Prop}(v:View E h s l)(m:Mod S h h')(hS: ∀c,s.blk=some c→c<h.size→ ¬S c):View E h' s l:=by
 refine⟨v.len,v.cap,fun i x hi=>?_⟩
 obtain⟨a,ha,hc⟩:=v.cells i x hi
 refine⟨a,ha,hc.mod m ?_⟩
 have hp:=E.pos
 have hl:=E.len x
 obtain⟨u,hu⟩: ∃u,(E.enc x)[0]? =some u:=⟨_,List.getElem?_eq_getElem (by omega)⟩
 have:=UU (hc 0 u hu)
 rw[add_block,add_block] at this
 rw[add_block]
 exact hS _ (by simp[Sl.blk,ha]) this
section
variable {A : Amb} {B : Bud} {g h : Heap} {b : Nat} {Sb : Nat → Prop} {m : Bx} {D : BO} {age c : Nat} {R : Value → Heap → Prop}
theorem AFK(E:Evn g)(Bx0:BU h b Sb m)(hx:Ext g h)(hSb: ∀c,Sb c→g.size≤c)(hd:m.down=false)(hD:Ar (ff m) D)(hR:AEU (ff m) D age c)(hc:c≤B.C)(hA:age+1≤B.A)(hw:wtF m.files≤B.W0+age*B.K)
  (H0:m.fuel≠ -1→ ∀h' d S' m',BU h' b S' m'→m'.down=true→Mod Sb h h'→(∀ c,S' c→Sb c∨h.size≤c)→ZW (ff m') (age+1) c (mapD D)→(∀ y,¬Mine y→ff m' y=ff m y)→wtF m'.files≤B.W0+(age+1)*B.K→R (.tuple #[Aq d,.int .i64 30]) h')
  (H1: ∀h' q' k' st' m' D',q'.b=b→BC B g h' q' k' st' m' D' (age+1) c→Gw m m'→Bp st'=mapD D→(∀ y,¬Mine y→ff m' y=ff m y)→Mod Sb h h'→(∀ c,k' c≠0→Sb c∨h.size≤c)→R (.tuple #[Aq q'.d,.int .i64 0]) h'):
  AA A P Jw #[Aq b] h R:=by
 have hBA:=B.hA
 have hBC:=B.hC
 have hW8:=Nat.le_trans hw (B.wt (a:=age) (by omega))
 have htops:=hD.tops
 have hN:=AEJ hD
 have hlt0:=hR.ltop
 have hnt0:=hR.ntop
 have hfr0:=hR.frm
 have hnx0:=hR.next
 have hcn0:=hR.cnt
 have Sblt: ∀c,Sb c→c<h.size:=fun c hc=>Bx0.lt hc
 refine AEe ?_
 unfold Ti
 refine AHH (E.ext hx) Bx0 hd (by decide) (by decide) hW8 (fun h' l SL hl _=>?_) fun h1 l nt sl SL hl x1 hnt L1 v1 f1=>⟨_,_,_,rfl,PIf.no rfl ?_⟩
 ·obtain⟨_,r2,_⟩:=Tz hd hD.note SL htops.2.2
  omega
 obtain⟨r1,r2,r3⟩:=Tz hd hD.note SL htops.2.2
 rw[AFe] at r1
 have hrl:=ZI (nm:=nn) (m:=m) hd SL.inc
 rw[r1] at v1 hrl
 have hns1:1≤l.getLast?.getD 0+1:=by omega
 generalize l.getLast?.getD 0+1=nseg at*
 refine M.AKs fun h2 T2 x2 s2=>⟨_,rfl,New.mk fun h3 _ hb3 x3 s3=>?_⟩
 have x02:=x1.trans x2
 have x03:=x02.trans x3
 have ntlt:nt<h1.size:=Ah L1
 have L3:DI h3 nt b nn nseg false:=DI.ext (DI.ext L1 x2) x3
 have T3:M.Tab h3 h1.size [] []:=T2.ext x3
 have v3:=(v1.ext x2).ext x3
 have sz01:=x1.size
 refine Join.mk fun K hK=>?_
 have main: ∀(hB:Heap) (np:Sl),Ext h hB→hB[h2.size]? =some (.cells #[Aq b,.pointer none,Aq nt,Aq h1.size,.slice none 0 0,.slice np.p np.len np.cap,.int .i64 ((Ac D).next:Int),.int .i64 ((Ac D).frm:Int),.bool false] Du (0,0))→
   Own Eg BL hB np ((Ac D).names.map fun n:Nat=>(n:Int))→(∀ c,np.blk=some c→h2.size<c)→DI hB nt b nn nseg false→M.Tab hB h1.size [] []→K () hB:=by
  intro hB np xB cB onB hnp LB TB
  refine hK _ _ ?_
  have szB:=xB.size
  have EB:=E.ext (hx.trans xB)
  have hd2:h2.size<hB.size:=Ah cB
  have dge:h.size≤h2.size:=x02.size
  refine AZ.mk (s:=np) (AB cB rfl) ?_
  have npl:np.len=(Ac D).names.length:=by rw[onB.len];simp
  refine Loop.rule (fun mm x hh=> ∃(i:Nat) (tp:Sl) (ps:List Nat),x=((i:Int),())∧mm=(Ac D).names.length-i∧i≤(Ac D).names.length∧Mod (fun c=>c=h2.size∨hB.size≤c) hB hh∧
    hh[h2.size]? =some (.cells #[Aq b,.pointer none,Aq nt,Aq h1.size,.slice tp.p tp.len tp.cap,.slice np.p np.len np.cap,.int .i64 ((Ac D).next:Int),.int .i64 ((Ac D).frm:Int),.bool false] Du (0,0))∧
    Own PtE Au hh tp ps∧ps.length=i∧(∀ c,tp.blk=some c→hB.size≤c)∧ ∀(j t n:Nat),ps[j]? =some t→(Ac D).names[j]? =some n→ ∃lo hi,TabAt hh t (D.T n) (KD (D.T n)) lo hi∧hB.size≤lo∧hi≤hh.size∧ ∀c,tp.blk=some c→ ¬(lo≤c∧c<hi)) ?_
   ⟨0,⟨none,0,0⟩,[],rfl,rfl,Nat.zero_le _,Mod.refl,cB,Own.nil,rfl,fun c hc=>by simp[Sl.blk] at hc,fun j t n e=>by simp at e⟩
  rintro K1 mm _ hh ⟨i,tp,ps,rfl,rfl,hi,mdi,ci,ot,hpl,htp,tab⟩ hK1
  dsimp only
  have szi:=mdi.size
  have xi:Ext h hh:=xB.then (mdi.weak fun c _ hc=>by omega)
  have vn:View Eg hh np ((Ac D).names.map fun n:Nat=>(n:Int)):=onB.view.mod mdi fun c hc e=>by
   have:=hnp c hc
   have:=onB.lt hc
   omega
  rw[npl]
  refine PIf.intro (fun hq=>?_) (fun hq=>?_)
  ·have hil:i<(Ac D).names.length:=by have:=of_decide_eq_true hq;omega
   have hget:(Ac D).names[i]? =some (Ac D).names[i]:=List.getElem?_eq_getElem hil
   have hmem:(Ac D).names[i]∈(Ac D).names:=List.getElem_mem hil
   have hbl:=hN.below _ hmem
   have hnn:=hN.next
   have hcc:=hN.cnt
   obtain⟨ft1,ft2⟩:=hD.tab _ hmem
   rw[← npl]
   refine vn.idx (i:=i) (x:=((Ac D).names[i]:Int)) (by rw[List.getElem?_map,hget];rfl) fun a _ ca=>Aa.mk ca.int ?_
   generalize (Ac D).names[i]=nm at*
   refine NY (E.ext (hx.trans xi)) (by omega) fun h6 x6=>⟨_,rfl,?_⟩
   refine YF (Bx0.ext (xi.trans x6)) ⟨_,_,rfl,?_⟩
   rw[ACj hd,ft1]
   dsimp only
   rw[Od]
   refine PIf.no rfl ?_
   refine AFP ft2.tabS fun h8 t x8 T8=>⟨_,_,rfl,PIf.no rfl ?_⟩
   have x68:=x6.trans x8
   have c8:=AU x68 ci
   refine AZ.mk (s:=tp) (AB c8 rfl) ?_
   have sz6:=x6.size
   have sz8:=x8.size
   refine New.append1 (E:=PtE) (x:=t) (s:=tp) (l:=ps) rfl AKT (ot.ext x68) (by omega) (by simp[maxLen];omega) fun s' h10 o10 m10 b10 _=>?_
   have c10:=m10.blk c8 (fun e=>by have:=htp _ e;omega)
   refine Store.mk1 c10 (by simp) fun h11 hb11 m11 s11=>?_
   rw[AR (by omega)]
   have sb: ∀c,s'.blk=some c→hB.size≤c:=fun c hc=>by
    rcases b10 c hc with h|h
    ·exact htp c h
    ·omega
   have sz10:=m10.size
   refine hK1 ((Ac D).names.length-(i+1)) _ _ (by omega) ⟨i+1,s',ps++ [t],rfl,rfl,hil,?_,by simpa using hb11,o10.mod m11 (fun c hc e=>by have:=sb c hc;omega),by simp[hpl],sb,fun j t' n e1 e2=>?_⟩
   ·exact(mdi.trans (Ext.mod x68)).trans ((m10.weak fun c _ hc=> .inr (htp c hc)).trans (m11.weak fun c _ hc=> .inl hc))
   ·by_cases hj:j<ps.length
    ·rw [List.getElem?_append_left hj] at e1
     obtain⟨lo,hi',T1,t1,t2,t3⟩:=tab j t' n e1 e2
     refine⟨lo,hi',((T1.ext x68).mod m10 fun c c1 c2 hc=>t3 c hc ⟨c1,c2⟩).mod m11 (fun c c1 c2 hc=>by omega),t1,by omega,fun c hc hr=>?_⟩
     rcases b10 c hc with h|h
     ·exact t3 c h hr
     ·omega
    ·have hj2:j=ps.length:=by
      have:=(List.getElem?_eq_some_iff.1 e1).1
      simp at this;omega
     subst hj2
     rw[List.getElem?_append_right (Nat.le_refl _)] at e1
     simp at e1
     subst e1
     rw[hpl,hget] at e2
     cases e2
     refine⟨h6.size,h8.size,(T8.mod m10 fun c c1 c2 hc=>by have:=ot.lt hc;omega).mod m11 (fun c c1 c2 hc=>by omega),by omega,by omega,fun c hc hr=>?_⟩
     rcases b10 c hc with h|h
     ·have:=ot.lt h;omega
     ·omega
  have hil:i=(Ac D).names.length:=by have:=of_decide_eq_false hq;omega
  clear hK1 hi hq
  have LC:DI hh nt b nn nseg false:=LB.mod mdi (by omega)
  have TC:M.Tab hh h1.size [] []:=TB.mod mdi fun c hc e=>by
   rcases hc with rfl|⟨y,hy,_⟩
   ·omega
   ·cases hy
  refine AHH (E.ext (hx.trans xi)) (Bx0.ext xi) hd (by decide) (by decide) hW8 (fun h' l' SL' hl' _=>?_) fun h12 l' lg sl' SL' hl' x12 hlg L12 v12 f12=>⟨_,_,_,rfl,PIf.no rfl ?_⟩
  ·obtain⟨_,q2,_⟩:=Tz hd hD.log SL' ⟨htops.1,htops.2.1⟩
   omega
  obtain⟨q1,q2,q3⟩:=Tz hd hD.log SL' ⟨htops.1,htops.2.1⟩
  rw[AIm] at q1
  have hrl2:=ZI (nm:=nl) (m:=m) hd SL'.inc
  rw[q1] at v12 hrl2
  have hls1:1≤l'.getLast?.getD 0+1:=by omega
  generalize l'.getLast?.getD 0+1=lseg0 at*
  have c12:=AU x12 ci
  have lglt:lg<h12.size:=Ah L12
  refine Store.mk1 c12 (by simp) fun h13 hb13 m13 s13=>?_
  have sz12:=x12.size
  have dlh:h2.size<hh.size:=Ah ci
  have L13:DI h13 lg b nl lseg0 false:=DI.mod L12 m13 (by omega)
  have B13:BU h13 b Sb m:=((Bx0.ext xi).ext x12).mod m13 fun c hc e=>by have:=Sblt c hc;omega
  have nSlg: ¬Sb lg:=fun hc=>by have:=Sblt _ hc;have:=xi.size;omega
  have x013:Ext h h13:=(xi.trans x12).then (m13.weak fun c _ hc=> .inr (by omega))
  have sz13:=m13.size
  refine Loop.rule (fun mm (_:Unit) hx=> ∃s:Nat,mm=(Ac D).frm-s∧DI hx lg b nl s false∧BU hx b Sb m∧Mod (fun c=>Sb c∨c=lg) h13 hx∧lseg0≤s∧(s=lseg0∨s≤(Ac D).frm)) ?_ ⟨lseg0,rfl,L13,B13,Mod.refl,Nat.le_refl _,.inl rfl⟩
  rintro K2 mm _ h14 ⟨s,rfl,L14,B14,md14,hs1,hs2⟩ hK2
  have hN2:=hN.frm
  have c14:=md14.blk hb13 (by rintro(h|h);have:=Sblt _ h;omega;omega)
  have x14g:Ext g h14:=(hx.trans x013).then (md14.weak fun c _ hc=>by
   rcases hc with hc|rfl
   ·exact .inr (hSb c hc)
   ·exact .inr (by have:=hx.size;have:=xi.size;omega))
  have ev14:Evn h14:=E.ext x14g
  refine AP.mk (AB c14 rfl) ?_
  refine Lb ?_
  unfold GY
  refine PIf.no rfl (atI (Aa.mk (AB L14 rfl) ⟨_,rfl,?_⟩))
  refine Aa.mk (AB c14 rfl) ⟨AB c14 rfl,?_⟩
  refine PIf.intro (fun hq2=>?_) (fun hq2=>?_)
  ·have hlt:=of_decide_eq_true hq2
   refine AP.mk (AB c14 rfl) ?_
   refine TS ev14 L14 B14 nSlg (by decide) (by omega) (fun hne=>absurd rfl hne) fun _ h16 B16 L16 m16=>⟨_,_,rfl,PIf.no rfl ?_⟩
   exact hK2 ((Ac D).frm-(s+1)) _ _ (by omega) ⟨s+1,rfl,L16,B16,md14.trans m16,by omega,.inr (by omega)⟩
  have hfs:(Ac D).frm≤s:=by have:=of_decide_eq_false hq2;omega
  clear hK2
  have sz14:=md14.size
  have v14:View F9 h14 sl' ((IW D).map fun p=>AY (A8 p.1 p.2)):=(v12.mod m13 fun c hc e=>by have:=(f12 c hc).1;omega).mod md14 fun c hc e=>by
   have h1:=f12 c hc
   rcases e with e|e
   ·have:=Sblt c e;have:=xi.size;omega
   ·exact h1.2 e
  have hsl: ∀c,sl'.blk=some c→hh.size≤c:=fun c hc=>(f12 c hc).1
  have T14:M.Tab h14 h1.size [] []:=((TC.ext x12).mod m13 fun c hc e=>by
   rcases hc with rfl|⟨y,hy,_⟩
   ·omega
   ·cases hy).mod md14 fun c hc e=>by
   rcases hc with rfl|⟨y,hy,_⟩
   ·rcases e with e|e
    ·have:=Sblt _ e;omega
    ·have:=xi.size;omega
   ·cases hy
  have vlen:sl'.len=(IW D).length:=by rw[v14.len];simp
  have hcB:=AL2 hD
  have hcnt:=hR.prs
  have hbD:(MV (Ac D).frm (IW D)).flatten.length≤c:=by
   rw[AG6]
   have:KC D=_:=rfl
   unfold KC at hcnt
   omega
  refine Loop.rule (fun mm xx hy=> ∃(i:Nat) (ns:List M.CX),xx=((i:Int),())∧mm=(IW D).length-i∧i≤(IW D).length∧Mod (fun c=>c=h1.size∨h14.size≤c) h14 hy∧M.Tab hy h1.size ns (BJ [] (MV (Ac D).frm ((IW D).take i)).flatten)∧ ∀c,M.inT h1.size ns c→c=h1.size∨h14.size≤c) ?_
   ⟨0,[],rfl,rfl,Nat.zero_le _,Mod.refl,T14,fun c hc=>by
    rcases hc with rfl|⟨y,hy,_⟩
    ·exact .inl rfl
    ·cases hy⟩
  rintro K3 mm _ h17 ⟨i,ns,rfl,rfl,hi,md17,T17,hns⟩ hK3
  dsimp only
  have sz17:=md17.size
  have v17:=View.modn v14 md17 fun c hc hlt e=>by have:=hsl c hc;omega
  have c17:=md17.blk c14 (by omega)
  rw[vlen]
  refine PIf.intro (fun hq=>?_) (fun hq=>?_)
  ·have hil:i<(IW D).length:=by have:=of_decide_eq_true hq;omega
   have hget:(IW D)[i]? =some (IW D)[i]:=List.getElem?_eq_getElem hil
   obtain⟨hp1,hp2⟩:=hcB _ (List.getElem_mem hil)
   have htk:(IW D).take (i+1)=(IW D).take i++ [(IW D)[i]]:=by rw[List.take_add_one,hget];rfl
   have hsn:=ALP (f:=(Ac D).frm) (l:=IW D) (i+1)
   refine Join.mk fun K4 hK4=>?_
   rw[← vlen]
   refine v17.idx (i:=i) (x:=AY (A8 (IW D)[i].1 (IW D)[i].2)) (by rw[List.getElem?_map,hget];rfl) fun a _ ca=>AL.mk ca.str ?_
   have wi:IntKind.wrap .i64 ((i:Int)+(1:Int))=((i+1:Nat):Int):=AR (by rw[List.length_map] at hrl2;omega)
   rw[wi] at hK4
   generalize (IW D)[i]=pp at*
   obtain⟨sg,bt⟩:=pp
   dsimp only at hp1 hp2 ⊢
   refine AF5 hp1 hp2.len hp2.ok fun s19 h19 o19 x19 f19=>⟨_,_,_,rfl,PIf.no rfl ?_⟩
   have c19:=AU x19 c17
   refine Aa.mk (AB c19 rfl) ?_
   refine PIf.intro (fun hq3=>?_) (fun hq3=>?_)
   ·have hlt:=of_decide_eq_true hq3
    refine hK4 _ _ (hK3 ((IW D).length-(i+1)) _ _ (by omega) ⟨i+1,ns,rfl,rfl,hil,md17.trans (Ext.mod x19),?_,hns⟩)
    have e:MV (Ac D).frm ((IW D).take (i+1))=MV (Ac D).frm ((IW D).take i):=by
     rw[htk,Tt]
     have:MV (Ac D).frm [(sg,bt)]= []:=by
      unfold MV
      rw[List.filter_cons,if_neg (by simp;omega)];rfl
     rw[this,List.append_nil]
    rw[e]
    exact T17.ext x19
   ·have hge:(Ac D).frm≤sg:=by have:=of_decide_eq_false hq3;omega
    have e:(MV (Ac D).frm ((IW D).take (i+1))).flatten=(MV (Ac D).frm ((IW D).take i)).flatten++bt:=by
     rw[htk,Tt]
     have:MV (Ac D).frm [(sg,bt)]= [bt]:=by
      unfold MV
      rw[List.filter_cons,if_pos (by simpa using hge)];rfl
     rw[this];simp
    rw[e,List.length_append] at hsn
    have sz19:=x19.size
    refine Loop.rule (fun mm xx hz=> ∃(j:Nat) (ns':List M.CX),xx=((j:Int),())∧mm=bt.length-j∧j≤bt.length∧Mod (fun c=>c=h1.size∨h14.size≤c) h14 hz∧M.Tab hz h1.size ns' (BJ (BJ [] (MV (Ac D).frm ((IW D).take i)).flatten) (bt.take j))∧(∀ c,M.inT h1.size ns' c→c=h1.size∨h14.size≤c)∧View Ak hz s19 bt∧(∀ c,s19.blk=some c→ ¬M.inT h1.size ns' c)∧h19.size≤hz.size) ?_
     ⟨0,ns,rfl,rfl,Nat.zero_le _,md17.trans (Ext.mod x19),T17.ext x19,hns,o19.view,fun c hc hI=>by have:=f19 c hc;have:=T17.lt hI;omega,Nat.le_refl _⟩
    rintro K5 mm _ h20 ⟨j,ns',rfl,rfl,hj,md20,T20,hns',v20,f20,z20⟩ hK5
    dsimp only
    have c20:=md20.blk c14 (by omega)
    have hb64:=hp2.len
    rw[v20.len]
    refine PIf.intro (fun hq=>?_) (fun hq=>?_)
    ·have hjl:j<bt.length:=by have:=of_decide_eq_true hq;omega
     have hgj:bt[j]? =some bt[j]:=List.getElem?_eq_getElem hjl
     rw[← v20.len]
     refine v20.idx hgj fun a _ ca=>?_
     obtain⟨k0,k1,k2⟩:=ca.pair
     refine AL.mk k0 (AL.mk k1 (Ab.mk k2 (New.pair fun b3 h24 _ hb24 x24 s24=>?_)))
     have c24:=AU x24 c20
     refine AP.mk (AB c24 rfl) ?_
     refine AL.mk (AC hb24 rfl) (AL.mk (AB hb24 rfl) (Ab.mk (AB hb24 rfl) ?_))
     have l1:=M.Np (l:=(MV (Ac D).frm ((IW D).take i)).flatten) (t:= [])
     have l2:=M.Np (l:=bt.take j) (t:=BJ [] (MV (Ac D).frm ((IW D).take i)).flatten)
     rw[List.length_take] at l2
     simp only[List.length_nil,Nat.zero_add] at l1
     refine M.AHO (x:=bt[j]) (T20.ext x24) (by omega) fun ns'' h25 T25 m25 s25=>⟨_,rfl,?_⟩
     rw[AR (by omega)]
     have sz20:=md20.size
     have sz24:=x24.size
     refine hK5 (bt.length-(j+1)) _ _ (by omega) ⟨j+1,ns'',rfl,rfl,hjl,(md20.trans (Ext.mod x24)).trans (m25.weak fun c _ hc=>hns' c hc),by rw[M.Yq hgj];exact T25,fun c hc=>?_,(v20.ext x24).mod m25 (fun c hc hI=>f20 c hc hI),fun c hc hI=>?_,by have:=m25.size;omega⟩
     ·rcases s25 c hc with h|h
      ·exact hns' c h
      ·exact .inr (by omega)
     ·rcases s25 c hI with h|h
      ·exact f20 c hc h
      ·have:=o19.lt hc
       omega
    ·have hjl:j=bt.length:=by have:=of_decide_eq_false hq;omega
     subst hjl
     rw[List.take_length] at T20
     refine hK4 _ _ (hK3 ((IW D).length-(i+1)) _ _ (by omega) ⟨i+1,ns',rfl,rfl,hil,md20,?_,hns'⟩)
     rw[e,AFW]
     exact T20
  have hil3:i=(IW D).length:=by have:=of_decide_eq_false hq;omega
  subst hil3
  rw[List.take_length,AG6] at T17
  clear hK3
  have ke:Mod (fun c=>c=h2.size) hh h13:=(Ext.mod x12).trans m13
  have keep: ∀c,hB.size≤c→c<hh.size→ ¬(c=h2.size)∧ ¬(Sb c∨c=lg)∧ ¬(c=h1.size∨h14.size≤c):=fun c c1 c2=>by
   refine⟨by omega,?_,by omega⟩
   rintro(h|h)
   ·have:=Sblt c h;have:=xB.size;omega
   ·omega
  have keep2: ∀c,h.size≤c→c<hh.size→c≠h2.size→c≠h1.size→ ¬(c=h2.size)∧ ¬(Sb c∨c=lg)∧ ¬(c=h1.size∨h14.size≤c):=fun c c1 c2 c3 c4=>by
   refine⟨c3,?_,by omega⟩
   rintro(h|h)
   ·have:=Sblt c h;omega
   ·omega
  have ot17:Own PtE Au h17 tp ps:=((ot.mod ke fun c hc=>(keep c (htp c hc) (ot.lt hc)).1).mod md14 fun c hc=>(keep c (htp c hc) (ot.lt hc)).2.1).mod md17 fun c hc=>(keep c (htp c hc) (ot.lt hc)).2.2
  have nplt: ∀c,np.blk=some c→h.size≤c∧c<hh.size∧c≠h2.size∧c≠h1.size:=fun c hc=>by have:=hnp c hc;have:=onB.lt hc;omega
  have on17:Own Eg BL h17 np ((Ac D).names.map fun n:Nat=>(n:Int)):=(((onB.mod mdi fun c hc e=>by have:=nplt c hc;have:=onB.lt hc;omega).mod ke fun c hc=>(keep2 c (nplt c hc).1 (nplt c hc).2.1 (nplt c hc).2.2.1 (nplt c hc).2.2.2).1).mod md14 fun c hc=>(keep2 c (nplt c hc).1 (nplt c hc).2.1 (nplt c hc).2.2.1 (nplt c hc).2.2.2).2.1).mod md17 fun c hc=>(keep2 c (nplt c hc).1 (nplt c hc).2.1 (nplt c hc).2.2.1 (nplt c hc).2.2.2).2.2
  have kn:=keep2 nt hnt (by omega) (by omega) (by omega)
  have LN17:DI h17 nt b nn nseg false:=((LC.mod ke kn.1).mod md14 kn.2.1).mod md17 kn.2.2
  have LL17:DI h17 lg b nl s false:=L14.mod md17 (by omega)
  have BB17:BU h17 b Sb m:=B14.mod md17 fun c hc=>by have:=Sblt c hc;omega
  have x17g:Ext g h17:=x14g.then (md17.weak fun c _ hc=> .inr (by have:=hx.size;omega))
  have tab17: ∀(i:Nat) (t:Nat) (p:Nat×List Pr),ps[i]? =some t→((Ac D).names.map fun n=>(n,D.T n))[i]? =some p→ ∃lo hi,TabAt h17 t p.2 (KD p.2) lo hi∧hB.size≤lo∧hi≤hh.size∧(∀ c,tp.blk=some c→ ¬(lo≤c∧c<hi))∧FR p.2:=fun i' t p e1 e2=>by
   rw[List.getElem?_map] at e2
   cases hg:(Ac D).names[i']? with
   |none=>rw[hg] at e2;cases e2
   |some n=>
    rw[hg] at e2
    cases e2
    obtain⟨lo,hi',T1,t1,t2,t3⟩:=tab i' t n e1 hg
    refine⟨lo,hi',((T1.mod ke fun c c1 c2=>(keep c (by omega) (by omega)).1).mod md14 fun c c1 c2=>(keep c (by omega) (by omega)).2.1).mod md17 fun c c1 c2=>(keep c (by omega) (by omega)).2.2,t1,t2,t3,(hD.tab n (List.mem_of_getElem? hg)).2⟩
  have enm:((Ac D).names.map fun n=>(n,D.T n)).map (·.1)=(Ac D).names:=by rw[List.map_map];exact List.map_id _
  obtain⟨k0,W0,hk0⟩:=DbH.make (g:=g) (h:=h17) (q:=⟨h2.size,b,lg,nt,h1.size,Sb,ns,tp,np,ps⟩) (st:=⟨DK D,(Ac D).names.map fun n=>(n,D.T n),(Ac D).next,(Ac D).frm,s,nseg,false⟩) (m:=m) (N0:=h.size) (NB:=hB.size) (NC:=hh.size) (ND:=h14.size)
   (by simpa [dbC] using c17) BB17 LL17 LN17 T17 ot17 (by simp[hpl,hil]) (by unfold nmS;rw[List.map_map];exact on17) x17g hx.size (fun c hc=>⟨hSb c hc,Sblt c hc⟩)
   hnt ntlt (by show h1.size<h2.size;omega) hd2 szi hlg (by show lg<h14.size;omega) (fun c hc=>⟨hnp c hc,onB.lt hc⟩) (fun c hc=>⟨htp c hc,ot.lt hc⟩) hns tab17 (by omega)
  have modSb:Mod Sb h h17:=by
   refine⟨by have:=x013.size;omega,fun c hc hn=>?_⟩
   have e1:=x013.get c hc (fun h=>h)
   have sz:=x013.size
   have e2:=md14.get c (by omega) (by rintro(h|h);exact hn h;have:=xi.size;omega)
   have e3:=md17.get c (by omega) (by omega)
   exact e3.trans (e2.trans e1)
  have sz017:=modSb.size
  have fFt: ∀n,ff m (tfN n)≠none→n<8*age+8:=hR.tfs
  have hflen:=Ou m.files
  refine AJq (N:=8*age+8) (q:=⟨h2.size,b,lg,nt,h1.size,Sb,ns,tp,np,ps⟩) E W0 hd hD enm.symm (by omega) fFt hnx0 (by simp;omega) (by omega)
   (fun hfu h18 S18 m18 B18 d18 md18 s18 dk18 fr18 sub18 wt18=>⟨_,rfl,?_⟩) fun h18 S18 k18 m18 nx18 W18 st18 dk18 fr18 cl18 nx1 nx2 wt18 md18 kk18=>⟨_,rfl,?_⟩
  ·refine H0 hfu h18 h2.size S18 m18 B18 d18 (modSb.then (md18.weak fun c _ hc=>hk0 c hc)) (fun c hc=>?_) (fun G cr=>⟨D,dk18.crash cr,?_,rfl⟩) (fun y hy=>fr18 y fun n=>Nv hy n) (Nat.le_trans wt18 (B.up (Nat.le_succ _) hw))
   ·rcases s18 c hc with h|h
    ·exact hk0 c h
    ·exact .inr (by omega)
   ·refine AEU.mono ⟨hR.ltop,hR.ntop,hR.next,hR.frm,hR.cnt,hR.prs,fun n hn=>fFt n (sub18 n (cr.some hn))⟩ (Nat.le_succ _) (Nat.le_refl _)
  ·have ffl: ∀n,ff m18 (fnB nl n)=ff m (fnB nl n):=fun n=>fr18 _ (Jc n)
   have ffn: ∀n,ff m18 (fnB nn n)=ff m (fnB nn n):=fun n=>fr18 _ (Ld n)
   have L18:Di (ff m18) ⟨DK D,(Ac D).names.map fun n=>(n,D.T n),nx18,(Ac D).frm,s,nseg,false⟩ D:=
    ⟨dk18,enm.symm,fun p hp=>by
     obtain⟨n,_,rfl⟩:=List.mem_map.1 hp
     rfl,rfl,nx1,fun p hp=>by
     obtain⟨n,hn,rfl⟩:=List.mem_map.1 hp
     have h1:=hN.below n hn
     have h2:(Ac D).next≤nx18:=nx1
     show n<nx18
     omega,rfl,fun n n1 n9 _=>by
     have n1:s≤n:=n1
     rw[ffl];exact q3 n (by omega) n9,(fun h=>by cases h),fun n n1 n9=>by rw[ffn];exact r3 n n1 n9,⟨hN.frm.1,hfs⟩,hns1,fun n hn=>cl18 n hn⟩
   have lim18:Pd ⟨DK D,(Ac D).names.map fun n=>(n,D.T n),nx18,(Ac D).frm,s,nseg,false⟩ D (age+1) c:=by
    have nx2':nx18≤8*age+8:=nx2
    exact⟨by show s≤_;omega,by show nseg≤_;omega,by show nx18≤_;omega,by show((Ac D).names.map _).length≤_;simp;omega,hR.prs,by omega,by omega⟩
   refine H1 h18 _ k18 _ m18 D rfl ⟨W18,st18.up,L18,lim18,Nat.le_trans wt18 (B.up (Nat.le_succ _) hw),hc⟩ st18 L18.map.symm (fun y hy=>fr18 y fun n=>Nv hy n) (modSb.then (md18.weak fun c _ hc=>hk0 c hc)) fun c hc=>?_
   rcases kk18 c hc with h|h
   ·exact hk0 c h
   ·exact .inr (by omega)
 have hlen3:sl.len=(Kh D).length:=by rw[v3.len];simp
 refine PIf.intro (fun hq=>?_) (fun hq=>?_)
 ·have hne:Kh D≠ []:=fun e=>by
   have:=of_decide_eq_true hq
   rw[hlen3,e] at this;simp at this
  obtain⟨ys,x,hys⟩: ∃ys x,Kh D=ys++ [x]:=⟨_,_,(List.dropLast_concat_getLast hne).symm⟩
  have hl0:Ac D=x:=by unfold Ac;rw[hys,List.getLast?_concat];rfl
  have hlen4:sl.len=ys.length+1:=by rw[hlen3,hys];simp
  have hyl:ys.length≤8000000000000:=by
   rw[hys] at hrl
   simp at hrl;omega
  rw[hlen4]
  have ewr:IntKind.wrap .i64 (((ys.length+1:Nat):Int)-(1:Int))=((ys.length:Nat):Int):=by rw[wrap_i64 (by omega) (by omega)];omega
  rw[ewr,←hlen4]
  rw[hl0] at hN main
  have hxg:((Kh D).map fun x=>AY (Cv x))[ys.length]? =some (AY (Cv x)):=by rw[hys];simp
  refine v3.idx hxg fun a _ ca=>AL.mk ca.str ?_
  have hn1:=hN.next
  have h2':=hN.frm
  have h3':=hN.cnt
  have h4':=hN.below
  have enl:Cv x=CK x.next++(CK x.frm++(CK x.names.length++(x.names.flatMap CK++ []))):=by simp[Cv,List.append_assoc]
  rw[enl]
  have nl0:=AEx hN
  rw[enl] at nl0
  simp only[List.length_append] at nl0
  refine P8 fun h4 rd4 x4=>⟨_,rfl,?_⟩
  have cB:=AU x4 hb3
  refine JL (most:=2147483647) rd4 (by simp only[List.length_append];omega) (by decide) fun h5 rd5 m5=>⟨_,rfl,?_⟩
  rw[IQ (by omega) (by omega)] at rd5 ⊢
  refine JL (most:=99999999) rd5 (by simp only[List.length_append];omega) (by decide) fun h6 rd6 m6=>⟨_,rfl,?_⟩
  rw[IQ (by omega) (by omega)] at rd6 ⊢
  have sz4:=x4.size
  have rdne:h3.size≠h2.size:=by omega
  have m46:Mod (· =h3.size) h4 h6:=m5.trans m6
  have cB6:=m46.blk cB (by omega)
  refine Store.mk1 cB6 (by simp) fun h7 hb7 m7 s7=>Store.mk1 hb7 (by simp) fun h8 hb8 m8 s8=>?_
  have m68:Mod (· =h2.size) h6 h8:=m7.trans m8
  have rd8:KH h8 h3.size ⟨CK x.names.length++(x.names.flatMap CK++ []),false⟩:=m68.blk rd6 rdne
  refine JL (most:=65536) rd8 (by simp only[List.length_append];omega) (by decide) fun h9 rd9 m9=>⟨_,rfl,?_⟩
  rw[IQ (by omega) (by omega)] at rd9 ⊢
  have cB9:=m9.blk hb8 (fun e=>rdne e.symm)
  have mod9:Mod (fun c=>h2.size≤c) h3 h9:=(Ext.mod x4).trans (((m46.weak fun c _ hc=>by omega).trans (m68.weak fun c _ hc=>by omega)).trans (m9.weak fun c _ hc=>by omega))
  refine Loop.rule (fun mm xx hh=> ∃(i:Nat) (np:Sl),xx=((i:Int),())∧mm=x.names.length-i∧i≤x.names.length∧Mod (fun c=>h2.size≤c) h3 hh∧KH hh h3.size ⟨(x.names.drop i).flatMap CK++ [],false⟩∧Own Eg BL hh np ((x.names.take i).map fun n:Nat=>(n:Int))∧(∀ c,np.blk=some c→h3.size<c)∧
    hh[h2.size]? =some (.cells #[Aq b,.pointer none,Aq nt,Aq h1.size,.slice none 0 0,.slice np.p np.len np.cap,.int .i64 (x.next:Int),.int .i64 (x.frm:Int),.bool false] Du (0,0))) ?_
   ⟨0,⟨none,0,0⟩,rfl,rfl,Nat.zero_le _,mod9,rd9,Own.nil,fun c hc=>by simp[Sl.blk] at hc,by simpa using cB9⟩
  rintro K6 mm _ hh ⟨i,np,rfl,rfl,hi,mdi,rdi,oi,hnp,ci⟩ hK6
  have szi:=mdi.size
  dsimp only
  refine PIf.intro (fun hq=>?_) (fun hq=>?_)
  ·have hil:i<x.names.length:=by have:=of_decide_eq_true hq;omega
   have hget:x.names[i]? =some x.names[i]:=List.getElem?_eq_getElem hil
   have hdr:x.names.drop i=x.names[i]::x.names.drop (i+1):=List.drop_eq_getElem_cons hil
   have hbi:=h4' _ (List.getElem_mem hil)
   refine AZ.mk (s:=np) (AB ci rfl) ?_
   rw[hdr,List.flatMap_cons,List.append_assoc] at rdi
   have lres:((x.names.drop (i+1)).flatMap CK).length≤600000:=by
    have:=RH (l:=x.names.drop (i+1)) fun n hn=>by have:=h4' n (List.mem_of_mem_drop hn);omega
    have e:=List.length_drop (l:=x.names) (i:=i+1)
    omega
   have l10:=Af (n:=x.names[i]) (by omega)
   refine JL (most:=2147483647) rdi (by simp only[List.length_append,List.length_nil];omega) (by decide) fun h34 rd34 m34=>⟨_,rfl,?_⟩
   rw[IQ (by omega) (by omega)] at rd34 ⊢
   have c34:=m34.blk ci (fun e=>rdne e.symm)
   refine⟨AB c34 rfl,New.mk fun h35 _ hb35 x35 s35=>⟨AB (AU x35 c34) rfl,?_⟩⟩
   have o34:Own Eg BL h34 np ((x.names.take i).map fun n:Nat=>(n:Int)):=oi.mod m34 fun c hc e=>by have:=hnp c hc;omega
   have o35:=o34.ext x35
   have src:View Eg h35 ⟨some ⟨h34.size,0,none⟩,1,1⟩ [(x.names[i]:Int)]:=(Own.lit (E:=Eg) (l:= [(x.names[i]:Int)]) hb35 rfl (by simp[maxLen])).view
   refine Gx (s:=np) (src:=⟨some ⟨h34.size,0,none⟩,1,1⟩) Yc o35 src (by simp;omega) (by simp[maxLen];omega) fun s' h36 o36 m36 b36 _=>?_
   have c36:=m36.blk (AU x35 c34) (fun e=>by have:=hnp _ e;omega)
   refine Store.mk1 c36 (by simp) fun h37 hb37 m37 s37=>?_
   rw[AR (by omega)]
   have sz34:=m34.size
   have sb36: ∀c,s'.blk=some c→h3.size<c:=fun c hc=>by
    rcases b36 c hc with h|h
    ·exact hnp c h
    ·omega
   have rdlt:h3.size<h4.size:=Ah rd4
   refine hK6 (x.names.length-(i+1)) _ _ (by omega) ⟨i+1,s',rfl,rfl,hil,?_,?_,?_,sb36,by simpa using hb37⟩
   ·exact mdi.trans ((((m34.weak fun c _ hc=>by omega).trans (Ext.mod x35)).trans (m36.weak fun c _ hc=>by have:=hnp c hc;omega)).trans (m37.weak fun c _ hc=>by omega))
   ·have r35:=x35.blk rd34 (fun h=>h)
    have r36:=m36.blk r35 (fun e=>by have:=hnp _ e;omega)
    exact m37.blk r36 rdne
   ·rw [List.take_add_one,hget]
    simp only[Option.toList_some,List.map_append,List.map_cons,List.map_nil]
    exact o36.mod m37 fun c hc e=>by have:=sb36 c hc;omega
  ·have hil:i=x.names.length:=by have:=of_decide_eq_false hq;omega
   subst hil
   rw[List.take_length] at oi
   rw[List.drop_length] at rdi
   refine VE rdi ⟨_,rfl,?_⟩
   have eend:ALf ⟨([]:List Nat).flatMap CK++ [],false⟩=true:=rfl
   rw[eend]
   refine PIf.no rfl ?_
   have keepB: ∀ {bb:Nat} {o:Obj},h3[bb]? =some o→bb<h2.size→hh[bb]? =some o:=fun e hlt=>mdi.blk e (by omega)
   refine main hh np ⟨by omega,fun c hc hn=>?_⟩ ci oi (fun c hc=>by have:=hnp c hc;omega) (keepB L3 (by omega)) (T3.mod mdi fun c hc e=>?_)
   ·have h0:=x03.get c hc hn
    rw[← h0]
    exact mdi.get c (by omega) (by omega)
   ·rcases hc with rfl|⟨y,hy,_⟩
    ·omega
    ·cases hy
 ·have h0:Kh D= []:=by
   have:=of_decide_eq_false hq
   exact List.eq_nil_of_length_eq_zero (by omega)
  have hl0:Ac D=⟨1,1,[]⟩:=by unfold Ac;rw[h0];rfl
  refine main h3 ⟨none,0,0⟩ x03 (by rw[hl0];exact hb3) (by rw[hl0];exact Own.nil) (fun c hc=>by simp[Sl.blk] at hc) L3 T3
end
end Go.Lf.G

