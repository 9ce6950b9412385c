/-
 Contract: what is in memory goes into a table (chapter 9).
-/
import Derived.Test.YtdmlhpjdmgaggaaGreatDoorLfZ9ToZ10
set_option linter.unusedVariables false
set_option linter.unusedSimpArgs false
set_option maxRecDepth 100000
set_option linter.unusedVariables false
set_option linter.unusedSimpArgs false
namespace Go.Lf.G
open Go
open M (Sorted Ag DR BJ Ai BD CV Ap OkL Ba)
section
variable {A : Amb} {B : Bud} {g h : Heap} {q : Hp} {k : Nat → Nat} {st : Db} {m : Bx} {D : BO} {age c : Nat} {R : Value → Heap → Prop}
theorem Di.noL {F:Fls}(L:Di F st D)(l:Pd st D age c)(hA:age≤100000){n:Nat}(hn:st.lseg<n):D.L n= []:=by
 by_cases h9:n≤99999999
 ·exact L.ok.nonL h9 (L.lout n (by omega) h9 fun _=>by omega)
 ·exact L.ok.farL (.inr (by have:=l.ltop;omega))
theorem AIH {F:Fls}{made:Bool}{m:Bx}{s:Nat}(hd:m.down=false)(hc:made=true→ ∃y,ff m (fnB nl s)=some (y,bs0)):(m.fuel=0∧JZ m (fnB nl s) made=(30,JU m))∨((JZ m (fnB nl s) made).1=0∧Gw m (JZ m (fnB nl s) made).2∧ ∀x,ff (JZ m (fnB nl s) made).2 x=ff m x):=by
 cases made with
 |false=>exact .inr ⟨rfl,Gw.refl hd,fun x=>rfl⟩
 |true=>
  obtain⟨y,hy⟩:=hc rfl
  rcases Ll hd hy with h1|⟨h1,h2,h3⟩
  ·exact .inl h1
  ·refine .inr ⟨h1,h2,fun x=>?_⟩
   show ff (Eu m (fnB nl s)).2 x=_
   rw[h3]
   split
   ·rename_i e
    rw[e,hy,Od]
   ·rfl
theorem AJf {m:Bx}(g:DY m)(k:ByteArray)(made:Bool):wtF (JZ m k made).2.files≤wtF m.files:=by
 cases made with
 |false=>exact Nat.le_refl _
 |true=>exact VC g k
theorem ALE {w w' x:Nat}(h1:w'≤w+x):w'+1000000≤w+(x+1000000):=by
 rw[← Nat.add_assoc]
 exact Nat.add_le_add_right h1 _
theorem AJo(C:Nat):8400*C+1100001+1000000≤20000*C+10000000:=by omega
theorem AD7(E:Evn g)(S:BC B g h q k st m D age c)(hA:age+2≤B.A)
  (H0: ∀h' m',AIg B h h' q k m m' (age+2)→ZW (ff m') (age+2) c (Bp st)→R (.int .i64 30) h')
  (H1: ∀h' q' k' st' m' D',q'.d=q.d→q'.b=q.b→BC B g h' q' k' st' m' D' (age+2) c→Gw m m'→st'.fr= []→Bp st'=Bp st→(st'.ts.length≤3∨st'.ts.length=st.ts.length)→(∀ y,¬Mine y→ff m' y=ff m y)→Mod (fun c=>k c≠0) h h'→(∀ c,k' c≠0→k c≠0∨h.size≤c)→R (.int .i64 0) h'):
  AA A P FZ #[Aq q.d] h R:=by
 have S0:=S
 obtain⟨W,hd,L,l,hw,hc⟩:=S
 have hBA:=B.hA
 have hBC:=B.hC
 have hW8:=B.wt (a:=age) (by omega)
 have hfl:=L.frlen l
 have hnext:=l.next
 have hnseg:=l.nseg
 have hlseg:=l.lseg
 have hltop:=l.ltop
 have hntop:=l.ntop
 have hlfrm:=L.lfrm
 have hcnt:=l.cnt
 have hfree:=L.tfree l
 have hnotin:st.next∉st.ts.map (·.1):=fun hm=>by
  obtain⟨p,hp,e⟩:=List.mem_map.1 hm
  have:=L.below p hp
  omega
 refine PU ?_
 unfold I5
 refine Join.mk fun K hK=>UW W (hK _ _ (PIf.no rfl ?_))
 refine atI (AP.mk (AB W.cell rfl) ?_)
 refine M.AHd W.fresh ⟨_,_,rfl,?_⟩
 refine PIf.intro (fun hq=>?_) (fun hq=>?_)
 ·have h1:st.fr= []:=List.eq_nil_of_length_eq_zero (by have:((st.fr.length:Nat):Int)=0:=(by simpa using hq);omega)
  exact H1 h q k st m D rfl rfl (S0.age (by omega)) (Gw.refl hd) h1 rfl (.inr rfl) (fun _ _=>rfl) Mod.refl (fun c hc=> .inl hc)
 have hne:st.fr≠ []:=fun e=>by
  rw[e] at hq;cases hq
 have T8:FR st.fr:=⟨hne,fun x hx=>AHL (W.fresh.good x hx),W.fresh.sorted,by omega⟩
 have tl:=AHY T8
 have tl2:(Hq st.fr).length≤8400*B.C+1100000:=by omega
 refine atI (Aa.mk (AB W.cell rfl) (atI (AP.mk (AB W.cell rfl) ?_)))
 refine M.AFR W.fresh fun fv h3 it3 x3 s3=>⟨_,rfl,⟨AB (W.on x3).cell rfl,?_⟩⟩
 rw[M.Yy] at it3
 refine M.TR it3 (fun _ _=>rfl) (by omega) fun s4 h4 o4 b4 x4=>⟨s4,rfl,?_⟩
 have x04:=x3.trans x4
 have W4:=W.on x04
 have sz04:=x04.size
 refine⟨AB W4.cell rfl,?_⟩
 refine AJi (n:=st.next) E W4 hd T8 o4.view (fun c hc=>o4.lt hc) (by omega) hfree (AKj tl2 hw hW8 hBC) (fun hfu h5 S5 m5 B5 d5 md5 s5 f5 wt5=>⟨_,_,rfl,PIf.yes rfl ?_⟩) fun h5 S5 k5 m5 t lo hi W5 st5 f5 wt5 T5 lo5 hi5 kz5 md5 gr5=>⟨_,_,rfl,PIf.no rfl ?_⟩
 ·refine Hm W4 B5 (md5.weak fun c _ hc=> .inl hc) s5 fun h6 dn6 B6 md6 s6=>⟨_,rfl,?_⟩
  have hf5:=L.recT (F':=ff m5) (l.mono (Nat.le_add_right age 2) (Nat.le_refl _)) (fun x hx=>f5 x (hx _ hnotin)) fun n hn=>by
   by_cases e:n=st.next
   ·omega
   ·rw [f5 _ fun e'=>e (H7 e')] at hn
    have:=L.tlt l hn;omega
  have wtm:wtF m5.files≤wtF m.files+(8400*B.C+1100001):=by omega
  have h2:=B.step2 hw wtm (Nat.le_add_right _ _)
  exact H0 h6 m5 ⟨hfu,dn6,⟨S5,B6,fun c hc=>(s6 c hc).imp id fun h=>by omega⟩,d5,(Ext.mod x04).trans md6,fun y hy=>f5 y (Nv hy _),Nat.le_trans h2 (Nat.add_le_add_left (Nat.mul_le_mul_right _ (Nat.le_succ _)) _)⟩ hf5.2
 have sz5:=md5.size
 have htlt:=T5.tlt
 have mod5:Mod (fun c=>k c≠0) h h5:=(Ext.mod x04).trans (md5.weak fun c _ hc=>by rw[W.kb c hc];decide)
 have f5': ∀x,x≠tfN st.next→ff m5 x=ff m x:=fun x hx=>by rw[f5,if_neg hx]
 have wt5':wtF m5.files≤wtF m.files+(8400*B.C+1100001):=by omega
 have fl5: ∀n,ff m5 (fnB nl n)=ff m (fnB nl n):=fun n=>f5' _ (Jc n _)
 have ht5: ∀ {F':Fls},(∀ n,F' (tfN n)≠none→ff m5 (tfN n)≠none)→ ∀n,F' (tfN n)≠none→n<8*(age+1)+8:=fun hF n hn=>by
  by_cases e:n=st.next
  ·omega
  ·have h1:=hF n hn
   rw[f5' _ fun e'=>e (H7 e')] at h1
   have:=L.tlt l h1
   omega
 refine atI (AP.mk (AB W5.cell rfl) ?_)
 have hsl:=AIH (F:=ff m) (made:=st.lmade) (s:=st.lseg) st5.up fun hm=>⟨_,by rw[fl5];exact L.lcur hm⟩
 refine TS (W5.evn E) W5.log W5.box W5.nSl (by decide) (by omega) (fun hne7 h7 B7 L7 m7=>⟨_,_,rfl,?_⟩) fun heq7 h7 B7 L7 m7=>⟨_,_,rfl,?_⟩
 ·rcases hsl with⟨hf0,e7⟩|⟨e7,_,_⟩
  ·rw [e7] at B7 ⊢
   refine PIf.yes rfl ?_
   refine Hm (q:= {q with Sb:=S5}) W5 B7 (m7.weak fun c _ hc=> .inl hc) (fun c hc=> .inl hc) fun h8 dn8 B8 md8 s8=>⟨_,rfl,?_⟩
   have hf5:=L.recT (F':=ff (JU m5)) (l.mono (Nat.le_add_right age 2) (Nat.le_refl _)) (fun x hx=>f5' x (hx _ hnotin)) fun n hn=>by
    have:=ht5 (F':=ff (JU m5)) (fun n hn=>hn) n hn
    omega
   have h2:=B.step2 hw wt5' (Nat.le_add_right _ _)
   refine H0 h8 (JU m5) ⟨(fun hh=>by have:=st5.calm hh;rw[hf0] at this;cases this),dn8,⟨S5,B8,fun c hc=>?_⟩,rfl,mod5.then (md8.weak fun c _ hc=>?_),fun y hy=>f5' y (Nv hy _),Nat.le_trans h2 (Nat.add_le_add_left (Nat.mul_le_mul_right _ (Nat.le_succ _)) _)⟩ hf5.2
   ·rcases s8 c hc with h1|h1
    ·by_cases hlt:c<h4.size
     ·rw [gr5 c hlt] at h1;exact .inl h1
     ·exact .inr (by omega)
    ·exact .inr (by omega)
   ·by_cases hlt:c<h4.size
    ·rw [gr5 c hlt] at hc;exact .inl hc
    ·exact .inr (by omega)
  ·exact absurd e7 hne7
 refine PIf.no rfl ?_
 rcases hsl with⟨hf0,e7⟩|⟨e7,st7,f7⟩
 ·rw [e7] at heq7;cases heq7
 have wt7:=AJf W5.box.good (fnB nl st.lseg) st.lmade
 have W7:=W5.boxed (j:=3) (st':= {st with lseg:=st.lseg+1,lmade:=false}) B7 (m7.weak fun c _ hc=>hc.imp id fun h=> .inl ⟨rfl,h⟩) (fun c hc=> .inl hc) rfl rfl rfl rfl (.inr L7) (.inl ⟨by decide,rfl⟩)
 generalize (JZ m5 (fnB nl st.lseg) st.lmade).2=mm at*
 have sz7:=m7.size
 have k7: ∀c,c<h5.size→Iu k5 h5.size S5 2 c=k5 c:=fun c hc=>Ec hc
 generalize Iu k5 h5.size S5 2=kk at*
 have mod7:Mod (fun c=>k c≠0) h h7:=mod5.then (m7.weak fun c _ hc=>by
  have h1:k5 c≠0:=by
   rcases hc with hc|hc
   ·rw [W5.kb c hc];decide
   ·rw [hc,W5.kl];decide
  by_cases hlt:c<h4.size
  ·rw [gr5 c hlt] at h1;exact .inl h1
  ·exact .inr (by omega))
 have kk0: ∀c,kk c≠0→k c≠0∨h.size≤c:=fun c hc=>by
  by_cases hlt:c<h4.size
  ·rw [k7 c (by omega),gr5 c hlt] at hc;exact .inl hc
  ·exact .inr (by omega)
 have kkb: ∀c,h7.size≤c→kk c=0:=fun c hc=>Decidable.byContradiction fun h=>by
  have:=(W7.own c h).2
  omega
 have kkz: ∀c,lo≤c→c<hi→kk c=0:=fun c c1 c2=>by rw[k7 c (by omega)];exact kz5 c c1
 have fmm: ∀x,ff mm x=ff m5 x:=f7
 have fm: ∀x,x≠tfN st.next→ff mm x=ff m x:=fun x hx=>(fmm x).trans (f5' x hx)
 have fmt:ff mm (tfN st.next)=some (AY (Hq st.fr),bs0):=by rw[fmm,f5,if_pos rfl]
 have stm:Gw m mm:=st5.trans st7
 have wtm:wtF mm.files≤wtF m.files+(8400*B.C+1100001):=Nat.le_trans wt7 wt5'
 have hDm:Ar (ff mm) D:=L.ok.tput fun x hx=>fm x (hx st.next (by rw[L.names];exact hnotin))
 have htm: ∀ {F':Fls},(∀ n,F' (tfN n)≠none→ff mm (tfN n)≠none)→ ∀n,F' (tfN n)≠none→n<8*(age+1)+8:=fun hF n hn=>ht5 (F':=ff mm) (fun n hn=>by rw[← fmm];exact hn) n (hF n hn)
 have told: ∀(hh:Heap) (q2:Hp) (k2:Nat→Nat),DbH g hh q2 k2 {st with ts:=(st.next,st.fr)::st.ts,next:=st.next+1,frm:=st.lseg+1,lseg:=st.lseg+1,lmade:=false} mm→q2.d=q.d→q2.b=q.b→Mod (fun c=>k c≠0) h hh→(∀ c,k2 c≠0→k c≠0∨h.size≤c)→
   AA A P GI #[Aq q2.d] hh fun v7 h12=> ∃t98:Int,v7= .int .i64 t98∧(
         PIf (t98 != (0:Int)) (
          AA A P Bj #[Aq q2.d,.int .i64 t98] h12 fun v8 h13=> ∃t103:Int,v8= .int .i64 t103∧(
          R (.int .i64 t103) h13)) (
          AA A P LZ #[] h12 fun v9 h14=> ∃t105:Option Addr,v9= .pointer t105∧(
          At (some (⟨q2.d,0,none⟩:Addr)) fun a7=>
          Store h14 (a7.add 3) (.pointer t105) fun h15=>
          At (some (⟨q2.d,0,none⟩:Addr)) fun a8=>
          AP h15 (a8.add 1) fun t111=>
          AA A P FP #[.pointer t111,.int .i64 (st.lseg:Int)] h15 fun v10 h16=> ∃t113:Int,v10= .int .i64 t113∧(
          PIf (t113 != (0:Int)) (
           AA A P Bj #[Aq q2.d,.int .i64 t113] h16 fun v11 h17=> ∃t118:Int,v11= .int .i64 t118∧(
           R (.int .i64 t118) h17)) (
           At (some (⟨q2.d,0,none⟩:Addr)) fun a9=>
           AZ h16 (a9.add 4) fun t122=>
           PIf (decide (((t122.len:Nat):Int)≥(4:Int))) (
            AA A P Df #[Aq q2.d] h16 fun v12 h18=> ∃t126:Int,v12= .int .i64 t126∧(
            R (.int .i64 t126) h18)) (
            R (.int .i64 0) h16)))))):=by
  intro hh q2 k2 W2 ed eb hmod hk2
  have hx2:YG (ntS {st with ts:=(st.next,st.fr)::st.ts,next:=st.next+1,frm:=st.lseg+1,lseg:=st.lseg+1,lmade:=false}):=by
   refine⟨by show st.next+1≤_;omega,by show 1≤st.lseg+1∧st.lseg+1≤_;omega,?_,fun n hn=>?_,?_⟩
   ·show((st.next,st.fr)::st.ts |>.map (·.1)).length≤_
    simp;omega
   ·show n<st.next+1
    rcases List.mem_cons.1 hn with rfl|hn
    ·exact Nat.lt_succ_self _
    ·obtain⟨p,hp,rfl⟩:=List.mem_map.1 hn
     have:=L.below p hp;omega
   ·exact List.nodup_cons.2 ⟨hnotin,L.nd⟩
  have hT2: ∀n∈st.next::st.ts.map (·.1),ff mm (tfN n)=some (AY (Hq ((Ij D.T st.next st.fr) n)),bs0)∧FR ((Ij D.T st.next st.fr) n):=fun n hn=>by
   by_cases e:n=st.next
   ·subst e;rw[Ca];exact⟨fmt,T8⟩
   ·rw [Dk e,fm _ fun e'=>e (H7 e')]
    rcases List.mem_cons.1 hn with h1|h1
    ·exact absurd h1 e
    ·exact L.ok.tab n (by rw[L.names];exact h1)
  have hTl: ∀D':BO,D'.T=Ij D.T st.next st.fr→(st.next::st.ts.map (·.1)).map D'.T=st.fr::tabsS st:=fun D' hT=>by
   rw[List.map_cons,hT,Ca]
   congr 1
   rw[← L.tabsS,L.names]
   refine List.map_congr_left fun n hn=>Dk fun e=>hnotin (e▸hn)
  have hmapn: ∀D':BO,D'.L=D.L→D'.ltop=D.ltop→Ac D'=ntS {st with ts:=(st.next,st.fr)::st.ts,next:=st.next+1,frm:=st.lseg+1,lseg:=st.lseg+1,lmade:=false}→D'.T=Ij D.T st.next st.fr→mapD D'=Bp st∧KC D'≤c∧DK D'= []:=fun D' hL ht hl hT=>by
   have eb:=AIb (f:=st.lseg+1) hL ht (by rw[hl];rfl) fun n hn=>L.noL l (by omega) (by omega)
   have ef:DK D'= []:=by unfold DK;rw[eb];rfl
   have en:(Ac D').names=st.next::st.ts.map (·.1):=by rw[hl];rfl
   refine⟨?_,?_,ef⟩
   ·unfold mapD
    rw[ef,en,hTl D' hT]
    exact AEM W.okL
   ·unfold KC
    rw[eb,en]
    have e2:((st.next::st.ts.map (·.1)).map fun n=>(D'.T n).length)=((st.next::st.ts.map (·.1)).map D'.T).map List.length:=by rw[List.map_map];rfl
    rw[e2,hTl D' hT]
    have:((st.fr::tabsS st).map List.length).sum=st.fr.length+M.total (tabsS st):=by simp[M.total]
    rw[this]
    simpa using hfl
  have hrec: ∀(D':BO) (F':Fls),Ar F' D'→D'.ltop=D.ltop→D'.ntop≤max D.ntop (st.nseg+1)→Ac D'=ntS {st with ts:=(st.next,st.fr)::st.ts,next:=st.next+1,frm:=st.lseg+1,lseg:=st.lseg+1,lmade:=false}→mapD D'=Bp st→KC D'≤c→(∀ n,F' (tfN n)≠none→ff mm (tfN n)≠none)→Rec F' (age+1) c (Bp st):=fun D' F' h1 ht hn hl hM hC hF=>by
   refine⟨D',h1,⟨by omega,by omega,?_,?_,?_,hC,htm hF⟩,hM⟩
   ·rw [hl];show st.next+1≤_;omega
   ·rw [hl];show st.lseg+1≤_;omega
   ·rw [hl];show((st.next,st.fr)::st.ts |>.map (·.1)).length≤_;simp;omega
  have hw2:wtF mm.files+1000000≤8000000000000:=by
   have h1:=B.wt (a:=age+1) (by omega)
   have h2:wtF mm.files+1000000≤B.W0+(age+1)*B.K:=B.step (d:=8400*B.C+1100001+1000000) hw (ALE wtm) (AJo B.C)
   exact Nat.le_trans h2 h1
  have lift2: ∀ {w:Nat},w≤B.W0+(age+1)*B.K→w≤B.W0+(age+2)*B.K:=fun h=>Nat.le_trans h (Nat.add_le_add_left (Nat.mul_le_mul_right _ (Nat.le_succ _)) _)
  refine AHt (T:=Ij D.T st.next st.fr) E W2 stm.up hDm hx2 hT2 ⟨L.nseg,by show st.nseg+2≤_;omega⟩ (fun n n1 n9=>by rw[fm _ (Ld n _)];exact L.nout n n1 n9) hw2
   (fun hfu h3 S3 m3 B3 d3 md3 s3 cr3 fr3 wt3=>⟨_,rfl,PIf.yes rfl ?_⟩) fun h3 S3 k3 m3 D3 W3 st3 dk3 ln3 T3 L3 lt3 nt3 fr3 out3 wt3 md3 gr3=>⟨_,rfl,PIf.no rfl ?_⟩
  ·refine Hm W2 B3 (md3.weak fun c _ hc=>hc.imp id .inr) s3 fun h4 dn4 B4 md4 s4=>⟨_,rfl,?_⟩
   have hmod4:Mod (fun c=>k c≠0) h h4:=hmod.then (md4.weak fun c _ hc=>hk2 c hc)
   refine H0 h4 m3 ⟨fun hh=>hfu (stm.calm hh),by rw[← ed];exact dn4,⟨S3,by rw[← eb];exact B4,fun c hc=>?_⟩,d3,hmod4,fun y hy=>?_,lift2 (B.step2 hw wtm wt3)⟩ fun G cr=>?_
   ·rcases s4 c hc with h1|h1
    ·exact hk2 c h1
    ·exact .inr (by have:=hmod.size;omega)
   ·rw [fr3 y fun n=>ABL hy n,fm y (Nv hy _)]
   ·obtain⟨D',d1,nx⟩:=cr3 G cr
    have hFt: ∀n,G (tfN n)≠none→ff mm (tfN n)≠none:=fun n hn=>by
     have:=cr.some hn
     rwa [fr3 _ fun j e=>Ld j n e.symm] at this
    have n3:D'.ntop≤max D.ntop (st.nseg+1):=nx.ntop
    rcases nx.last with⟨e1,e2⟩|⟨e1,e2⟩
    ·obtain⟨r1,r2⟩:=AEa nx.L nx.ltop e1 e2
     have:=L.next
     have r0:Rec G (age+1) c (Bp st):=⟨D',d1,⟨by rw[nx.ltop];omega,by omega,by rw[e1];omega,by rw[e1,L.frm];omega,by rw[e1,L.nmle];omega,by rw[r2];exact l.prs,htm hFt⟩,by rw[r1];exact L.map⟩
     exact r0.mono (Nat.le_succ _) (Nat.le_refl _)
    ·obtain⟨r1,r2,_⟩:=hmapn D' nx.L nx.ltop e1 e2
     exact(hrec D' G d1 nx.ltop n3 e1 r1 r2 hFt).mono (Nat.le_succ _) (Nat.le_refl _)
  ·obtain⟨r1,r2,r3⟩:=hmapn D3 L3 lt3 ln3 T3
   have sz3:=md3.size
   have n3:D3.ntop≤max D.ntop (st.nseg+1):=nt3
   have wt3':wtF m3.files≤B.W0+(age+1)*B.K:=B.step2 hw wtm wt3
   have st3':Gw m m3:=stm.trans st3
   have hmod3:Mod (fun c=>k c≠0) h h3:=hmod.then (md3.weak fun c _ hc=>by
    rcases hc with hc|hc
    ·exact hk2 c (by rw[W2.kb c hc];decide)
    ·exact hk2 c (by rw[hc,W2.kn];decide))
   have hk3: ∀c,k3 c≠0→k c≠0∨h.size≤c:=fun c hc=>by
    by_cases hlt:c<hh.size
    ·rw [gr3 c hlt] at hc;exact hk2 c hc
    ·exact .inr (by have:=hmod.size;omega)
   refine M.AKs fun h14 T14 x14 s14=>⟨_,rfl,?_⟩
   have W14:=W3.on x14
   refine atI (Store.mk1 W14.cell (by simp) fun h15 hb15 m15 s15=>?_)
   have T15:M.Tab h15 h3.size [] []:=T14.mod m15 fun c hc e=>by
    have hcc:c=h3.size:=by
     rcases hc with rfl|⟨x,hx,_⟩
     ·rfl
     ·cases hx
    have:=W3.dlt
    have e2:(q2.d:Nat)<h3.size:=this
    have e3:c=q2.d:=e
    omega
   have hm15:Mod (fun c=>c=h3.size∨c=q2.d) h3 h15:=(Ext.mod x14).trans (m15.weak fun c _ hc=> .inr hc)
   have W15:=W3.renew (h':=h15) (ft':=h3.size) T15 (Nat.le_refl _) (by simpa [dbC] using hb15) (by
    refine⟨hm15.size,fun c hc hn=>?_⟩
    exact hm15.get c hc (by rintro(h|h);omega;exact hn h))
   have hmod15:Mod (fun c=>k c≠0) h h15:=(hmod3.trans (Ext.mod x14)).then (m15.weak fun c _ hc=>by
    have e:c=q2.d:=hc
    rw[e]
    exact hk2 _ (by rw[W2.kd];decide))
   have hk15: ∀c,Iu k3 h3.size (· =h3.size) 5 c≠0→k c≠0∨h.size≤c:=fun c hc=>by
    by_cases hlt:c<h3.size
    ·rw [Ec hlt] at hc;exact hk3 c hc
    ·exact .inr (by have:=hmod3.size;omega)
   generalize Iu k3 h3.size (· =h3.size) 5=k15 at*
   refine atI (AP.mk (AB W15.cell rfl) ?_)
   have sz15:=hmod15.size
   have hw15:wtF m3.files≤8000000000000:=Nat.le_trans wt3' (B.wt (a:=age+1) (by omega))
   have f3: ∀x,x≠tfN st.next→(∀ n,x≠fnB nn n)→ff m3 x=ff m x:=fun x h1 h2=>(fr3 x h2).trans (fm x h1)
   have hfrm3:(Ac D3).frm=st.lseg+1:=by rw[ln3];rfl
   have hdrop: ∀ {F':Fls},(∀ x,F' x=ff m3 x∨(F' x=none∧ ∃n:Nat,1≤n∧n≤99999999∧n≤st.lseg∧x=fnB nl n))→Ar F' (Kj D3 F')∧mapD (Kj D3 F')=Bp st∧KC (Kj D3 F')≤c∧DK (Kj D3 F')= []:=fun {F'} hF=>by
    have h1: ∀n,n≤99999999→F' (fnB nl n)=ff m3 (fnB nl n)∨(F' (fnB nl n)=none∧n<(Ac D3).frm):=fun n n9=>by
     rcases hF (fnB nl n) with h1|⟨h1,j,_,_,hj,e⟩
     ·exact .inl h1
     ·refine .inr ⟨h1,?_⟩
      rw[hfrm3,GZ e];omega
    have h2:=AKa dk3 h1 fun x hx=>by
     rcases hF x with h3|⟨_,j,_,j9,_,e⟩
     ·exact h3
     ·exact absurd e (hx j j9)
    have h4:=AGL dk3 h1
    have h5:DK (Kj D3 F')=DK D3:=by unfold DK;rw[h4]
    refine⟨h2,?_,?_,by rw[h5];exact r3⟩
    ·rw [← r1];unfold mapD;rw[h5];rfl
    ·have:KC (Kj D3 F')=KC D3:=by unfold KC;rw[h4];rfl
     omega
   refine AB3 (W15.evn E) (fun h' x=>W15.evnB E (x.weak fun c _ hc=> .inl hc)) W15.log W15.box st3.up W15.nSl (by decide) hw15 (fun hge=>absurd hge (by show ¬(st.lseg:Int)≥((st.lseg+1:Nat):Int);omega))
    (fun hfu h16 S16 m16 B16 d16 md16 s16 wt16 f16=>⟨_,rfl,PIf.yes rfl ?_⟩) fun _ h16 S16 m16 B16 st16 md16 s16 wt16 f16 f16'=>⟨_,rfl,PIf.no rfl ?_⟩
   ·have hF: ∀x,ff m16 x=ff m3 x∨(ff m16 x=none∧ ∃n:Nat,1≤n∧n≤99999999∧n≤st.lseg∧x=fnB nl n):=fun x=>by
     rcases f16 x with h1|⟨h1,n,n1,n9,nu,e⟩
     ·exact .inl h1
     ·exact .inr ⟨h1,n,n1,n9,by omega,e⟩
    obtain⟨d4,r4,c4,_⟩:=hdrop hF
    refine Hm (q:= {q2 with Sb:=S3,ft:=h3.size,ns:= []}) W15 B16 (md16.weak fun c _ hc=> .inl hc) (fun c hc=> .inl (s16 c hc)) fun h17 dn17 B17 md17 s17=>⟨_,rfl,?_⟩
    refine H0 h17 m16 ⟨fun hh=>hfu (st3'.calm hh),by rw[← ed];exact dn17,⟨S16,by rw[← eb];exact B17,fun c hc=>?_⟩,d16,hmod15.then (md17.weak fun c _ hc=>hk15 c hc),fun y hy=>?_,lift2 (Nat.le_trans wt16 wt3')⟩ fun G cr=>?_
    ·rcases s17 c hc with h1|h1
     ·exact hk15 c h1
     ·exact .inr (by omega)
    ·rcases f16 y with h1|⟨_,n,_,_,_,e⟩
     ·rw [h1,f3 y (Nv hy _) fun n=>ABL hy n]
     ·exact absurd e (AHy hy n)
    ·refine(hrec (Kj D3 (ff m16)) G (d4.crash cr) lt3 n3 ln3 r4 c4 fun n hn=>?_).mono (Nat.le_succ _) (Nat.le_refl _)
     have h1:=cr.some hn
     rcases f16 (tfN n) with h2|⟨_,j,_,_,_,e⟩
     ·rwa [h2,fr3 _ fun j e=>Ld j n e.symm] at h1
     ·exact absurd e.symm (Jc j n)
   ·have hF: ∀x,ff m16 x=ff m3 x∨(ff m16 x=none∧ ∃n:Nat,1≤n∧n≤99999999∧n≤st.lseg∧x=fnB nl n):=fun x=>by
     by_cases hx: ∃n:Nat,1≤n∧n≤99999999∧(n:Int)≤(st.lseg:Int)∧x=fnB nl n
     ·obtain⟨n,n1,n9,nu,rfl⟩:=hx
      exact .inr ⟨f16 n n1 n9 nu,n,n1,n9,by omega,rfl⟩
     ·exact .inl (f16' x fun n n1 n9 nu e=>hx ⟨n,n1,n9,nu,e⟩)
    obtain⟨d4,r4,c4,fr4⟩:=hdrop hF
    have W16:=W15.boxed (j:=2) (st':= {st with fr:= [],ts:=(st.next,st.fr)::st.ts,next:=st.next+1,frm:=st.lseg+1,lseg:=st.lseg+1,nseg:=st.nseg+1,lmade:=false}) B16 (md16.weak fun c _ hc=> .inl hc) (fun c hc=> .inl (s16 c hc)) rfl rfl rfl rfl (.inl ⟨by decide,rfl,rfl⟩) (.inl ⟨by decide,rfl⟩)
    have hmod16:Mod (fun c=>k c≠0) h h16:=hmod15.then (md16.weak fun c _ hc=>hk15 c (by rw[W15.kb c hc];decide))
    have hk16: ∀c,Iu k15 h15.size S16 2 c≠0→k c≠0∨h.size≤c:=fun c hc=>by
     by_cases hlt:c<h15.size
     ·rw [Ec hlt] at hc;exact hk15 c hc
     ·exact .inr (by omega)
    generalize Iu k15 h15.size S16 2=k16 at*
    have ffx: ∀x,(∀ n,x≠fnB nl n)→ff m16 x=ff m3 x:=fun x hx=>f16' x fun n _ _ _=>hx n
    have tabs4: ∀p∈(st.next,st.fr)::st.ts,(Kj D3 (ff m16)).T p.1=p.2:=fun p hp=>by
     show D3.T p.1=p.2
     rw[T3]
     rcases List.mem_cons.1 hp with rfl|hp
     ·exact Ca
     ·rw [Dk fun e=>hnotin (by rw[← e];exact List.mem_map.2 ⟨p,hp,rfl⟩)]
      exact L.tabs p hp
    have L4:Di (ff m16) {st with fr:= [],ts:=(st.next,st.fr)::st.ts,next:=st.next+1,frm:=st.lseg+1,lseg:=st.lseg+1,nseg:=st.nseg+1,lmade:=false} (Kj D3 (ff m16)):=
     ⟨d4,congrArg Nt.names ln3,tabs4,congrArg Nt.frm ln3,by rw[show Ac (Kj D3 (ff m16))=_ from ln3];exact Nat.le_refl _,fun p hp=>by
      show p.1<st.next+1
      rcases List.mem_cons.1 hp with rfl|hp
      ·exact Nat.lt_succ_self _
      ·have:=L.below p hp;omega,fr4.symm,fun n n1 n9 _=>by
      have n1:st.lseg+1≤n:=n1
      rcases hF (fnB nl n) with h1|h1
      ·rw [h1,f3 _ (Jc n _) fun j=>R3 n j]
       exact L.lout n (by omega) n9 fun _=>by omega
      ·exact h1.1,(fun h=>by cases h),fun n n1 n9=>by
      have n1:st.nseg+1≤n:=n1
      rw[ffx _ fun j e=>R3 j n e.symm];exact out3 n n1 n9,⟨by show 1≤st.lseg+1;omega,Nat.le_refl _⟩,by show 1≤st.nseg+1;omega,fun n hn=>by
      rw[ffx _ fun j e=>Jc j n e.symm,fr3 _ fun j e=>Ld j n e.symm] at hn
      by_cases e:n=st.next
      ·subst e;exact List.mem_cons_self
      ·rw [fm _ fun e'=>e (H7 e')] at hn
       exact List.mem_cons_of_mem _ (L.clean n hn)⟩
    have n4:(Kj D3 (ff m16)).ntop≤max D.ntop (st.nseg+1):=n3
    have n5:(Kj D3 (ff m16)).ltop=D.ltop:=lt3
    have lim4:Pd {st with fr:= [],ts:=(st.next,st.fr)::st.ts,next:=st.next+1,frm:=st.lseg+1,lseg:=st.lseg+1,nseg:=st.nseg+1,lmade:=false} (Kj D3 (ff m16)) (age+1) c:=
     ⟨by show st.lseg+1≤_;omega,by show st.nseg+1≤_;omega,by show st.next+1≤_;omega,by show((st.next,st.fr)::st.ts).length≤_;simp;omega,c4,by omega,by omega⟩
    have S4:BC B g h16 {q2 with Sb:=S16,ft:=h3.size,ns:= []} k16 {st with fr:= [],ts:=(st.next,st.fr)::st.ts,next:=st.next+1,frm:=st.lseg+1,lseg:=st.lseg+1,nseg:=st.nseg+1,lmade:=false} m16 (Kj D3 (ff m16)) (age+1) c:=
     ⟨W16,st16.up,L4,lim4,Nat.le_trans wt16 wt3',hc⟩
    have hmS:Bp {st with fr:= [],ts:=(st.next,st.fr)::st.ts,next:=st.next+1,frm:=st.lseg+1,lseg:=st.lseg+1,nseg:=st.nseg+1,lmade:=false}=Bp st:=by rw[← r4];exact L4.map.symm
    have st4':Gw m m16:=st3'.trans st16
    have oth4: ∀y,¬Mine y→ff m16 y=ff m y:=fun y hy=>by rw[ffx y fun n=>AHy hy n,f3 y (Nv hy _) fun n=>ABL hy n]
    refine atI (AZ.mk (s:=q2.tp) (AB W16.cell rfl) ?_)
    have htl:=W16.tabs.len
    have htl2:=W16.tlen
    have htl3:q2.tp.len=st.ts.length+1:=by
     have e1:q2.tp.len=q2.ps.length:=htl
     have e2:q2.ps.length=((st.next,st.fr)::st.ts).length:=htl2
     rw[e1,e2];rfl
    refine PIf.intro (fun hq4=>?_) (fun hq4=>?_)
    ·refine Yg (q:= {q2 with Sb:=S16,ft:=h3.size,ns:= []}) E S4 (by omega) (fun h' m' fe rc=>⟨_,rfl,?_⟩) fun h' q' k' st' m' D' e1 e2 S' sty' fr' mp' ln' oth' md' kk'=>⟨_,rfl,?_⟩
     ·rw [hmS] at rc
      obtain⟨S',B',s'⟩:=fe.box
      refine H0 h' m' ⟨fun hh=>fe.fuel (st4'.calm hh),by rw[← ed];exact fe.dn,⟨S',by rw[← eb];exact B',fun c hc=>?_⟩,fe.down,hmod16.then (fe.mod.weak fun c _ hc=>hk16 c hc),fun y hy=>(fe.oth y hy).trans (oth4 y hy),fe.wt⟩ rc
      rcases s' c hc with h1|h1
      ·exact hk16 c h1
      ·exact .inr (by have:=hmod16.size;omega)
     ·refine H1 h' q' k' st' m' D' (e1.trans ed) (e2.trans eb) S' (st4'.trans sty') fr' (mp'.trans hmS) (.inl (by omega)) (fun y hy=>(oth' y hy).trans (oth4 y hy)) (hmod16.then (md'.weak fun c _ hc=>hk16 c hc)) fun c hc=>?_
      rcases kk' c hc with h1|h1
      ·exact hk16 c h1
      ·exact .inr (by have:=hmod16.size;omega)
    ·have hlt4: ¬((q2.tp.len:Nat):Int)≥4:=of_decide_eq_false hq4
     refine H1 h16 {q2 with Sb:=S16,ft:=h3.size,ns:= []} k16 _ m16 _ ed eb (S4.age (Nat.le_succ _)) st4' rfl hmS (.inl ?_) oth4 hmod16 hk16
     show((st.next,st.fr)::st.ts).length≤3
     rw[List.length_cons];omega
 refine Join.mk fun K1 hK1=>?_
 have ndt: ∀c,q.tp.blk=some c→kk c=6:=W7.kt
 have ndx: ∀c,q.np.blk=some c→kk c=7:=W7.kx
 have fin: ∀(hh:Heap) (tp np:Sl) (N:Nat),Own PtE Au hh tp (t::q.ps)→Own Eg BL hh np ((st.next:Int)::nmS st)→Mod (fun c=>q.tp.blk=some c∨q.np.blk=some c) h7 hh→(∀ c,tp.blk=some c→(q.tp.blk=some c∨h7.size≤c)∧c<N)→(∀ c,np.blk=some c→q.np.blk=some c∨(h7.size≤c∧N≤c))→
   Store hh ((⟨q.d,0,none⟩:Addr).add 4) (.slice tp.p tp.len tp.cap) fun h23=>Store h23 ((⟨q.d,0,none⟩:Addr).add 5) (.slice np.p np.len np.cap) fun h24=>K1 () h24:=by
  intro hh tp np N ot on md htp hnp
  have hkd:kk q.d=1:=W7.kd
  have nd: ¬(q.tp.blk=some q.d∨q.np.blk=some q.d):=by
   rintro(h|h)
   ·have:=ndt _ h;rw[hkd] at this;cases this
   ·have:=ndx _ h;rw[hkd] at this;cases this
  have cd:=md.blk W7.cell nd
  have szh:=md.size
  have dlt7:q.d<h7.size:=W7.dlt
  refine Store.mk1 cd (by simp) fun h23 hb23 m23 s23=>Store.mk1 hb23 (by simp) fun h24 hb24 m24 s24=>?_
  have md24:Mod (· =q.d) hh h24:=m23.trans m24
  have ntd: ∀c,tp.blk=some c→ ¬c=q.d:=fun c hc e=>by
   rcases(htp c hc).1 with h|h
   ·exact nd (.inl (e▸h))
   ·omega
  have nxd: ∀c,np.blk=some c→ ¬c=q.d:=fun c hc e=>by
   rcases hnp c hc with h|h
   ·exact nd (.inr (e▸h))
   ·omega
  have ot24:=ot.mod md24 ntd
  have on24:=on.mod md24 nxd
  have g7:=W7.ext.size
  have W24:=W7.retab (h':=h24) (tp:=tp) (np:=np) (ps:=t::q.ps) (ts:=(st.next,st.fr)::st.ts) (next:=st.next) (frm:=st.frm) (S:=fun c=>lo≤c∧c<hi)
   (by simpa [dbC] using hb24) ((md.weak fun c _ hc=> .inr hc).trans (md24.weak fun c _ hc=> .inl hc)) ot24 on24 (by have:=W.tlen;simp[this])
   (fun c hc=>by
    obtain⟨h1,h2⟩:=htp c hc
    by_cases e:q.tp.blk=some c
    ·exact .inl e
    ·have h3:h7.size≤c:=h1.resolve_left e
     refine .inr ⟨kkb c h3,by omega,fun e2=>?_,fun h=>by omega⟩
     rcases hnp c e2 with h4|h4
     ·have:=ndx c h4;rw[kkb c h3] at this;cases this
     ·omega)
   (fun c hc=>by
    by_cases e:q.np.blk=some c
    ·exact .inl e
    ·have h3:=(hnp c hc).resolve_left e
     refine .inr ⟨kkb c h3.1,by omega,fun e2=>?_,fun h=>by omega⟩
     have:=(htp c e2).2
     omega)
   (fun c hc=>⟨by have:=W4.ext.size;omega,by have:=md24.size;omega⟩)
   (fun i t' p h1 h2=>by
    cases i with
    |zero=>
     simp only[List.getElem?_cons_zero,Option.some.injEq] at h1 h2
     subst h1 h2
     have T7:TabAt h7 t st.fr (KD st.fr) lo hi:=T5.mod m7 fun c c1 c2 hc=>by
      have h0:=kz5 c c1
      rcases hc with hc|hc
      ·have:=W5.kb c hc;rw[h0] at this;cases this
      ·have:=W5.kl;rw[← hc,h0] at this;cases this
     have Th:TabAt hh t st.fr (KD st.fr) lo hi:=T7.mod md fun c c1 c2 hc=>by
      have h0:=kkz c c1 c2
      rcases hc with hc|hc
      ·have:=ndt c hc;rw[h0] at this;cases this
      ·have:=ndx c hc;rw[h0] at this;cases this
     refine .inr ⟨lo,hi,Th.mod md24 fun c c1 c2 hc=>?_,by have:=md24.size;omega,fun c c1 c2=>⟨⟨c1,c2⟩,kkz c c1 c2⟩,T8⟩
     have h0:=kkz c c1 c2
     rw[hc,hkd] at h0;cases h0
    |succ i=>exact .inl ⟨i,by simpa using h1,by simpa using h2⟩)
  have kk24: ∀c,I6 kk h7.size tp np (fun c=>lo≤c∧c<hi) c≠0→k c≠0∨h.size≤c:=fun c hc=>by
   by_cases e:kk c=0
   ·by_cases hlt:c<h4.size
    ·exfalso
     apply hc
     unfold I6
     rw[if_neg (by simp[e]),if_neg fun e2=>?_,if_neg fun e2=>?_,if_neg (by omega)]
     ·rcases hnp c e2 with h4'|h4'
      ·have:=ndx c h4';rw[e] at this;cases this
      ·omega
     ·rcases(htp c e2).1 with h4'|h4'
      ·have:=ndt c h4';rw[e] at this;cases this
      ·omega
    ·exact .inr (by omega)
   ·exact kk0 c e
  generalize I6 kk h7.size tp np (fun c=>lo≤c∧c<hi)=k24 at*
  have mod24:Mod (fun c=>k c≠0) h h24:=(mod7.then (md.weak fun c _ hc=>kk0 c (by
   rcases hc with hc|hc
   ·rw [ndt c hc];decide
   ·rw [ndx c hc];decide))).then (md24.weak fun c _ hc=>kk0 c (by rw[hc,hkd];decide))
  refine hK1 _ _ ?_
  refine atI (Aa.mk (AB W24.cell rfl) (atI (Store.mk1 W24.cell (by simp) fun h25 hb25 m25 s25=>atI (Store.mk1 hb25 (by simp) fun h26 hb26 m26 s26=>?_))))
  have ew1:IntKind.wrap .i64 (((st.next:Nat):Int)+(1:Int))=((st.next+1:Nat):Int):=AR (by omega)
  have ew2:IntKind.wrap .i64 (((st.lseg:Nat):Int)+(1:Int))=((st.lseg+1:Nat):Int):=AR (by omega)
  have md26:Mod (· =q.d) h24 h26:=m25.trans m26
  have ntd24: ∀c,tp.blk=some c→ ¬c=q.d:=ntd
  have W26:=W24.retab (h':=h26) (tp:=tp) (np:=np) (ps:=t::q.ps) (ts:=(st.next,st.fr)::st.ts) (next:=st.next+1) (frm:=st.lseg+1) (S:=fun _=>False)
   (by rw[ew1,ew2] at hb26;simpa [dbC] using hb26) (md26.weak fun c _ hc=> .inl hc) (ot24.mod md26 ntd) (on24.mod md26 nxd) (by have:=W.tlen;simp[this]) (fun c hc=> .inl hc) (fun c hc=> .inl hc) (fun c h=>h.elim) (fun i t' p h1 h2=> .inl ⟨i,h1,h2⟩)
  have hk26: ∀c,I6 k24 h24.size tp np (fun _=>False) c≠0→k c≠0∨h.size≤c:=fun c hc=>by
   by_cases e:k24 c=0
   ·exfalso
    apply hc
    unfold I6
    rw[if_neg (by simp[e]),if_neg fun e2=>?_,if_neg fun e2=>?_,if_neg fun h=>h]
    ·have h1:k24 c=7:=W24.kx c e2
     rw[e] at h1;cases h1
    ·have h1:k24 c=6:=W24.kt c e2
     rw[e] at h1;cases h1
   ·exact kk24 c e
  exact told h26 {q with Sb:=S5,tp:=tp,np:=np,ps:=t::q.ps} _ W26 rfl rfl (mod24.then (md26.weak fun c _ hc=>kk24 c (by
   have h1:k24 q.d=1:=W24.kd
   rw[hc,h1];decide))) hk26
 have c7:=W7.cell
 have o7t:Own PtE Au h7 q.tp q.ps:=W7.tabs
 have o7n:Own Eg BL h7 q.np (nmS st):=W7.names
 have hpl:q.ps.length≤1000000:=by rw[W.tlen];omega
 have hnl:(nmS st).length≤1000000:=by simp[nmS];omega
 have tne: ∀c,q.tp.blk=some c→q.np.blk≠some c:=fun c h1 h2=>by
  have:=ndt c h1;rw[ndx c h2] at this;cases this
 have tlt7: ∀c,q.tp.blk=some c→c<h7.size:=fun c hc=>o7t.lt hc
 have xlt7: ∀c,q.np.blk=some c→c<h7.size:=fun c hc=>o7n.lt hc
 refine atI (AZ.mk (s:=q.tp) (AB c7 rfl) (atI (AZ.mk (s:=q.np) (AB c7 rfl) (atI (Aa.mk (AB c7 rfl) ?_)))))
 have cellAt: ∀ {hh:Heap},Mod (fun c=>q.tp.blk=some c∨q.np.blk=some c) h7 hh→hh[q.d]? =some (.cells (dbC {q with Sb:=S5} {st with lseg:=st.lseg+1,lmade:=false} false) Du (0,0)):=fun x=>x.blk W7.cell (by
  have hkd:kk q.d=1:=W7.kd
  rintro(h|h)
  ·have:=ndt _ h;rw[hkd] at this;cases this
  ·have:=ndx _ h;rw[hkd] at this;cases this)
 refine⟨?_,?_⟩
 ·refine New.mk fun h19 _ hb19 x19 s19=>⟨AB (cellAt (Ext.mod x19)) rfl,AB (cellAt (Ext.mod x19)) rfl,AB (cellAt (Ext.mod x19)) rfl,?_,?_⟩
  ·refine ACy (o7t.ext x19) hb19 (fun e=>by have:=tlt7 _ e;omega) hpl fun s20 h20 o20 m20 b20=>⟨_,rfl,?_⟩
   have md20:Mod (fun c=>q.tp.blk=some c∨q.np.blk=some c) h7 h20:=(Ext.mod x19).trans (m20.weak fun c _ hc=> .inl hc)
   refine⟨AB (cellAt md20) rfl,AB (cellAt md20) rfl,New.mk fun h21 _ hb21 x21 s21=>⟨AB (cellAt (md20.trans (Ext.mod x21))) rfl,AB (cellAt (md20.trans (Ext.mod x21))) rfl,?_⟩⟩
   have on21:Own Eg BL h21 q.np (nmS st):=(((o7n.ext x19).mod m20 fun c hc e=>tne c e hc)).ext x21
   refine ACR on21 hb21 (fun e=>by have:=xlt7 _ e;have:=md20.size;omega) hnl fun s22 h22 o22 m22 b22=>⟨_,rfl,?_⟩
   have sz20:=md20.size
   have blt: ∀c,s20.blk=some c→c<h20.size:=fun c hc=>o20.lt hc
   refine fin h22 s20 s22 h20.size (((o20.ext x21)).mod m22 fun c hc e=>?_) o22 ((md20.trans (Ext.mod x21)).trans (m22.weak fun c _ hc=> .inr hc)) (fun c hc=>⟨(b20 c hc).imp id fun h=>by omega,blt c hc⟩) fun c hc=>(b22 c hc).imp id fun h=>⟨by omega,by omega⟩
   rcases b20 c hc with h1|h1
   ·exact tne c h1 e
   ·have:=xlt7 c e;omega
  ·refine New.mk fun h25 _ hb25 x25 s25=>?_
   have x725:=x19.trans x25
   refine⟨AB (cellAt (Ext.mod x725)) rfl,AB (cellAt (Ext.mod x725)) rfl,?_⟩
   refine ACy (o7t.ext x725) (x25.blk hb19 fun h=>h) (fun e=>by have:=tlt7 _ e;omega) hpl fun s20 h20 o20 m20 b20=>⟨_,rfl,?_⟩
   have md20:Mod (fun c=>q.tp.blk=some c∨q.np.blk=some c) h7 h20:=(Ext.mod x725).trans (m20.weak fun c _ hc=> .inl hc)
   refine⟨AB (cellAt md20) rfl,AB (cellAt md20) rfl,?_⟩
   have sz20:=md20.size
   have on21:Own Eg BL h20 q.np (nmS st):=(o7n.ext x725).mod m20 fun c hc e=>tne c e hc
   have hb26:h20[h19.size]? =some (.cells #[.int .i64 (st.next:Int)] BL (0,0)):=m20.blk hb25 (fun e=>by have:=tlt7 _ e;omega)
   refine ACR on21 hb26 (fun e=>by have:=xlt7 _ e;omega) hnl fun s22 h22 o22 m22 b22=>⟨_,rfl,?_⟩
   have blt: ∀c,s20.blk=some c→c<h20.size:=fun c hc=>o20.lt hc
   refine fin h22 s20 s22 h20.size (o20.mod m22 fun c hc e=>?_) o22 (md20.trans (m22.weak fun c _ hc=> .inr hc)) (fun c hc=>⟨(b20 c hc).imp id fun h=>by omega,blt c hc⟩) fun c hc=>(b22 c hc).imp id fun h=>⟨by omega,by omega⟩
   rcases b20 c hc with h1|h1
   ·exact tne c h1 e
   ·have:=xlt7 c e;omega
 ·refine New.mk fun h30 _ hb30 x30 s30=>⟨AB (cellAt (Ext.mod x30)) rfl,AB (cellAt (Ext.mod x30)) rfl,New.mk fun h31 _ hb31 x31 s31=>?_⟩
  have x731:=x30.trans x31
  refine⟨AB (cellAt (Ext.mod x731)) rfl,AB (cellAt (Ext.mod x731)) rfl,AB (cellAt (Ext.mod x731)) rfl,?_⟩
  refine ACy (o7t.ext x731) hb31 (fun e=>by have:=tlt7 _ e;omega) hpl fun s20 h20 o20 m20 b20=>⟨_,rfl,?_⟩
  have md20:Mod (fun c=>q.tp.blk=some c∨q.np.blk=some c) h7 h20:=(Ext.mod x731).trans (m20.weak fun c _ hc=> .inl hc)
  refine⟨AB (cellAt md20) rfl,AB (cellAt md20) rfl,?_⟩
  have sz20:=md20.size
  have on21:Own Eg BL h20 q.np (nmS st):=(o7n.ext x731).mod m20 fun c hc e=>tne c e hc
  have hb32:h20[h7.size]? =some (.cells #[.int .i64 (st.next:Int)] BL (0,0)):=m20.blk (x31.blk hb30 fun h=>h) (fun e=>by have:=tlt7 _ e;omega)
  refine ACR on21 hb32 (fun e=>by have:=xlt7 _ e;omega) hnl fun s22 h22 o22 m22 b22=>⟨_,rfl,?_⟩
  have blt: ∀c,s20.blk=some c→c<h20.size:=fun c hc=>o20.lt hc
  refine fin h22 s20 s22 h20.size (o20.mod m22 fun c hc e=>?_) o22 (md20.trans (m22.weak fun c _ hc=> .inr hc)) (fun c hc=>⟨(b20 c hc).imp id fun h=>by omega,blt c hc⟩) fun c hc=>(b22 c hc).imp id fun h=>⟨by omega,by omega⟩
  rcases b20 c hc with h1|h1
  ·exact tne c h1 e
  ·have:=xlt7 c e;omega
end
end Go.Lf.G

/-
 Contract: a batch is written (chapter 9).
-/
set_option maxRecDepth 100000
set_option linter.unusedVariables false
set_option linter.unusedSimpArgs false
namespace Go.Lf.G
open Go
open M (Sorted Ag DR BJ Ai BD CV Ap OkL Ba)
def EZ:List Pr→Int
 | []=>0
 |x::l=>if Ap x≠0 then Ap x else EZ l
def CQ(l:List Pr):Int:=if l.length=0 then 1 else if l.length>64 then 2 else EZ l
theorem X8: ∀ {l:List Pr},EZ l=0→CV l
 | [],_=>AFU
 |x::l,h=>by
  unfold EZ at h
  split at h
  ·rename_i h1;exact absurd h h1
  ·rename_i h1
   intro y hy
   rcases List.mem_cons.1 hy with rfl|hy
   ·exact Decidable.not_not.1 h1
   ·exact X8 h y hy
theorem RN {l:List Pr}(h:CQ l=0):VG l∧CV l∧l≠ []:=by
 unfold CQ at h
 split at h
 ·cases h
 ·rename_i h1
  split at h
  ·cases h
  ·rename_i h2
   have:=X8 h
   exact⟨⟨by omega,fun x hx=>AHL (this x hx)⟩,this,fun e=>h1 (by rw[e];rfl)⟩
theorem UR {l:List Pr}{i:Nat}{x:Pr}(hx:l[i]? =some x)(h:EZ (l.take i)=0):EZ l=if Ap x≠0 then Ap x else EZ l:=by
 split
 ·rename_i hw
  induction l generalizing i with
  |nil=>simp at hx
  |cons y l ih=>
   cases i with
   |zero=>
    simp at hx;subst hx
    unfold EZ;rw[if_pos hw]
   |succ i=>
    have h0:EZ (y::l.take i)=0:=h
    unfold EZ at h0 ⊢
    split at h0
    ·rename_i h1;exact absurd h0 h1
    ·rename_i h1
     rw[if_neg h1]
     exact ih (by simpa using hx) h0
 ·rfl
theorem P5: ∀ {l:List Pr} {x:Pr},EZ l=0→Ap x=0→EZ (l++ [x])=0
 | [],x,_,h=>by show EZ [x]=0;unfold EZ;rw[if_neg (by simp[h])];rfl
 |y::l,x,h,hx=>by
  have h0:EZ (y::l)=0:=h
  show EZ (y::(l++ [x]))=0
  unfold EZ at h0 ⊢
  split at h0
  ·rename_i h1;exact absurd h0 h1
  ·rename_i h1
   rw[if_neg h1]
   exact P5 h0 hx
theorem ZY {A:Amb}{h:Heap}{s:Sl}{l:List Pr}{R:Value→Heap→Prop}(v:View Ak h s l)(H: ∀h',Ext h h'→R (.int .i64 (CQ l)) h'):AA A P KM #[.slice s.p s.len s.cap] h R:=by
 refine ADQ ?_
 unfold Pq
 rw[v.len]
 refine PIf.intro (fun hq=>?_) (fun hq=>?_)
 ·have h0:l.length=0:=by have:((l.length:Nat):Int)=0:=(by simpa using hq);omega
  have:=H h Mod.refl
  unfold CQ at this
  rwa [if_pos h0] at this
 have h0:l.length≠0:=fun e=>by rw[e] at hq;cases hq
 refine PIf.intro (fun hq=>?_) (fun hq=>?_)
 ·have h1:l.length>64:=by have:=of_decide_eq_true hq;omega
  have:=H h Mod.refl
  unfold CQ at this
  rwa [if_neg h0,if_pos h1] at this
 have h1: ¬l.length>64:=by have:=of_decide_eq_false hq;omega
 have hck:CQ l=EZ l:=by unfold CQ;rw[if_neg h0,if_neg h1]
 rw[hck] at H
 refine Loop.rule (fun mm x hh=> ∃i:Nat,x=((i:Int),())∧mm=l.length-i∧i≤l.length∧Ext h hh∧EZ (l.take i)=0) ?_ ⟨0,rfl,rfl,by omega,Mod.refl,rfl⟩
 rintro K mm _ hh ⟨i,rfl,rfl,hi,xx,hw⟩ hK
 dsimp only
 refine PIf.intro (fun hq=>?_) (fun hq=>?_)
 ·have hil:i<l.length:=by have:=of_decide_eq_true hq;omega
  have hget:l[i]? =some l[i]:=List.getElem?_eq_getElem hil
  rw[← v.len]
  refine(v.ext xx).idx hget fun a _ c=>?_
  obtain⟨c0,c1,c2⟩:=c.pair
  refine AL.mk c0 (AL.mk c1 (Ab.mk c2 (New.pair fun b h5 _ hb5 x5 s5=>?_)))
  have x05:=xx.trans x5
  generalize l[i]=p at*
  have hsp:=UR hget hw
  refine Join.mk fun K1 hK1=>?_
  have bad1:Ap p=1→ ∀hh,Ext h hh→R (.int .i64 1) hh:=fun e hh x=>by
   have:=H hh x
   rw[hsp,if_pos (by rw[e];decide),e] at this
   exact this
  have bad2:Ap p=2→ ∀hh,Ext h hh→R (.int .i64 2) hh:=fun e hh x=>by
   have:=H hh x
   rw[hsp,if_pos (by rw[e];decide),e] at this
   exact this
  have ewp:Ap p=if(decide (p.key=⟨#[]⟩)||(p.gone&& !decide (p.val=⟨#[]⟩))) then 1 else if(decide (p.key.size>64)||decide (p.val.size>8192)) then 2 else 0:=rfl
  have go1:(decide (p.key=⟨#[]⟩)||(p.gone&& !decide (p.val=⟨#[]⟩)))=true→K1 (true,()) h5:=fun e=>hK1 _ _ (PIf.yes rfl (bad1 (by rw[ewp,if_pos e]) h5 x05))
  have go0:(decide (p.key=⟨#[]⟩)||(p.gone&& !decide (p.val=⟨#[]⟩)))=false→K1 (false,()) h5:=fun e=>hK1 _ _ (PIf.no rfl (by
   refine Join.mk fun K2 hK2=>?_
   have fin2:(decide (p.key.size>64)||decide (p.val.size>8192))=true→K2 (true,()) h5:=fun e2=>hK2 _ _ (PIf.yes rfl (bad2 (by rw[ewp,if_neg (by rw[e];decide),if_pos e2]) h5 x05))
   have fin0:(decide (p.key.size>64)||decide (p.val.size>8192))=false→K2 (false,()) h5:=fun e2=>hK2 _ _ (PIf.no rfl (by
    have hg:Ap p=0:=by rw[ewp,if_neg (by rw[e];decide),if_neg (by rw[e2];decide)]
    rw[AR (by omega)]
    refine hK (l.length-(i+1)) _ _ (by omega) ⟨i+1,rfl,rfl,hil,x05,?_⟩
    rw[List.take_add_one,hget]
    exact P5 hw hg))
   refine AL.mk (AC hb5 rfl) (PIf.intro (fun q1=>?_) (fun q1=>?_))
   ·have h64:p.key.size>64:=by have:=of_decide_eq_true q1;omega
    exact fin2 (by simp[h64])
   ·have h64: ¬p.key.size>64:=by have:=of_decide_eq_false q1;omega
    refine AL.mk (AB hb5 rfl) ?_
    by_cases h8:p.val.size>8192
    ·rw [decide_eq_true (show((p.val.size:Int)>(8192:Int)) by omega)]
     exact fin2 (by simp[h8])
    ·rw [decide_eq_false (show ¬((p.val.size:Int)>(8192:Int)) by omega)]
     exact fin0 (by simp[h8];omega)))
  refine AL.mk (AC hb5 rfl) ?_
  rw[BZ]
  refine PIf.intro (fun q1=>?_) (fun q1=>?_)
  ·exact go1 (by rw[q1];rfl)
  ·refine Ab.mk (AB hb5 rfl) (PIf.intro (fun q2=>?_) (fun q2=>?_))
   ·refine AL.mk (AB hb5 rfl) ?_
    rw[BZ]
    cases q3:decide (p.val=(⟨#[]⟩:ByteArray)) with
    |true=>exact go0 (by rw[q1,q2,q3];rfl)
    |false=>exact go1 (by rw[q1,q2,q3];rfl)
   ·exact go0 (by rw[q1,q2];rfl)
 ·have hil:i=l.length:=by have:=of_decide_eq_false hq;omega
  subst hil
  rw[List.take_length] at hw
  have:=H hh xx
  rwa [hw] at this
end Go.Lf.G

/-
 Contract: a batch is written (chapter 9).
-/
set_option maxRecDepth 100000
set_option linter.unusedVariables false
set_option linter.unusedSimpArgs false
namespace Go.Lf.G
open Go
open M (Sorted Ag DR BJ Ai BD CV Ap OkL Ba)
theorem ABi {F:Fls}{D:BO}(h:Ar F D){s:Nat}(hs:s≤99999999){b:List Pr}(hb:VG b): ∀r∈(D.L s).map (A8 s)++ [A8 s b],r.length≤1048576:=fun r hr=>by
 rcases List.mem_append.1 hr with hr|hr
 ·obtain⟨c,hc,rfl⟩:=List.mem_map.1 hr
  have:=WM hs (h.bat s c hc);omega
 ·rw [List.mem_singleton.1 hr]
  have:=WM hs hb;omega
theorem AGE(rs:List (List UInt8))(r:List UInt8):wraps (rs++ [r])=wraps rs++CE r:=by simp
theorem AGh {F F1:Fls}{D:BO}{s:Nat}{b:List Pr}(h:Ar F D)(hs:1≤s∧s+1≤99999999)(hb:VG b)(hF1: ∀y,F1 y=if y=fnB nl s then some (AY (wraps ((D.L s).map (A8 s)++ [A8 s b])),bs0) else F y):Ar F1 (Pm D s b):=by
 refine ALA h hs hb (fun n _ _ hne=> .inl ?_) (fun n _ _=> .inl ?_) (fun n=> .inl ?_) (fun y h1 hy=>?_) ⟨_,by rw[hF1,if_pos rfl],?_⟩
 ·rw [hF1,if_neg fun e=>hne (GZ e)]
 ·rw [hF1,if_neg fun e=>R3 s n e.symm]
 ·rw [hF1,if_neg fun e=>Jc s n e.symm]
 ·rw [hF1,if_neg (h1 s)] at hy;exact hy
 ·rw [IU,List.map_append]
  have:=O0 (rs:=(D.L s).map (A8 s)++ [A8 s b]) (ABi h (by omega) hb) (t:= []) Qr
  rw[List.append_nil] at this
  exact this
theorem AGP {F F1 G:Fls}{D:BO}{s:Nat}{b:List Pr}(h:Ar F D)(hs:1≤s∧s+1≤99999999)(hb:VG b)(hF1: ∀y,F1 y=if y=fnB nl s then some (AY (wraps ((D.L s).map (A8 s))),AY (CE (A8 s b))) else F y)(c:Hd F1 G):
  Ar G {D with ltop:=max D.ltop (s+1)}∨Ar G (Pm D s b):=by
 have kl: ∀n,1≤n→n≤99999999→n≠s→Kk (F (fnB nl n)) (G (fnB nl n)):=fun n n1 n9 hne=>by
  have e:F1 (fnB nl n)=F (fnB nl n):=by rw[hF1,if_neg fun e=>hne (GZ e)]
  have:=c.firm (x:=fnB nl n) fun p hp=>(h.log.has n p n1 n9 (e▸hp)).1
  rwa [e] at this
 have kn: ∀n,1≤n→n≤99999999→Kk (F (fnB nn n)) (G (fnB nn n)):=fun n n1 n9=>by
  have e:F1 (fnB nn n)=F (fnB nn n):=by rw[hF1,if_neg fun e=>R3 s n e.symm]
  have:=c.firm (x:=fnB nn n) fun p hp=>(h.note.has n p n1 n9 (e▸hp)).1
  rwa [e] at this
 have ft: ∀n,F1 (tfN n)=F (tfN n):=fun n=>by rw[hF1,if_neg fun e=>Jc s n e.symm]
 have ktn: ∀n∈(Ac D).names,G (tfN n)=some (AY (Hq (D.T n)),bs0)∧FR (D.T n):=fun n hm=>by
  obtain⟨h1,h2⟩:=h.tab n hm
  have:=c.firm (x:=tfN n) fun p hp=>by rw[ft,h1] at hp;cases hp;rfl
  rw[ft] at this
  exact⟨Q5 this h2 h1,h2⟩
 have ko: ∀y,(∀ n,y≠fnB nl n)→G y≠none→F y≠none:=fun y hy hg hf=>hg (by
  have:=c y
  rw[hF1,if_neg (hy s),hf] at this
  exact this)
 have hc:=c (fnB nl s)
 rw[hF1,if_pos rfl] at hc
 obtain⟨j,hj⟩:=hc
 have tr:=AHm (rs:=(D.L s).map (A8 s)) (r:=A8 s b) (ABi h (by omega) hb) j
 have old:(G (fnB nl s)=none∧(D.L s).map (A8 s)= []∨ ∃y,G (fnB nl s)=some (y,bs0)∧KY (bl y) ((D.L s).map (A8 s)))→Ar G {D with ltop:=max D.ltop (s+1)}:=fun hv=>by
  refine⟨?_,h.note.keep h.tops.2.2.1 kn,ktn,h.bat,h.nts,fun y hy hd=>h.tonly y (ko y (fun n e=>by rw[e,OI] at hd;cases hd) hy) hd,by have:=h.tops;refine⟨?_,?_,this.2.2.1,this.2.2.2⟩<;>simp only[]<;>omega⟩
  have:=h.log.put (G:=G) (top':=max D.ltop (s+1)) (s:=s) (v:=(D.L s).map (A8 s)) ⟨hs.1,by omega⟩ (by omega) (fun n n1 n9 hne=>kl n n1 n9 hne) hv (by omega)
  have e:(Ij (fun n=>(D.L n).map (A8 n)) s ((D.L s).map (A8 s)))=fun n=>(D.L n).map (A8 n):=by
   funext n
   by_cases e:n=s
   ·subst e;rw[Ca]
   ·rw [Dk e]
  rw[e] at this
  exact this
 split at hj
 ·rename_i he
  left
  refine old (.inl ⟨hj,?_⟩)
  rw[he] at tr
  have hn: ∀rs,KY (bl bs0) rs→rs= []:=fun rs hr=>Yo hr
  rcases tr with tr|tr
  ·exact hn _ tr
  ·have:=hn _ tr
   simp at this
 ·rcases tr with tr|tr
  ·exact .inl (old (.inr ⟨_,hj,tr⟩))
  ·right
   have e9:(D.L s++ [b]).map (A8 s)=(D.L s).map (A8 s)++ [A8 s b]:=by rw[List.map_append];rfl
   refine⟨?_,h.note.keep h.tops.2.2.1 kn,ktn,fun n x hx=>?_,h.nts,fun y hy hd=>h.tonly y (ko y (fun n e=>by rw[e,OI] at hd;cases hd) hy) hd,by have:=h.tops;refine⟨?_,?_,this.2.2.1,this.2.2.2⟩<;>simp only[Pm]<;>omega⟩
   ·have:=h.log.put (G:=G) (top':=max D.ltop (s+1)) (s:=s) (v:=(D.L s++ [b]).map (A8 s)) ⟨hs.1,by omega⟩ (by omega) (fun n n1 n9 hne=>kl n n1 n9 hne) (.inr ⟨_,hj,by rw[e9];exact tr⟩) (by omega)
    have e:(Ij (fun n=>(D.L n).map (A8 n)) s ((D.L s++ [b]).map (A8 s)))=fun n=>((Pm D s b).L n).map (A8 n):=by
     funext n
     show _=(Ij D.L s (D.L s++ [b]) n).map (A8 n)
     by_cases e:n=s
     ·subst e;rw[Ca,Ca]
     ·rw [Dk e,Dk e]
    rw[e] at this
    exact this
   ·by_cases e:n=s
    ·have hx:x∈Ij D.L s (D.L s++ [b]) n:=hx
     rw[e,Ca] at hx
     rcases List.mem_append.1 hx with hx|hx
     ·exact h.bat s x hx
     ·rw [List.mem_singleton.1 hx];exact hb
    ·have hx:x∈Ij D.L s (D.L s++ [b]) n:=hx
     rw[Dk e] at hx
     exact h.bat n x hx
theorem AMc {F:Fls}{D:BO}(h:Ar F D){t:Nat}(ht:D.ltop≤t):F3 {D with ltop:=t}=F3 D:=by
 unfold F3
 exact Qp ht fun n h1 _=>by
  show(if n<(Ac D).frm then [] else D.L n)= []
  split
  ·rfl
  ·exact h.farL (.inr h1)
section
variable {A : Amb} {B : Bud} {g h : Heap} {q : Hp} {k : Nat → Nat} {st : Db} {m : Bx} {D : BO} {age c : Nat} {R : Value → Heap → Prop}
theorem AM0(W:DbH g h q k st m)(H:R (.int .i64 (st.lseg:Int)) h):AA A P Et #[Aq q.lg] h R:=by
 refine Lb ?_
 unfold GY
 exact PIf.no rfl (atI (Aa.mk (AB W.log rfl) H))
theorem AFd(C:Nat):600000≤20000*C+10000000:=by omega
theorem Bud.up(B:Bud){w a:Nat}{b:Nat}(hab:a≤b)(h:w≤B.W0+a*B.K):w≤B.W0+b*B.K:=Nat.le_trans h (Nat.add_le_add_left (Nat.mul_le_mul_right _ hab) _)
structure Wrote (st st':Db) (l:List Pr):Prop where
 map:Bp st'=wrL (Bp st) l
 full:4096≤M.DT (BJ st.fr l)→st'.fr= []∧(st'.ts.length≤3∨st'.ts.length=st.ts.length)
 less:M.DT (BJ st.fr l)<4096→st'.fr=BJ st.fr l∧st'.ts=st.ts
theorem Yu {s:Sl}{l:List Pr}(E:Evn g)(S:BC B g h q k st m D age c)(hA:age+3≤B.A)(hv:View Ak h s l)(hs:l≠ []→ ∀b,s.blk=some b→b<h.size∧k b=0)(hC:CQ l=0→c+l.length≤B.C)
  (He:CQ l≠0→ ∀h',Ext h h'→R (.int .i64 (CQ l)) h')
  (H0:CQ l=0→ ∀h' m',AIg B h h' q k m m' (age+3)→(∀ G,Hd (ff m') G→Rec G (age+3) (c+l.length) (Bp st)∨Rec G (age+3) (c+l.length) (wrL (Bp st) l))→R (.int .i64 30) h')
  (H2:CQ l=0→ ∀h' m',AIg B h h' q k m m' (age+3)→ZW (ff m') (age+3) (c+l.length) (wrL (Bp st) l)→R (.int .i64 0) h')
  (H1:CQ l=0→ ∀h' q' k' st' m' D',q'.d=q.d→q'.b=q.b→BC B g h' q' k' st' m' D' (age+3) (c+l.length)→Gw m m'→Wrote st st' l→(∀ y,¬Mine y→ff m' y=ff m y)→Mod (fun c=>k c≠0) h h'→(∀ c,k' c≠0→k c≠0∨h.size≤c)→R (.int .i64 0) h'):
  AA A P FO #[Aq q.d,.slice s.p s.len s.cap] h R:=by
 obtain⟨W,hd,L,lm,hw,hc⟩:=S
 have hBA:=B.hA
 have hBC:=B.hC
 have hW8:=B.wt (a:=age) (by omega)
 have hlseg:=lm.lseg
 have hlfrm:=L.lfrm
 have hltop:=lm.ltop
 refine PN ?_
 unfold JB
 refine Join.mk fun K hK=>UW W (hK _ _ (PIf.no rfl ?_))
 refine ZY hv fun h2 x2=>⟨_,rfl,?_⟩
 refine PIf.intro (fun hq=>He (by simpa using hq) h2 x2) (fun hq=>?_)
 have hck:CQ l=0:=by simpa using hq
 obtain⟨hb,hg,hne⟩:=RN hck
 replace hs:=hs hne
 replace hC:=hC hck
 have W2:=W.on x2
 refine atI (AP.mk (AB W2.cell rfl) (atI (AP.mk (AB W2.cell rfl) ?_)))
 refine AM0 W2 ⟨_,rfl,⟨AB W2.cell rfl,?_⟩⟩
 refine AJM (by omega) hb.len hb.ok (hv.ext x2) (fun b hb=>by have:=(hs b hb).1;have:=x2.size;omega) fun h4 x4=>⟨_,rfl,⟨AB (W2.on x4).cell rfl,?_⟩⟩
 have W4:=W2.on x4
 have x04:=x2.trans x4
 have sz04:=x04.size
 have bl1:=WM (s:=st.lseg) (by omega) hb
 have eb:(AY (A8 st.lseg l)).size=(A8 st.lseg l).length:=AQ _
 refine SI (W4.evn E) W4.log W4.box W4.nSl (fun h' x=>W4.evnB E (x.weak fun c _ hc=> .inl hc)) (by decide) (by omega) (by rw[eb];omega) (Nat.le_trans hw hW8) fun h5 S5 B5 L5 m5 s5=>⟨_,rfl,?_⟩
 rw[show bl (AY (A8 st.lseg l))=A8 st.lseg l from IU _] at B5 L5 ⊢
 have wt5:=RA W.box.good (fnB nl st.lseg) (AY (CE (A8 st.lseg l)))
 have wl:=(GH (r:=A8 st.lseg l) (by omega)).2
 rw[AQ] at wt5
 have sub5: ∀c,S5 c→q.Sb c∨h4.size≤c:=fun c hc=>(s5 c hc).imp id fun h=>h.1
 have hLcur:((ff m (fnB nl st.lseg)).getD (bs0,bs0))=(AY (wraps ((D.L st.lseg).map (A8 st.lseg))),bs0):=by
  cases hm:st.lmade with
  |true=>rw[L.lcur hm];rfl
  |false=>
   have hf:=L.lout st.lseg (Nat.le_refl _) (by omega) (by rw[hm];simp)
   rw[hf,L.ok.nonL (by omega) hf];rfl
 have hnoL: ∀n,st.lseg<n→D.L n= []:=fun n hn=>L.noL lm (by omega) hn
 have hsL:1≤st.lseg∧st.lseg+1≤99999999:=⟨by omega,by omega⟩
 have hfrmD:(Ac D).frm≤st.lseg:=by rw[L.frm];exact L.lfrm.2
 obtain⟨amap,am2⟩:=AKN L.ok hfrmD hnoL hb
 have abats:=ABE L.ok (b:=l) hfrmD hnoL
 have acnt:KC (Pm D st.lseg l)=KC D+l.length:=by
  unfold KC
  rw[abats,List.flatten_append,List.length_append]
  have:(Ac (Pm D st.lseg l)).names.map (fun n=>((Pm D st.lseg l).T n).length)=(Ac D).names.map fun n=>(D.T n).length:=rfl
  rw[this];simp;omega
 have ht: ∀ {F':Fls},(∀ n,F' (tfN n)≠none→ff m (tfN n)≠none)→ ∀n,F' (tfN n)≠none→n<8*age+8:=fun hF n hn=>by
  have:=L.tlt lm (hF n hn)
  have:=lm.next;omega
 have up3: ∀ {w:Nat},w≤B.W0+(age+1)*B.K→w≤B.W0+(age+3)*B.K:=fun h=>B.up (by omega) h
 rcases OY (k:=fnB nl st.lseg) (d:=AY (CE (A8 st.lseg l))) hd (ADY (by decide) (by omega)) with⟨hf0,e5⟩|⟨e5,st5,f5⟩
 ·rw [e5] at B5 ⊢
  refine PIf.yes rfl ?_
  refine Hm W4 B5 (m5.weak fun c _ hc=>hc.imp id .inl) sub5 fun h6 dn6 B6 md6 s6=>⟨_,rfl,?_⟩
  refine H0 hck h6 (JU m) ⟨by rw[hf0];decide,dn6,⟨S5,B6,fun c hc=>(s6 c hc).imp id fun h=>by omega⟩,rfl,(Ext.mod x04).trans md6,fun _ _=>rfl,B.up (by omega) hw⟩ fun G cr=> .inl ?_
  exact(L.recS lm G cr).mono (by omega) (by omega)
 rw[e5] at L5 ⊢
 refine PIf.no rfl ?_
 rw[decide_eq_true rfl,Bool.or_true] at L5
 generalize (Cm m (fnB nl st.lseg) (AY (CE (A8 st.lseg l)))).2=ma at*
 have f5': ∀y,ff ma y=if y=fnB nl st.lseg then some (AY (wraps ((D.L st.lseg).map (A8 st.lseg))),AY (CE (A8 st.lseg l))) else ff m y:=fun y=>by
  rw[f5,hLcur];simp only[OO]
 have nS5: ¬S5 q.lg:=fun hc=>by
  rcases s5 _ hc with h|h
  ·exact W4.nSl h
  ·exact h.2 rfl
 have W5:=W4.boxed (j:=3) (st':= {st with lmade:=true}) B5 (m5.weak fun c _ hc=>hc.imp id fun h=> .inl ⟨rfl,h⟩) sub5 rfl rfl rfl rfl (.inr L5) (.inl ⟨by decide,rfl⟩)
 have gr5:Grow k (Iu k h4.size S5 2) h4.size:=Zt
 have kz5: ∀c,Iu k h4.size S5 2 c≠0→k c≠0∨h.size≤c:=fun c hc=>by
  by_cases hlt:c<h4.size
  ·rw [gr5 c hlt] at hc;exact .inl hc
  ·exact .inr (by omega)
 generalize Iu k h4.size S5 2=k5 at*
 have mod5:Mod (fun c=>k c≠0) h h5:=(Ext.mod x04).trans (m5.weak fun c _ hc=>by
  rcases hc with hc|hc
  ·rw [W.kb c hc];decide
  ·rw [hc,W.kl];decide)
 refine atI (AP.mk (AB W5.cell rfl) ?_)
 refine Yz (W5.evn E) W5.log W5.box W5.nSl (by decide) (by show st.lseg≤_;omega) fun h7 B7 L7 m7=>⟨_,rfl,?_⟩
 have fk:ff ma (fnB nl st.lseg)=some (AY (wraps ((D.L st.lseg).map (A8 st.lseg))),AY (CE (A8 st.lseg l))):=by rw[f5',if_pos rfl]
 have B7:BU h7 q.b S5 (Eu ma (fnB nl st.lseg)).2:=B7
 have wt7:=VC W5.box.good (fnB nl st.lseg)
 have wta:wtF ma.files≤B.W0+(age+1)*B.K:=B.step (d:=600000) hw (by omega) (AFd B.C)
 show PIf ((Eu ma (fnB nl st.lseg)).1 != 0) _ _
 rcases Ll st5.up fk with⟨hf0,e7⟩|⟨e7,st7,f7⟩
 ·rw [e7] at B7
  have e7':JZ ma (fnB nl st.lseg) true=(30,JU ma):=e7
  rw[e7]
  refine PIf.yes rfl ?_
  show AA A P Bj #[_,.int .i64 (JZ ma (fnB nl st.lseg) true).1] h7 _
  rw[e7']
  refine Hm (q:= {q with Sb:=S5}) W5 B7 (m7.weak fun c _ hc=> .inl hc) (fun c hc=> .inl hc) fun h8 dn8 B8 md8 s8=>⟨_,rfl,?_⟩
  refine H0 hck h8 (JU ma) ⟨(fun hh=>by have:=st5.calm hh;rw[hf0] at this;cases this),dn8,⟨S5,B8,fun c hc=>?_⟩,rfl,mod5.then (md8.weak fun c _ hc=>kz5 c hc),fun y hy=>?_,up3 wta⟩ fun G cr=>?_
  ·rcases s8 c hc with h1|h1
   ·exact kz5 c h1
   ·exact .inr (by have:=mod5.size;omega)
  ·rw [ADa,f5',if_neg (AHy hy _)]
  ·have hFt: ∀n,G (tfN n)≠none→ff m (tfN n)≠none:=fun n hn=>by
    have h1:ff ma (tfN n)≠none:=cr.some hn
    rwa [f5',if_neg fun e=>Jc _ n e.symm] at h1
   have rl:=L.rlim lm (F':=G) (ht hFt)
   rcases AGP L.ok hsL hb (F1:=ff (JU ma)) f5' cr with d1|d1
   ·left
    have eb:=AMc L.ok (t:=max D.ltop (st.lseg+1)) (by omega)
    have em:mapD {D with ltop:=max D.ltop (st.lseg+1)}=mapD D:=by unfold mapD DK;rw[eb];rfl
    have ec:KC {D with ltop:=max D.ltop (st.lseg+1)}=KC D:=by unfold KC;rw[eb];rfl
    refine⟨_,d1,⟨by show max D.ltop (st.lseg+1)≤_;omega,by have:=rl.ntop;show D.ntop≤_;omega,by have:=rl.next;show(Ac D).next≤_;omega,by have:=rl.frm;show(Ac D).frm≤_;omega,by have:=rl.cnt;show(Ac D).names.length≤_;omega,by rw[ec];have:=rl.prs;omega,fun n hn=>by have:=rl.tfs n hn;omega⟩,by rw[em];exact L.map⟩
   ·right
    refine⟨_,d1,⟨by show max D.ltop (st.lseg+1)≤_;omega,by have:=rl.ntop;show D.ntop≤_;omega,by have:=rl.next;show(Ac D).next≤_;omega,by have:=rl.frm;show(Ac D).frm≤_;omega,by have:=rl.cnt;show(Ac D).names.length≤_;omega,by rw[acnt];have:=rl.prs;omega,fun n hn=>by have:=rl.tfs n hn;omega⟩,by rw[am2,L.map]⟩
 rw[e7]
 refine PIf.no rfl ?_
 generalize (Eu ma (fnB nl st.lseg)).2=mb at*
 have f7': ∀y,ff mb y=if y=fnB nl st.lseg then some (AY (wraps ((D.L st.lseg).map (A8 st.lseg)++ [A8 st.lseg l])),bs0) else ff m y:=fun y=>by
  rw[f7]
  by_cases hy:y=fnB nl st.lseg
  ·rw [if_pos hy,if_pos hy]
   simp only[CF,AGE]
  ·rw [if_neg hy,if_neg hy,f5',if_neg hy]
 have D7:=AGh L.ok hsL hb f7'
 have W7:=W5.boxed (j:=2) (st':= {st with lmade:=true}) B7 (m7.weak fun c _ hc=> .inl hc) (fun c hc=> .inl hc) rfl rfl rfl rfl (.inl ⟨by decide,rfl,rfl⟩) (.inl ⟨by decide,rfl⟩)
 have mod7:Mod (fun c=>k c≠0) h h7:=mod5.then (m7.weak fun c _ hc=>kz5 c (by rw[W5.kb c hc];decide))
 have k7: ∀c,Iu k5 h5.size S5 2 c≠0→k c≠0∨h.size≤c:=fun c hc=>by
  by_cases hlt:c<h5.size
  ·rw [Ec hlt] at hc;exact kz5 c hc
  ·exact .inr (by have:=mod5.size;omega)
 generalize Iu k5 h5.size S5 2=kk at*
 have sty:Gw m mb:=st5.trans st7
 have hfl:=L.frlen lm
 have hlen64:=hb.len
 refine Loop.rule (fun mm x hh=> ∃(i:Nat) (nsi:List M.CX) (ki:Nat→Nat),x=((i:Int),())∧mm=l.length-i∧i≤l.length∧DbH g hh {q with Sb:=S5,ns:=nsi} ki {st with lmade:=true,fr:=BJ st.fr (l.take i)} mb∧Mod (fun c=>k c≠0) h hh∧(∀ c,ki c≠0→k c≠0∨h.size≤c)) ?_
  ⟨0,q.ns,kk,rfl,rfl,Nat.zero_le _,W7,mod7,k7⟩
 rintro K1 mm _ hh ⟨i,nsi,ki,rfl,rfl,hi,Wi,mdi,kki⟩ hK1
 dsimp only
 have vi:=hv.mod mdi fun b hb hne=>hne (hs b hb).2
 have szi:=mdi.size
 refine PIf.intro (fun hq=>?_) (fun hq=>?_)
 ·have hil:i<l.length:=by
   have:=of_decide_eq_true hq
   have:=hv.len
   omega
  have hget:l[i]? =some l[i]:=List.getElem?_eq_getElem hil
  refine vi.idx hget fun a _ ca=>?_
  obtain⟨c0,c1,c2⟩:=ca.pair
  refine AL.mk c0 (AL.mk c1 (Ab.mk c2 (New.pair fun b h9 _ hb9 x9 s9=>?_)))
  have W9:=Wi.on x9
  refine atI (AP.mk (AB W9.cell rfl) ?_)
  refine AL.mk (AC hb9 rfl) (AL.mk (AB hb9 rfl) (Ab.mk (AB hb9 rfl) ?_))
  have hpl:=M.Np (l:=l.take i) (t:=st.fr)
  rw[List.length_take] at hpl
  refine M.AHO (x:=l[i]) W9.fresh (by show(BJ st.fr (l.take i)).length<_;omega) fun ns' h10 T10 m10 s10=>⟨_,rfl,?_⟩
  have W10:=W9.puts T10 m10 s10
  rw[AR (by omega)]
  refine hK1 (l.length-(i+1)) _ _ (by omega) ⟨i+1,ns',_,rfl,rfl,hil,by rw[M.Yq hget];exact W10,(mdi.trans (Ext.mod x9)).then (m10.weak fun c _ hc=>kki c (by rw[Wi.kf c hc];decide)),fun c hc=>?_⟩
  by_cases hlt:c<h9.size
  ·rw [Ec hlt] at hc;exact kki c hc
  ·exact .inr (by have:=x9.size;omega)
 have hil:i=l.length:=by
  have:=of_decide_eq_false hq
  have:=hv.len
  omega
 subst hil
 rw[List.take_length] at Wi
 clear hK1
 have hmap:Bp {st with lmade:=true,fr:=BJ st.fr l}=wrL (Bp st) l:=Wn W.okL hg
 have L1:Di (ff mb) {st with lmade:=true,fr:=BJ st.fr l} (Pm D st.lseg l):=
  ⟨D7,L.names,L.tabs,L.frm,L.next,L.below,by rw[amap,←L.fr],fun n n1 n9 hne=>by
   have hne':n≠st.lseg:=hne rfl
   rw[f7',if_neg fun e=>hne' (GZ e)]
   exact L.lout n n1 n9 fun _=>hne',fun _=>by
   show ff mb (fnB nl st.lseg)=some (AY (wraps ((Ij D.L st.lseg (D.L st.lseg++ [l]) st.lseg).map (A8 st.lseg))),bs0)
   rw[f7',if_pos rfl,Ca,List.map_append];rfl,fun n n1 n9=>by
   rw[f7',if_neg fun e=>R3 _ n e.symm];exact L.nout n n1 n9,L.lfrm,L.nseg,fun n hn=>by
   rw[f7',if_neg fun e=>Jc _ n e.symm] at hn;exact L.clean n hn⟩
 have lim1:Pd {st with lmade:=true,fr:=BJ st.fr l} (Pm D st.lseg l) (age+1) (c+l.length):=
  ⟨by show st.lseg≤_;omega,by have:=lm.nseg;show st.nseg≤_;omega,by have:=lm.next;show st.next≤_;omega,by have:=lm.cnt;show st.ts.length≤_;omega,by rw[acnt];have:=lm.prs;omega,by show max D.ltop (st.lseg+1)≤_;omega,by have:=lm.ntop;show D.ntop≤_;omega⟩
 have S1:BC B g hh {q with Sb:=S5,ns:=nsi} ki {st with lmade:=true,fr:=BJ st.fr l} mb (Pm D st.lseg l) (age+1) (c+l.length):=
  ⟨Wi,sty.up,L1,lim1,Nat.le_trans wt7 wta,hC⟩
 have oth1: ∀y,¬Mine y→ff mb y=ff m y:=fun y hy=>by rw[f7',if_neg (AHy hy _)]
 refine Join.mk fun K2 hK2=>?_
 refine atI (AP.mk (AB Wi.cell rfl) ?_)
 refine M.AHd Wi.fresh ⟨_,_,rfl,?_⟩
 refine PIf.intro (fun hq2=>?_) (fun hq2=>?_)
 ·have hfull:4096≤M.DT (BJ st.fr l):=by
   have:=of_decide_eq_true hq2
   have e:M.DT ({st with lmade:=true,fr:=BJ st.fr l}:Db).fr=M.DT (BJ st.fr l):=rfl
   omega
  refine AD7 (q:= {q with Sb:=S5,ns:=nsi}) E S1 (by omega) (fun h' m' fe rc=>⟨_,rfl,hK2 _ _ ?_⟩) fun h' q' k' st' m' D' e1 e2 S' sty' fr' mp' ln' oth' md' kk'=>⟨_,rfl,hK2 _ _ ?_⟩
  ·rw [hmap] at rc
   obtain⟨S',B',s'⟩:=fe.box
   refine H2 hck h' m' ⟨fun hh=>fe.fuel (sty.calm hh),fe.dn,⟨S',B',fun c hc=>?_⟩,fe.down,mdi.then (fe.mod.weak fun c _ hc=>kki c hc),fun y hy=>(fe.oth y hy).trans (oth1 y hy),fe.wt⟩ rc
   rcases s' c hc with h1|h1
   ·exact kki c h1
   ·exact .inr (by omega)
  ·refine H1 hck h' q' k' st' m' D' e1 e2 S' (sty.trans sty') ⟨mp'.trans hmap,fun _=>⟨fr',ln'⟩,fun h=>absurd h (by omega)⟩ (fun y hy=>(oth' y hy).trans (oth1 y hy)) (mdi.then (md'.weak fun c _ hc=>kki c hc)) fun c hc=>?_
   rcases kk' c hc with h1|h1
   ·exact kki c h1
   ·exact .inr (by omega)
 ·have hless:M.DT (BJ st.fr l)<4096:=by
   have:=of_decide_eq_false hq2
   have e:M.DT ({st with lmade:=true,fr:=BJ st.fr l}:Db).fr=M.DT (BJ st.fr l):=rfl
   omega
  refine hK2 _ _ ?_
  exact H1 hck hh {q with Sb:=S5,ns:=nsi} ki _ mb _ rfl rfl (S1.age (by omega)) sty ⟨hmap,fun h=>absurd h (by omega),fun _=>⟨rfl,rfl⟩⟩ oth1 mdi kki
end
end Go.Lf.G

