/-
 The law CasCrashes (chapter 10) over its formula.
-/
import Derived.Test.YtdmlhpjdmgaggaaGreatDoorLfGLCasCrashes
import Derived.Test.YtdmlhpjdmgaggaaGreatDoorLfQ15
set_option linter.unusedVariables false
set_option linter.unusedSimpArgs false
set_option maxRecDepth 100000
set_option linter.unusedVariables false
set_option linter.unusedSimpArgs false
namespace Go.Lf.G
open Go
open M (Sorted Ag DR BJ Ai BD CV Ap OkL Ba atK Bc)
theorem AAs {A:Amb}{h:Heap}{calls keep:Sl}{cs:List AB2}{ks:List Int}{fuel:Int}{N:Nat}{R:Value→Heap→Prop}(E:Evn h)(v:View Vi h calls cs)(hc: ∀x∈cs,∃cl l,Xj N h x cl l)(hN:N≤1048576)(hf:fuel≤9223372036854775807)(vk:View Eg h keep ks)(H: ∀h',Ext h h'→R (.bool true) h'):AA A P Ez #[.slice calls.p calls.len calls.cap,.int .i64 fuel,.slice keep.p keep.len keep.cap] h R:=by
 refine MU ?_
 unfold FD
 refine AGt E fun h1 x1=>⟨_,rfl,PIf.no rfl ?_⟩
 rw[v.len]
 refine PIf.intro (fun hq=>H h1 x1) (fun hq=>?_)
 have hcl:cs.length≤100:=by have:=of_decide_eq_false hq;omega
 refine OU fun b h2 Sb B2 x2 f2=>⟨_,rfl,?_⟩
 have x02:=x1.trans x2
 have sz1:=x1.size
 refine Vj (B:=AAu) E B2 x02 (fun c hc=>by have:=f2 c hc;omega) rfl rfl (fun n=>rfl) (fun n=>rfl) (fun x hx=>absurd rfl hx) (by decide) (by decide) fun h3 s q3 k3 st3 m3 D3 eb3 C3 mp3 md3 kk3 hs=>⟨_,_,rfl,PIf.no rfl ?_⟩
 subst eb3
 have hg3:h.size≤h3.size:=C3.db.mem.ext.size
 have hs3:=C3.lt
 refine AI0 (n:=if(0:Int)>fuel then 0 else fuel) C3.db.mem.box (by split<;>omega) fun h4 B4 md4=>⟨rfl,?_⟩
 have S4:=C3.db.fuel B4 md4
 generalize hk4:Iu k3 h3.size q3.Sb 2=k4 at*
 generalize Wx m3 (if(0:Int)>fuel then 0 else fuel)=m4 at*
 have k4s:k4 s=0:=by rw[← hk4,Ec hs3];exact C3.kz
 have C4:Eh AAu h h4 q3.b q3.d s k4 m4 1 0 0 []:=⟨.inl ⟨q3,st3,D3,rfl,rfl,S4,mp3⟩,md4.blk C3.cell (fun h=>by have:=C3.db.mem.kb s h;rw[C3.kz] at this;cases this),k4s,C3.base,Nat.zero_le _⟩
 have sz4:=md4.size
 have hs4:=C4.lt
 refine New.mk fun h5 _ hb5 x5 s5=>AZ.mk (s:=⟨none,0,0⟩) (AC hb5 rfl) (Aa.mk (AB hb5 rfl) (New.copy2 fun b1 h8 eb1 hb8 x8 s8=>?_))
 have sz5:=x5.size
 have M5:FU h5 k4 s h4.size ⟨none,0,0⟩ [] 0:=⟨hb5,C4.mode.aft.free (Nat.le_refl _),View.nil,fun c hc=>by simp[Sl.blk] at hc,by omega⟩
 have M8:=M5.ext x8
 have N8:FU h8 k4 s b1 ⟨none,0,0⟩ [] 0:=⟨hb8,by rw[eb1];exact(C4.mode.aft).free (by omega),View.nil,fun c hc=>by simp[Sl.blk] at hc,by omega⟩
 have hbb:h4.size≠b1:=by omega
 have hgb:h.size≤h4.size:=by omega
 have hgb1:h.size≤b1:=by omega
 have C8:=(C4.on x5).on x8
 generalize h4.size=bm at*
 clear hb5 hb8 eb1
 refine Join.mk fun K hK=>?_
 have out: ∀h9 k m age c mp0 mpa sm sa n1 n2,Aft AAu h h9 q3.b k m age c [mp0,mpa]→FU h9 k s bm sm mp0 n1→FU h9 k s b1 sa mpa n2→age+1≤700→K () h9:=by
  intro h9 k m age c mp0 mpa sm sa n1 n2 a M9 N9 hA
  refine hK _ _ ?_
  obtain⟨S,Bx,hSk⟩:=a.box
  have szg:=a.ext.size
  refine AIe (keep:=keep) (ks:=ks) Bx (vk.ext a.ext) fun b8 h10 S8 _ B8 md8 f8=>⟨_,rfl,?_⟩
  obtain⟨mp,hm,rc⟩:=a.tells _ (AFS Bx.good ks)
  have x10:Ext h h10:=a.ext.then (md8.weak fun c _ hc=> .inr (a.own c (hSk c hc)).1)
  refine AGQ (B:=AAu) E B8 x10 (fun c hc=>by have:=f8 c hc;omega) rfl rfl rc a.hc hA (Nat.le_trans AJ4 a.wt) fun h11 s11 q11 k11 st11 m11 D11 eb11 C11 mp11 md11 kk11 hs11=>⟨_,_,rfl,?_⟩
  obtain⟨l1,l2,l3,l4⟩:=C11.db.frlen
  refine AKO C11 (by decide) fun sl h12 o12 b12 x12=>⟨sl,_,rfl,PIf.yes rfl (PIf.yes rfl ?_)⟩
  rw[show(1048576:Int)=((1048576:Nat):Int) from rfl,ALZ (by omega),mp11] at o12
  rw[mp11] at l4
  have go: ∀ {bx:Nat} {sx:Sl} {mpx:List Pr} {nx:Nat},FU h9 k s bx sx mpx nx→FU h12 k11 s11 bx sx mpx nx:=fun M9=>by
   have M8:=M9.step (k':=fun c=>if h9.size≤c then 1 else 0) (s':=h9.size) md8 (fun c hc=> .inl (hSk c hc)) (fun c hc=> .inr (Decidable.byContradiction fun h=>hc (by rw[if_neg h]))) (.inr (Nat.le_refl _))
   have sz8:=md8.size
   exact(M8.step (k':=k11) (s':=s11) md11 (fun c hc=>by
    have:h9.size≤c:=by
     rcases hc with h|h
     ·have:=f8 c h;omega
     ·omega
    exact .inl (by rw[if_pos this];decide)) (fun c hc=>by
    rcases kk11 c hc with h|h
    ·have:h9.size≤c:=by have:=f8 c h;omega
     exact .inl (by rw[if_pos this];decide)
    ·exact .inr h) (.inr hs11)).ext x12
  have M12:=go M9
  have N12:=go N9
  have xh:=(C11.on x12).db.mem.ext
  refine AZ.mk (s:=sm) (AC M12.cell rfl) ?_
  refine M.AHg o12.view M12.view (by omega) ⟨_,rfl,PIf.intro (fun hq=>H h12 xh) (fun hq=>?_)⟩
  refine AZ.mk (s:=sa) (AC N12.cell rfl) ?_
  refine M.AHg o12.view N12.view (by omega) ⟨_,rfl,?_⟩
  have e:mp=mpa:=by
   simp only[List.mem_cons,List.not_mem_nil,or_false] at hm
   rcases hm with h|h
   ·exact absurd h (of_decide_eq_false hq)
   ·exact h
  rw[decide_eq_true e]
  exact H h12 xh
 clear hK
 refine Loop.rule (fun mm x hh=> ∃(i n n2:Nat) (k:Nat→Nat) (m:Bx) (mp:List Pr) (sm:Sl),x=((i:Int),())∧Eh AAu h hh q3.b q3.d s k m (1+6*i) (64*i) n mp∧FU hh k s bm sm mp n2∧FU hh k s b1 sm mp n2∧Sorted mp∧n≤i∧n2≤i∧i≤cs.length∧mm=cs.length-i) ?_
  ⟨0,0,0,k4,m4,[],⟨none,0,0⟩,rfl,C8,M8,N8,by have:=C3.db.sorted;rwa [mp3] at this,Nat.le_refl _,Nat.le_refl _,Nat.zero_le _,rfl⟩
 rintro Kl mm _ hh ⟨i,n,n2,k,m,mp,sm,rfl,C,Mr,Nr,srt,hn,hn2,hi,rfl⟩ hKl
 dsimp only
 refine PIf.intro (fun hq=>?_) (fun hq=>?_)
 rotate_left
 ·exact out hh k m _ _ mp mp sm sm n2 n2 (C.mode.aft.put (Nat.le_refl _) (Nat.le_refl _) C.mode.aft.hc fun x hx=>by rw[List.mem_singleton.1 hx];simp) Mr Nr (by omega)
 have hil:i<cs.length:=by have:=of_decide_eq_true hq;omega
 have hget:cs[i]? =some cs[i]:=List.getElem?_eq_getElem hil
 obtain⟨cl,l,ck⟩:=hc cs[i] (List.getElem_mem hil)
 generalize cs[i]=cc at*
 refine Join.mk fun K2 hK2=>?_
 have next: ∀h' k' m' age' c' n' n2' mp' sm',Eh AAu h h' q3.b q3.d s k' m' age' c' n' mp'→FU h' k' s bm sm' mp' n2'→FU h' k' s b1 sm' mp' n2'→Sorted mp'→age'≤1+6*(i+1)→c'≤64*(i+1)→n'≤i+1→n2'≤i+1→K2 () h':=fun h' k' m' age' c' n' n2' mp' sm' C' M' N' s' ha hcc hn' hn2'=>by
  refine hK2 _ _ ?_
  rw[AR (by omega)]
  exact hKl (cs.length-(i+1)) _ _ (by omega) ⟨i+1,n',n2',k',m',mp',sm',rfl,C'.put ha hcc (by show 64*(i+1)≤12800;omega),M',N',s',hn',hn2',hil,rfl⟩
 clear hK2 hKl
 rw[← v.len]
 refine(v.ext C.mode.aft.ext).idx hget fun a _ c0=>?_
 obtain⟨c0,c1,c2,c3,c4,c5,c6⟩:=AKL c0
 refine Aa.mk c0 (AZ.mk (s:=cc.cs) c1 (AZ.mk (s:=cc.bs) c2 (AL.mk c3 (AL.mk c4 (Aa.mk c5 (Ab.mk c6 ?_))))))
 clear c0 c1 c2 c3 c4 c5 c6
 refine New.copy7 fun bb h6 ebb hb6 x6 s6=>?_
 have C6:=C.on x6
 have M6:=Mr.ext x6
 have N6:=Nr.ext x6
 have kbb:k bb=0:=by rw[ebb];exact C.mode.aft.free (Nat.le_refl _)
 have hsbb:s<bb:=by rw[ebb];exact C.lt
 have hbmb:bm<bb:=by rw[ebb];exact Mr.lt
 have hb1b:b1<bb:=by rw[ebb];exact Nr.lt
 have hbb6:=Ah hb6
 have hkeys: ∀x∈cl,x.key.size≤1099511627776:=fun x hx=>by have:=ck.keys x hx;omega
 clear C Mr Nr
 refine Join.mk fun K3 hK3=>?_
 have rest: ∀h7 k7 m7 age7,Eh AAu h h7 q3.b q3.d s k7 m7 age7 (64*i) n mp→FU h7 k7 s bm sm mp n2→FU h7 k7 s b1 sm mp n2→k7 bb=0→h7[bb]? =h6[bb]? →((cc.kind≠0∧age7≤1+6*(i+1))∨age7+3≤1+6*(i+1))→K3 () h7:=by
  intro h7 k7 m7 age7 C7 M7 N7 kb7 hbb7 ha0
  rw[hb6] at hbb7
  refine hK3 _ _ (Aa.mk (AC hbb7 rfl) (PIf.intro (fun h0=>?_) (fun h0=>?_)))
  ·exact next h7 k7 m7 _ _ n n2 mp sm C7 M7 N7 srt (by omega) (by omega) (by omega) (by omega)
  have ha:age7+3≤1+6*(i+1):=by
   have h0:cc.kind=0:=by simpa using h0
   rcases ha0 with h|h
   ·exact absurd h0 h.1
   ·exact h
  have ml:=C7.mode.aft.len
  have hs7:=C7.lt
  have hbb7l:=Ah hbb7
  refine AZ.mk (s:=sm) (AC M7.cell rfl) (Aa.mk (AB M7.cell rfl) (AZ.mk (s:=cc.cs) (AB hbb7 rfl) (AZ.mk (s:=cc.bs) (AB hbb7 rfl) ?_)))
  have xg7:=C7.mode.aft.ext
  refine AMS (s:=sm) (conds:=cc.cs) (sl:=cc.bs) M7.view (fun c hc=>(M7.blk c hc).2.1) (ck.cs.ext xg7) (ck.bs.ext xg7) srt (by omega) (by omega) fun s' h16 v16 b16 x16=>⟨s',_,_,rfl,?_⟩
  refine New.copy2 fun b2 h19 eb2 hb2 x19 s19=>?_
  have x719:=x16.trans x19
  have sz16:=x16.size
  have sz19:=x19.size
  have C19:=C7.on x719
  have M19:=M7.ext x719
  have N19:=N7.ext x719
  have hb19:=AU x719 hbb7
  have hs': ∀c,s'.blk=some c→k7 c=0∧c<h16.size∧c≠bm∧c≠b1∧c≠s:=fun c hc=>by
   rcases b16 c hc with h|h
   ·obtain⟨e1,e2,e3,e4⟩:=M7.blk c h
    obtain⟨_,_,f3,_⟩:=N7.blk c h
    exact⟨e1,by omega,e3,f3,e4⟩
   ·have:=M7.lt
    have:=N7.lt
    exact⟨C7.mode.aft.free h.1,h.2,by omega,by omega,by omega⟩
  have v19:=v16.ext x19
  have kb2:k7 b2=0:=by rw[eb2];exact((C7.on x16).mode.aft).free (Nat.le_refl _)
  have hbl2:=Ah hb2
  have hsb2:s<b2:=by omega
  have hmb2:bm<b2:=by have:=M7.lt;omega
  have h1b2:b1<b2:=by have:=N7.lt;omega
  have xg19:=C19.mode.aft.ext
  refine AZ.mk (s:=cc.cs) (AB hb19 rfl) (AZ.mk (s:=cc.bs) (AB hb19 rfl) ?_)
  have nks: ∀ {h20:Heap} {k20:Nat→Nat},(∀ c,k20 c≠0→k7 c≠0∨h19.size≤c)→ ∀c,k7 c=0→c<h19.size→k20 c=0:=fun kk20 c h1 h2=>Decidable.byContradiction fun h3=>by
   rcases kk20 c h3 with h4|h4
   ·exact h4 h1
   ·omega
  have stay: ∀ {h20:Heap} {k20:Nat→Nat} {bx:Nat} {sx:Sl} {mpx:List Pr} {nx:Nat},Mod (fun c=>k7 c≠0∨h19.size≤c∨c=s) h19 h20→(∀ c,k20 c≠0→k7 c≠0∨h19.size≤c)→FU h19 k7 s bx sx mpx nx→FU h20 k20 s bx sx mpx nx:=fun md20 kk20 M=>M.step md20 (fun c hc=>by
   rcases hc with h|h|h
   ·exact .inl h
   ·exact .inr (.inl h)
   ·exact .inr (.inr h)) kk20 (.inl rfl)
  have laid: ∀ {h20 h21 h22:Heap} {k20:Nat→Nat} {bx:Nat} {sx:Sl} {mpx:List Pr} {nx:Nat},View Ak h20 s' (doM mp cl l)→(∀ c,s'.blk=some c→k20 c=0∧c<h20.size∧c≠bx∧c≠s)→FU h20 k20 s bx sx mpx nx→Mod (· =bx) h20 h22→h22[bx]? =some (.cells #[.slice s'.p s'.len s'.cap,.int .i64 (doN mp cl l n2:Int)] BG (0,0))→FU h22 k20 s bx s' (doM mp cl l) (doN mp cl l n2):=fun v20 hb20 M20 md22 hb22=>
   ⟨hb22,M20.kz,v20.mod md22 fun c hc e=>(hb20 c hc).2.2.1 e,fun c hc=>by
    obtain⟨e1,e2,e3,e4⟩:=hb20 c hc
    have:=md22.size
    exact⟨e1,by omega,e3,e4⟩,M20.ne⟩
  have keepR: ∀ {h20 h22:Heap} {k20:Nat→Nat} {bx by':Nat} {sx:Sl} {mpx:List Pr} {nx:Nat},FU h20 k20 s bx sx mpx nx→Mod (· =by') h20 h22→bx≠by'→(∀ c,sx.blk=some c→c≠by')→FU h22 k20 s bx sx mpx nx:=fun M20 md22 hne hsx=>
   ⟨md22.blk M20.cell hne,M20.kz,M20.view.mod md22 fun c hc e=>hsx c hc e,fun c hc=>by
    obtain⟨e1,e2,e3,e4⟩:=M20.blk c hc
    have:=md22.size
    exact⟨e1,by omega,e3,e4⟩,M20.ne⟩
  have both: ∀h20 k20 m20 age20 c20 n20,Eh AAu h h20 q3.b q3.d s k20 m20 age20 c20 n20 (doM mp cl l)→Mod (fun c=>k7 c≠0∨h19.size≤c∨c=s) h19 h20→(∀ c,k20 c≠0→k7 c≠0∨h19.size≤c)→age20≤1+6*(i+1)→c20≤64*(i+1)→n20≤i+1→
    (AZ h20 (⟨b2,0,none⟩:Addr) fun t78_0=>Aa .i64 h20 ((⟨b2,0,none⟩:Addr).add 1) fun t78_1=>Store h20 (⟨bm,0,none⟩:Addr) (.slice t78_0.p t78_0.len t78_0.cap) fun h36=>Store h36 ((⟨bm,0,none⟩:Addr).add 1) (.int .i64 t78_1) fun h37=>AZ h37 (⟨bm,0,none⟩:Addr) fun t79_0=>Aa .i64 h37 ((⟨bm,0,none⟩:Addr).add 1) fun t79_1=>Store h37 (⟨b1,0,none⟩:Addr) (.slice t79_0.p t79_0.len t79_0.cap) fun h38=>Store h38 ((⟨b1,0,none⟩:Addr).add 1) (.int .i64 t79_1) fun h39=>K2 () h39):=by
   intro h20 k20 m20 age20 c20 n20 C20 md20 kk20 ha20 hc20 hn20
   have sz20:=md20.size
   have cb2:=md20.blk hb2 (by rintro(h|h|h);exact h kb2;omega;omega)
   refine AZ.mk (s:=s') (AC cb2 rfl) (Aa.mk (AB cb2 rfl) ?_)
   have M20:=stay md20 kk20 M19
   have N20:=stay md20 kk20 N19
   have v20:=v19.mod md20 fun c hc hm=>by
    obtain⟨e1,e2,e3,e4,e5⟩:=hs' c hc
    rcases hm with h|h|h
    ·exact h e1
    ·omega
    ·exact e5 h
   have hs20: ∀c,s'.blk=some c→k20 c=0∧c<h20.size∧c≠bm∧c≠b1∧c≠s:=fun c hc=>by
    obtain⟨e1,e2,e3,e4,e5⟩:=hs' c hc
    exact⟨nks (h20:=h20) kk20 c e1 (by omega),by omega,e3,e4,e5⟩
   simp only[Bg,Nat.zero_add]
   refine Store.mk M20.cell (by simp) fun h21 hb21 m21 s21=>Store.mk hb21 (by simp) fun h22 hb22 m22 s22=>?_
   have hb22:h22[bm]? =some (.cells #[.slice s'.p s'.len s'.cap,.int .i64 (doN mp cl l n2:Int)] BG (0,0)):=by simpa using hb22
   have md22:=m21.trans m22
   have M22:=laid (h21:=h21) v20 (fun c hc=>⟨(hs20 c hc).1,(hs20 c hc).2.1,(hs20 c hc).2.2.1,(hs20 c hc).2.2.2.2⟩) M20 md22 hb22
   have N22:=keepR N20 md22 hbb.symm fun c hc=>(M20.blk c hc).2.2.1
   have C22:=C20.beside md22 (fun c hc=>by subst hc;exact⟨M20.kz,hgb⟩) (fun e=>M20.ne e.symm)
   refine AZ.mk (s:=s') (AC hb22 rfl) (Aa.mk (AC hb22 rfl) ?_)
   refine Store.mk N22.cell (by simp) fun h23 hb23 m23 s23=>Store.mk hb23 (by simp) fun h24 hb24 m24 s24=>?_
   have hb24:h24[b1]? =some (.cells #[.slice s'.p s'.len s'.cap,.int .i64 (doN mp cl l n2:Int)] BG (0,0)):=by simpa using hb24
   have md24:=m23.trans m24
   have N24:=laid (h21:=h23) M22.view (fun c hc=>⟨(M22.blk c hc).1,(M22.blk c hc).2.1,(hs20 c hc).2.2.2.1,(M22.blk c hc).2.2.2⟩) N22 md24 hb24
   have M24:=keepR M22 md24 hbb fun c hc=>(hs20 c hc).2.2.2.1
   refine next h24 k20 m20 _ _ n20 (doN mp cl l n2) _ s' (C22.beside md24 (fun c hc=>by subst hc;exact⟨N22.kz,hgb1⟩) (fun e=>N22.ne e.symm)) M24 N24 ?_ ha20 hc20 hn20 (by unfold doN;split<;>omega)
   unfold doM
   split
   ·exact SH srt
   ·exact srt
  have hargs:l≠ []→ ∀b,cc.bs.blk=some b→b<h19.size∧k7 b=0:=fun hne b hb=>by
   have h1:=AHx ck.bs hne hb
   have:=xg19.size
   exact⟨by omega,C19.mode.aft.base h1⟩
  refine Eh.make (B:=AAu) (conds:=cc.cs) (sl:=cc.bs) E C19 (by show age7+3≤700;omega) (by show 64*i+64≤12800;omega) (by omega) (ck.cs.ext xg19) (ck.bs.ext xg19) hargs hkeys (fun hne h20 x20=>⟨_,rfl,?_⟩) (fun hz h20 k20 m20 C20 md20 kk20=>⟨_,rfl,?_⟩) (fun h20 k20 m20 A20 md20 kk20=>⟨_,rfl,PIf.yes rfl ?_⟩)
  ·refine PIf.no (by simpa using AJj) (PIf.no (by simp) ?_)
   exact both h20 k7 m7 _ _ n (by rw[show doM mp cl l=mp from if_neg hne];exact C19.on x20) (x20.weak fun c _ hc=>hc.elim) (fun c hc=> .inl hc) (by omega) (by omega) (by omega)
  ·refine PIf.no rfl (PIf.no (by rw[hz];rfl) ?_)
   exact both h20 k20 m20 _ _ (n+1) (by rw[show doM mp cl l=wrL mp l from if_pos hz];exact C20) md20 kk20 (by omega) (by omega) (by omega)
  ·
   have sz20:=md20.size
   have cb2:=md20.blk hb2 (by rintro(h|h|h);exact h kb2;omega;omega)
   have M20:=stay md20 kk20 M19
   have N20:=stay md20 kk20 N19
   have v20:=v19.mod md20 fun c hc hm=>by
    obtain⟨e1,e2,e3,e4,e5⟩:=hs' c hc
    rcases hm with h|h|h
    ·exact h e1
    ·omega
    ·exact e5 h
   have hs20: ∀c,s'.blk=some c→k20 c=0∧c<h20.size∧c≠bm∧c≠b1∧c≠s:=fun c hc=>by
    obtain⟨e1,e2,e3,e4,e5⟩:=hs' c hc
    exact⟨nks (h20:=h20) kk20 c e1 (by omega),by omega,e3,e4,e5⟩
   refine AZ.mk (s:=sm) (AC M20.cell rfl) (Aa.mk (AB M20.cell rfl) ?_)
   simp only[Bg,Nat.zero_add]
   refine Store.mk N20.cell (by simp) fun h21 hb21 m21 s21=>Store.mk hb21 (by simp) fun h22 hb22 m22 s22=>?_
   have hb22:h22[b1]? =some (.cells #[.slice sm.p sm.len sm.cap,.int .i64 (n2:Int)] BG (0,0)):=by simpa using hb22
   have md22:=m21.trans m22
   have N22:FU h22 k20 s b1 sm mp n2:=⟨hb22,N20.kz,N20.view.mod md22 fun c hc e=>(N20.blk c hc).2.2.1 e,fun c hc=>by
    obtain⟨e1,e2,e3,e4⟩:=N20.blk c hc
    have:=md22.size
    exact⟨e1,by omega,e3,e4⟩,N20.ne⟩
   have M22:=keepR M20 md22 hbb fun c hc=>(N20.blk c hc).2.2.1
   have A22:=A20.beside md22 fun c hc=>by subst hc;exact⟨N20.kz,hgb1⟩
   refine Join.mk fun K4 hK4=>PIf.intro (fun hz=>?_) (fun hz=>?_)
   ·have cb22:=md22.blk cb2 (by omega)
    refine AZ.mk (s:=s') (AC cb22 rfl) (Aa.mk (AC cb22 rfl) ?_)
    refine Store.mk N22.cell (by simp) fun h23 hb23 m23 s23=>Store.mk hb23 (by simp) fun h24 hb24 m24 s24=>?_
    have hb24:h24[b1]? =some (.cells #[.slice s'.p s'.len s'.cap,.int .i64 (doN mp cl l n2:Int)] BG (0,0)):=by simpa using hb24
    have md24:=m23.trans m24
    have sz22:=md22.size
    have N24:=laid (h21:=h23) (v20.mod md22 fun c hc e=>(hs20 c hc).2.2.2.1 e) (fun c hc=>⟨(hs20 c hc).1,by have:=(hs20 c hc).2.1;omega,(hs20 c hc).2.2.2.1,(hs20 c hc).2.2.2.2⟩) N22 md24 hb24
    refine hK4 _ _ (out h24 k20 m20 _ _ mp (doM mp cl l) sm s' n2 _ (A22.beside md24 fun c hc=>by subst hc;exact⟨N22.kz,hgb1⟩) (keepR M22 md24 hbb fun c hc=>(N22.blk c hc).2.2.1) N24 (by omega))
   ·have hz:doC mp cl l≠0:=by simpa using hz
    rw[show doM mp cl l=mp from if_neg hz] at A22
    exact hK4 _ _ (out h22 k20 m20 _ _ mp mp sm sm n2 n2 A22 M22 N22 (by omega))
 refine Aa.mk (AC hb6 rfl) (PIf.intro (fun h3=>?_) (fun h3=>?_))
 ·refine Ab.mk (AB hb6 rfl) ?_
  have e3:cc.kind≠0:=by
   have:cc.kind=3:=by simpa using h3
   omega
  refine Eh.tidy (B:=AAu) E C6 (by show 1+6*i+6≤700;omega) (fun h7 k7 m7 C7 md7 kk7=>⟨_,rfl,PIf.no rfl ?_⟩) (fun h7 k7 m7 A7 md7 kk7=>⟨_,rfl,PIf.yes rfl ?_⟩)
  ·have hbb7:=md7.blk hb6 (by rintro(h|h);exact h kbb;omega)
   have M7:=M6.step (k':=k7) md7 (fun c hc=>hc.imp id .inl) kk7 (.inl rfl)
   have N7:=N6.step (k':=k7) md7 (fun c hc=>hc.imp id .inl) kk7 (.inl rfl)
   have kb7:k7 bb=0:=Decidable.byContradiction fun h=>by
    rcases kk7 bb h with h4|h4
    ·exact h4 kbb
    ·omega
   exact rest h7 k7 m7 _ C7 M7 N7 kb7 (hbb7.trans hb6.symm) (.inl ⟨e3,by omega⟩)
  ·have M7:=M6.step (k':=k7) md7 (fun c hc=>hc.imp id .inl) kk7 (.inl rfl)
   have N7:=N6.step (k':=k7) md7 (fun c hc=>hc.imp id .inl) kk7 (.inl rfl)
   exact out h7 k7 m7 _ _ mp mp sm sm n2 n2 (A7.put (Nat.le_refl _) (Nat.le_refl _) A7.hc fun x hx=>by rw[List.mem_singleton.1 hx];simp) M7 N7 (by omega)
 ·exact rest h6 k m (1+6*i) C6 M6 N6 kbb rfl (.inr (by omega))
end Go.Lf.G

