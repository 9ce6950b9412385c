/-
 The law CasCrashes (chapter 10): a store between calls, live or down.
-/
import Derived.Test.YtdmlhpjdmgaggaaGreatDoorLfQ12
set_option linter.unusedVariables false
set_option linter.unusedSimpArgs false
set_option maxRecDepth 100000
set_option linter.unusedVariables false
set_option linter.unusedSimpArgs false
namespace Go.Lf.G
open Go
open M (Sorted Ag DR BJ Ai BD CV Ap OkL Ba atK Bc)
theorem AI0 {A:Amb}{h:Heap}{b:Nat}{S:Nat→Prop}{m:Bx}{n:Int}{R:Value→Heap→Prop}(B:BU h b S m)(hn:n≤9223372036854775807)
  (H: ∀h',BU h' b S (Wx m n)→Mod S h h'→R (.tuple #[]) h'):AA A P JR #[Aq b,.int .i64 n] h R:=by
 obtain⟨r,kv,B,hS⟩:=B
 refine XH ?_
 unfold Lg
 refine PIf.yes rfl (atI (Store.mk1 B.head (by simp) fun h1 hb1 m1 hs1=>?_))
 exact H h1 ⟨r,kv,B.hd (m':=Wx m n) (by simpa [Wx] using hb1) m1 rfl (B.good.fuel hn),hS⟩ (m1.weak fun c _ hc=>(hS c).2 (.inl hc))
structure Aft (B:Bud) (g h:Heap) (b:Nat) (k:Nat→Nat) (m:Bx) (age c:Nat) (ml:List (List Pr)):Prop where
 box: ∃S,BU h b S m∧ ∀c,S c→k c≠0
 tells: ∀G,Hd (ff m) G→ ∃mp∈ml,Rec G age c mp
 wt:wtF m.files≤B.W0+age*B.K
 hc:c≤B.C
 own: ∀c,k c≠0→g.size≤c∧c<h.size
 ext:Ext g h
def Mode(B:Bud)(g h:Heap)(b d:Nat)(k:Nat→Nat)(m:Bx)(age c:Nat)(mp:List Pr):Prop:=
 (∃ q st D,q.b=b∧q.d=d∧BC B g h q k st m D age c∧Bp st=mp)∨(Qb h d∧k d≠0∧Aft B g h b k m age c [mp])
section
variable {A : Amb} {B : Bud} {g h : Heap} {q : Hp} {k : Nat → Nat} {st : Db} {m : Bx} {D : BO} {age c : Nat} {R : Value → Heap → Prop} {b d : Nat} {mp : List Pr} {ml : List (List Pr)}
theorem BC.aft(S:BC B g h q k st m D age c):Aft B g h q.b k m age c [Bp st]:=
 ⟨⟨q.Sb,S.mem.box,fun c hc=>by rw[S.mem.kb c hc];decide⟩,fun G cr=>⟨Bp st,by simp,S.disk.recS S.lim G cr⟩,S.wt,S.hc,S.mem.own,S.mem.ext⟩
theorem Aft.put {age' c':Nat}{ml':List (List Pr)}(a:Aft B g h b k m age c ml)(h1:age≤age')(h2:c≤c')(h3:c'≤B.C)(hm: ∀x∈ml,x∈ml'):Aft B g h b k m age' c' ml':=
 ⟨a.box,fun G cr=>by obtain⟨x,hx,r⟩:=a.tells G cr;exact⟨x,hm x hx,r.mono h1 h2⟩,Nat.le_trans a.wt (Nat.add_le_add_left (Nat.mul_le_mul_right _ h1) _),h3,a.own,a.ext⟩
theorem Aft.beside {h':Heap}{X:Nat→Prop}(a:Aft B g h b k m age c ml)(x:Mod X h h')(hX: ∀c,X c→k c=0∧g.size≤c):Aft B g h' b k m age c ml:=by
 obtain⟨S,b1,b2⟩:=a.box
 exact⟨⟨S,b1.mod x fun c hc hx=>b2 c hc (hX c hx).1,b2⟩,a.tells,a.wt,a.hc,fun c hc=>⟨(a.own c hc).1,by have:=(a.own c hc).2;have:=x.size;omega⟩,a.ext.then (x.weak fun c _ hc=> .inr (hX c hc).2)⟩
theorem Mode.put {age' c':Nat}(a:Mode B g h b d k m age c mp)(h1:age≤age')(h2:c≤c')(h3:c'≤B.C):Mode B g h b d k m age' c' mp:=by
 rcases a with⟨q,st,D,e1,e2,S,e3⟩|⟨dn,kd,a⟩
 ·exact .inl ⟨q,st,D,e1,e2,S.put h1 h2 h3,e3⟩
 ·exact .inr ⟨dn,kd,a.put h1 h2 h3 fun x hx=>hx⟩
theorem Mode.beside {h':Heap}{X:Nat→Prop}(a:Mode B g h b d k m age c mp)(x:Mod X h h')(hX: ∀c,X c→k c=0∧g.size≤c):Mode B g h' b d k m age c mp:=by
 rcases a with⟨q,st,D,e1,e2,S,e3⟩|⟨dn,kd,a⟩
 ·exact .inl ⟨q,st,D,e1,e2,S.beside x hX,e3⟩
 ·exact .inr ⟨dn.mod x fun hx=>kd (hX d hx).1,kd,a.beside x hX⟩
theorem Mode.on {h':Heap}(a:Mode B g h b d k m age c mp)(x:Ext h h'):Mode B g h' b d k m age c mp:=a.beside x fun _ h=>h.elim
theorem Mode.aft(a:Mode B g h b d k m age c mp):Aft B g h b k m age c [mp]:=by
 rcases a with⟨q,st,D,e1,e2,S,e3⟩|⟨dn,kd,a⟩
 ·subst e1 e3;exact S.aft
 ·exact a
theorem Aft.free(a:Aft B g h b k m age c ml){x:Nat}(hx:h.size≤x):k x=0:=Decidable.byContradiction fun hk=>by
 have:=(a.own x hk).2;omega
theorem Aft.base(a:Aft B g h b k m age c ml){x:Nat}(hx:x<g.size):k x=0:=Decidable.byContradiction fun hk=>by
 have:=(a.own x hk).1;omega
open Classical in
noncomputable def Ws (k:Nat→Nat) (n n':Nat):Nat→Nat:=fun c=>if k c≠0 then k c else if n≤c∧c<n' then 9 else 0
theorem ABG {k:Nat→Nat}{n n' c:Nat}(h:k c≠0):Ws k n n' c≠0:=by unfold Ws;rw[if_pos h];exact h
theorem AIS {k:Nat→Nat}{n n' c:Nat}(h:n≤c∧c<n'):Ws k n n' c≠0:=by
 unfold Ws
 split
 ·assumption
 ·decide
theorem ABt {k:Nat→Nat}{n n' c:Nat}(h:Ws k n n' c≠0):k c≠0∨(n≤c∧c<n'):=by
 unfold Ws at h
 split at h
 ·rename_i h1;exact .inl h1
 ·split at h
  ·rename_i h2;exact .inr h2
  ·exact absurd rfl h
theorem AIg.aft {h':Heap}{m':Bx}{age' c':Nat}(F:AIg B h h' q k m m' age')(S:BC B g h q k st m D age c)(hc:c'≤B.C)(hr: ∀G,Hd (ff m') G→ ∃mp∈ml,Rec G age' c' mp):
  Aft B g h' q.b (Ws k h.size h'.size) m' age' c' ml:=by
 obtain⟨S',b1,b2⟩:=F.box
 have sz:=F.mod.size
 refine⟨⟨S',b1,fun c hc=>?_⟩,hr,F.wt,hc,fun c hc=>?_,S.mem.ext.then (F.mod.weak fun c _ hc=> .inr (S.mem.own c hc).1)⟩
 ·rcases b2 c hc with h1|h1
  ·exact ABG h1
  ·exact AIS ⟨h1,b1.lt hc⟩
 ·have:=S.mem.ext.size
  rcases ABt hc with h1|h1
  ·have:=S.mem.own c h1;omega
  ·omega
theorem Uq {n n':Nat}: ∀c,Ws k n n' c≠0→k c≠0∨n≤c:=fun c hc=>(ABt hc).imp id fun h=>h.1
theorem Mode.write {s:Sl}{l:List Pr}(E:Evn g)(a:Mode B g h b d k m age c mp)(hA:age+3≤B.A)(hC:c+64≤B.C)(v:View Ak h s l)(hs:l≠ []→ ∀b,s.blk=some b→b<h.size∧k b=0)(hck:CQ l=0)
  (H1: ∀h' k' m',Mode B g h' b d k' m' (age+3) (c+64) (wrL mp l)→Mod (fun c=>k c≠0) h h'→(∀ c,k' c≠0→k c≠0∨h.size≤c)→R (.int .i64 0) h')
  (H0: ∀h' k' m',Aft B g h' b k' m' (age+3) (c+64) [mp,wrL mp l]→Mod (fun c=>k c≠0) h h'→(∀ c,k' c≠0→k c≠0∨h.size≤c)→R (.int .i64 30) h'):
  AA A P FO #[Aq d,.slice s.p s.len s.cap] h R:=by
 have hl:=(RN hck).1.len
 rcases a with⟨q,st,D,e1,e2,S,e3⟩|⟨dn,kd,a⟩
 ·subst e1 e2 e3
  refine Yu (B:=B) (s:=s) E S hA v hs (fun _=>by omega) (fun hne=>absurd hck hne) (fun _ h' m' fe hr=>?_) (fun _ h' m' fe hr=>?_) fun _ h' q' k' st' m' D' ed eb S' sty wr ot md kk=>?_
  ·refine H0 h' _ m' (fe.aft S hC fun G cr=>?_) fe.mod Uq
   rcases hr G cr with h1|h1
   ·exact⟨_,by simp,h1.mono (Nat.le_refl _) (by omega)⟩
   ·exact⟨_,by simp,h1.mono (Nat.le_refl _) (by omega)⟩
  ·refine H1 h' _ m' (.inr ⟨fe.dn,ABG (by rw[S.mem.kd];decide),fe.aft S hC fun G cr=>⟨_,by simp,(hr G cr).mono (Nat.le_refl _) (by omega)⟩⟩) fe.mod Uq
  ·exact H1 h' k' m' (.inl ⟨q',st',D',eb,ed,S'.put (Nat.le_refl _) (by omega) hC,wr.map⟩) md kk
 ·refine PN ?_
  unfold JB
  refine Join.mk fun K hK=>Xe dn (hK _ _ (PIf.yes rfl ?_))
  exact H0 h k m (a.put (by omega) (by omega) hC fun x hx=>by simp at hx;simp[hx]) Mod.refl fun c hc=> .inl hc
theorem Mode.flush(E:Evn g)(a:Mode B g h b d k m age c mp)(hA:age+3≤B.A)
  (H1: ∀h' k' m',Mode B g h' b d k' m' (age+3) c mp→Mod (fun c=>k c≠0) h h'→(∀ c,k' c≠0→k c≠0∨h.size≤c)→R (.int .i64 0) h')
  (H0: ∀h' k' m',Aft B g h' b k' m' (age+3) c [mp]→Mod (fun c=>k c≠0) h h'→(∀ c,k' c≠0→k c≠0∨h.size≤c)→R (.int .i64 30) h'):
  AA A P FZ #[Aq d] h R:=by
 rcases a with⟨q,st,D,e1,e2,S,e3⟩|⟨dn,kd,a⟩
 ·subst e1 e2 e3
  refine AD7 (B:=B) E S (by omega) (fun h' m' fe hr=>?_) fun h' q' k' st' m' D' ed eb S' sty fr mp' ts ot md kk=>?_
  ·exact H0 h' _ m' ((fe.aft S S.hc fun G cr=>⟨_,List.mem_singleton.2 rfl,hr G cr⟩).put (by omega) (Nat.le_refl _) S.hc fun x hx=>hx) fe.mod Uq
  ·exact H1 h' k' m' (.inl ⟨q',st',D',eb,ed,S'.put (by omega) (Nat.le_refl _) S.hc,mp'⟩) md kk
 ·refine PU ?_
  unfold I5
  refine Join.mk fun K hK=>Xe dn (hK _ _ (PIf.yes rfl ?_))
  exact H0 h k m (a.put (by omega) (Nat.le_refl _) a.hc fun x hx=>hx) Mod.refl fun c hc=> .inl hc
theorem Mode.compact(E:Evn g)(a:Mode B g h b d k m age c mp)(hA:age+3≤B.A)
  (H1: ∀h' k' m',Mode B g h' b d k' m' (age+3) c mp→Mod (fun c=>k c≠0) h h'→(∀ c,k' c≠0→k c≠0∨h.size≤c)→R (.int .i64 0) h')
  (H0: ∀h' k' m',Aft B g h' b k' m' (age+3) c [mp]→Mod (fun c=>k c≠0) h h'→(∀ c,k' c≠0→k c≠0∨h.size≤c)→R (.int .i64 30) h'):
  AA A P Df #[Aq d] h R:=by
 rcases a with⟨q,st,D,e1,e2,S,e3⟩|⟨dn,kd,a⟩
 ·subst e1 e2 e3
  refine Yg (B:=B) E S (by omega) (fun h' m' fe hr=>?_) fun h' q' k' st' m' D' ed eb S' sty fr mp' ts ot md kk=>?_
  ·exact H0 h' _ m' ((fe.aft S S.hc fun G cr=>⟨_,List.mem_singleton.2 rfl,hr G cr⟩).put (by omega) (Nat.le_refl _) S.hc fun x hx=>hx) fe.mod Uq
  ·exact H1 h' k' m' (.inl ⟨q',st',D',eb,ed,S'.put (by omega) (Nat.le_refl _) S.hc,mp'⟩) md kk
 ·refine Mi ?_
  unfold IA
  refine Join.mk fun K hK=>Xe dn (hK _ _ (PIf.yes rfl ?_))
  exact H0 h k m (a.put (by omega) (Nat.le_refl _) a.hc fun x hx=>hx) Mod.refl fun c hc=> .inl hc
theorem BC.fuel {h':Heap}{n:Int}(S:BC B g h q k st m D age c)(Bx:BU h' q.b q.Sb (Wx m n))(md:Mod q.Sb h h'):BC B g h' q (Iu k h.size q.Sb 2) st (Wx m n) D age c:=by
 have W:=S.mem.boxed (j:=0) (st':=st) Bx (md.weak fun c _ hc=> .inl hc) (fun c hc=> .inl hc) rfl rfl rfl rfl (.inl ⟨by decide,rfl,rfl⟩) (.inl ⟨by decide,rfl⟩)
 exact⟨W,S.up,S.disk,S.lim,S.wt,S.hc⟩
end
theorem AJt(D:BO):(mapD D).length≤KC D:=by
 have h1:=M.Mo (DK D::(Ac D).names.map D.T)
 rw[M.Y0,ADo,List.map_map] at h1
 have h2:=U0 (Ai (DK D::(Ac D).names.map D.T))
 have h3:=ABj D
 have e:((Ac D).names.map (List.length∘D.T)).sum=((Ac D).names.map fun n=>(D.T n).length).sum:=rfl
 unfold mapD KC
 omega
theorem Aft.len {B:Bud}{g h:Heap}{b:Nat}{k:Nat→Nat}{m:Bx}{age c:Nat}{mp:List Pr}(A:Aft B g h b k m age c [mp]):mp.length≤100000:=by
 obtain⟨S,b1,_⟩:=A.box
 obtain⟨x,hx,D,_,h2,h3⟩:=A.tells _ (AFS b1.good [])
 rw[List.mem_singleton.1 hx] at h3
 have h4:=AJt D
 rw[h3] at h4
 have:=h2.prs
 have:=A.hc
 have:=B.hC
 omega
structure Eh (B:Bud) (g h:Heap) (b d s:Nat) (k:Nat→Nat) (m:Bx) (age c n:Nat) (mp:List Pr):Prop where
 mode:Mode B g h b d k m age c mp
 cell:h[s]? =some (.cells #[Aq d,.int .i64 (n:Int)] Qu (0,0))
 kz:k s=0
 base:g.size≤s
 cnt:n≤1000000
section
variable {A : Amb} {B : Bud} {g h : Heap} {k : Nat → Nat} {m : Bx} {age c : Nat} {R : Value → Heap → Prop} {b d s n : Nat} {mp : List Pr}
theorem Mode.get {key:ByteArray}(a:Mode B g h b d k m age c mp)(hk:key.size≤1099511627776)(H1: ∀h',Ext h h'→R (.tuple #[.string (G6 mp key).1,.bool (G6 mp key).2,.int .i64 0]) h')(H0:R (.tuple #[.string ⟨#[]⟩,.bool false,.int .i64 30]) h):AA A P Hg #[Aq d,.string key] h R:=by
 rcases a with⟨q,st,D,e1,e2,S,e3⟩|⟨dn,kd,a⟩
 ·subst e1 e2 e3
  obtain⟨l1,l2,l3,l4⟩:=S.frlen
  exact AFz S.mem l2 hk H1
 ·refine R8 ?_
  unfold Ku
  exact Join.mk fun K hK=>Xe dn (hK _ _ (PIf.yes rfl H0))
theorem Eh.on {h':Heap}(C:Eh B g h b d s k m age c n mp)(x:Ext h h'):Eh B g h' b d s k m age c n mp:=⟨C.mode.on x,AU x C.cell,C.kz,C.base,C.cnt⟩
theorem Eh.lt(C:Eh B g h b d s k m age c n mp):s<h.size:=Ah C.cell
theorem Eh.beside {h':Heap}{X:Nat→Prop}(C:Eh B g h b d s k m age c n mp)(x:Mod X h h')(hX: ∀c,X c→k c=0∧g.size≤c)(hs: ¬X s):Eh B g h' b d s k m age c n mp:=⟨C.mode.beside x hX,x.blk C.cell hs,C.kz,C.base,C.cnt⟩
theorem Eh.put {age' c':Nat}(C:Eh B g h b d s k m age c n mp)(h1:age≤age')(h2:c≤c')(h3:c'≤B.C):Eh B g h b d s k m age' c' n mp:=⟨C.mode.put h1 h2 h3,C.cell,C.kz,C.base,C.cnt⟩
theorem Eh.nk {k':Nat→Nat}(C:Eh B g h b d s k m age c n mp)(kk: ∀c,k' c≠0→k c≠0∨h.size≤c):k' s=0:=Decidable.byContradiction fun h3=>by
 have:=C.lt
 rcases kk s h3 with h4|h4
 ·exact h4 C.kz
 ·omega
theorem Eh.step {h':Heap}{k':Nat→Nat}{m':Bx}{age' c':Nat}{mp':List Pr}(C:Eh B g h b d s k m age c n mp)(M:Mode B g h' b d k' m' age' c' mp')(md:Mod (fun c=>k c≠0) h h')(kk: ∀c,k' c≠0→k c≠0∨h.size≤c):Eh B g h' b d s k' m' age' c' n mp':=
 ⟨M,md.blk C.cell (by rw[C.kz];simp),C.nk kk,C.base,C.cnt⟩
theorem Eh.tidy {all:Bool}(E:Evn g)(C:Eh B g h b d s k m age c n mp)(hA:age+6≤B.A)
  (H1: ∀h' k' m',Eh B g h' b d s k' m' (age+6) c n mp→Mod (fun c=>k c≠0∨h.size≤c) h h'→(∀ c,k' c≠0→k c≠0∨h.size≤c)→R (.int .i64 0) h')
  (H0: ∀h' k' m',Aft B g h' b k' m' (age+6) c [mp]→Mod (fun c=>k c≠0∨h.size≤c) h h'→(∀ c,k' c≠0→k c≠0∨h.size≤c)→R (.int .i64 30) h'):AA A P IE #[Aq s,.bool all] h R:=by
 refine Uy ?_
 unfold Jq
 refine PIf.no rfl (atI (AP.mk (AC C.cell rfl) ?_))
 refine Mode.flush E C.mode (by omega) (fun h1 k1 m1 M1 md1 kk1=>⟨_,rfl,?_⟩) (fun h1 k1 m1 A1 md1 kk1=>⟨_,rfl,?_⟩)
 ·have C1:=C.step M1 md1 kk1
  have sz1:=md1.size
  have hc:=C.mode.aft.hc
  refine Join.mk fun K hK=>PIf.no rfl (hK _ _ ?_)
  cases all with
  |false=>exact PIf.yes rfl (H1 h1 k1 m1 (C1.put (by omega) (Nat.le_refl _) hc) (md1.weak fun c _ hc=> .inl hc) kk1)
  |true=>
   refine PIf.no rfl (atI (AP.mk (AC C1.cell rfl) ?_))
   refine Mode.compact E C1.mode (by omega) (fun h2 k2 m2 M2 md2 kk2=>⟨_,rfl,?_⟩) (fun h2 k2 m2 A2 md2 kk2=>⟨_,rfl,?_⟩)
   ·refine H1 h2 k2 m2 ((C1.step M2 md2 kk2).put (by omega) (Nat.le_refl _) hc) ((md1.weak fun c _ hc=> .inl hc).trans (md2.weak fun c _ hc=>kk1 c hc)) fun c hc=>?_
    rcases kk2 c hc with h|h
    ·exact kk1 c h
    ·exact .inr (by omega)
   ·refine H0 h2 k2 m2 (A2.put (by omega) (Nat.le_refl _) hc fun x hx=>hx) ((md1.weak fun c _ hc=> .inl hc).trans (md2.weak fun c _ hc=>kk1 c hc)) fun c hc=>?_
    rcases kk2 c hc with h|h
    ·exact kk1 c h
    ·exact .inr (by omega)
 ·refine Join.mk fun K hK=>PIf.yes rfl (hK _ _ (PIf.yes rfl ?_))
  exact H0 h1 k1 m1 (A1.put (by omega) (Nat.le_refl _) C.mode.aft.hc fun x hx=>hx) (md1.weak fun c _ hc=> .inl hc) kk1
theorem Eh.make {conds sl:Sl}{cl l:List Pr}(E:Evn g)(C:Eh B g h b d s k m age c n mp)(hA:age+3≤B.A)(hC:c+64≤B.C)(hn:n+1≤1000000)(vc:View Ak h conds cl)(v:View Ak h sl l)(hs:l≠ []→ ∀b,sl.blk=some b→b<h.size∧k b=0)(hk: ∀x∈cl,x.key.size≤1099511627776)
  (He:doC mp cl l≠0→ ∀h',Ext h h'→R (.int .i64 (doC mp cl l)) h')
  (H1:doC mp cl l=0→ ∀h' k' m',Eh B g h' b d s k' m' (age+3) (c+64) (n+1) (wrL mp l)→Mod (fun c=>k c≠0∨h.size≤c∨c=s) h h'→(∀ c,k' c≠0→k c≠0∨h.size≤c)→R (.int .i64 0) h')
  (H0: ∀h' k' m',Aft B g h' b k' m' (age+3) (c+64) [mp,doM mp cl l]→Mod (fun c=>k c≠0∨h.size≤c∨c=s) h h'→(∀ c,k' c≠0→k c≠0∨h.size≤c)→R (.int .i64 30) h'):
  AA A P CP #[Aq s,.slice conds.p conds.len conds.cap,.slice sl.p sl.len sl.cap] h R:=by
 refine PV ?_
 unfold I1
 refine PIf.no rfl ?_
 rw[vc.len]
 refine PIf.intro (fun hq=>?_) (fun hq=>?_)
 ·have h64:cl.length>64:=by have:=of_decide_eq_true hq;omega
  have e:doC mp cl l=2:=by unfold doC;rw[if_pos h64]
  have:=He (by rw[e];decide) h Mod.refl
  rwa [e] at this
 have h64: ¬cl.length>64:=by have:=of_decide_eq_false hq;omega
 refine ZY (s:=sl) v fun h1 x1=>⟨_,rfl,?_⟩
 refine PIf.intro (fun hz=>?_) (fun hz=>?_)
 ·have hck:CQ l≠0:=by simpa using hz
  have e:doC mp cl l=CQ l:=by unfold doC;rw[if_neg h64,if_pos hck]
  have:=He (by rw[e];exact hck) h1 x1
  rwa [e] at this
 have hck:CQ l=0:=by simpa using hz
 have e:doC mp cl l=if cl.all (CL mp) then 0 else 100:=by unfold doC;rw[if_neg h64,if_neg (by rw[hck];simp)]
 rw[e] at He H1
 refine Loop.rule (fun mm x hh=> ∃i:Nat,x=((i:Int),())∧mm=cl.length-i∧i≤cl.length∧Ext h hh∧(cl.take i).all (CL mp)=true) ?_ ⟨0,rfl,rfl,Nat.zero_le _,x1,rfl⟩
 rintro K mm _ hh ⟨i,rfl,rfl,hi,xx,hall⟩ hK
 have Ch:=C.on xx
 dsimp only
 refine PIf.intro (fun hq=>?_) (fun hq=>?_)
 ·have hil:i<cl.length:=by have:=of_decide_eq_true hq;omega
  have hget:cl[i]? =some cl[i]:=List.getElem?_eq_getElem hil
  have hkc:=hk cl[i] (List.getElem_mem hil)
  have hmem:cl[i]∈cl:=List.getElem_mem hil
  have htk:cl.take (i+1)=cl.take i++ [cl[i]]:=by rw[List.take_add_one,hget];rfl
  generalize cl[i]=x at*
  rw[← vc.len]
  refine(vc.ext xx).idx hget fun a _ c0=>?_
  obtain⟨c0,c1,c2⟩:=c0.pair
  refine AL.mk c0 (AL.mk c1 (Ab.mk c2 (New.pair fun b3 h3 eb3 hb3 x3 s3=>?_)))
  have C3:=Ch.on x3
  refine atI (AP.mk (AC C3.cell rfl) (AL.mk (AC hb3 rfl) ?_))
  refine Mode.get C3.mode hkc (fun h7 x7=>⟨_,_,_,rfl,PIf.no rfl ?_⟩) ⟨_,_,_,rfl,PIf.yes rfl ?_⟩
  rotate_left
  ·have x03:=xx.trans x3
   exact H0 h3 k m ((C3.mode.aft).put (by omega) (by omega) hC fun x hx=>by rw[List.mem_singleton.1 hx];simp) (x03.weak fun c _ hc=>hc.elim) fun c hc=> .inl hc
  have hb7:=AU x7 hb3
  have xh7:=(xx.trans x3).trans x7
  refine Join.mk fun K1 hK1=>?_
  have hh:=QI (m:=mp) (c:=x)
  have bad:CL mp x=false→K1 (true,()) h7:=fun hf=>hK1 _ _ (PIf.yes rfl (by
   have hne: ¬cl.all (CL mp)=true:=fun h=>by
    have:=List.all_eq_true.1 h x hmem
    rw[hf] at this;cases this
   rw[if_neg hne] at He
   exact He (by decide) h7 xh7))
  have good:CL mp x=true→K1 (false,()) h7:=fun hf=>hK1 _ _ (PIf.no rfl (by
   rw[AR (by omega)]
   refine hK (cl.length-(i+1)) _ _ (by omega) ⟨i+1,rfl,rfl,hil,xh7,?_⟩
   rw[htk,List.all_append,hall]
   simp[hf]))
  refine Ab.mk (AB hb7 rfl) (PIf.intro (fun h1=>?_) (fun h1=>?_))
  ·exact bad (by rw[hh,h1];rfl)
  ·refine PIf.intro (fun h2=>?_) (fun h2=>?_)
   ·refine AL.mk (AB hb7 rfl) ?_
    cases h3:sEq (G6 mp x.key).1 x.val with
    |true=>exact good (by rw[hh,h1,h2,h3];rfl)
    |false=>exact bad (by rw[hh,h1,h2,h3];rfl)
   ·exact good (by rw[hh,h1,h2];rfl)
 ·have hil:i=cl.length:=by have:=of_decide_eq_false hq;omega
  subst hil
  rw[List.take_length] at hall
  rw[if_pos hall] at H1
  have e0:doC mp cl l=0:=by rw[e,if_pos hall]
  have szh:=xx.size
  have hb:=C.base
  refine atI (AP.mk (AC Ch.cell rfl) ?_)
  refine Mode.write (B:=B) (s:=sl) E Ch.mode hA hC (v.ext xx) (fun hne b hb=>by have:=hs hne b hb;exact⟨by omega,this.2⟩) hck (fun h9 k9 m9 M9 md9 kk9=>⟨_,rfl,?_⟩) (fun h9 k9 m9 A9 md9 kk9=>⟨_,rfl,?_⟩)
  ·have C9:=Ch.step M9 md9 kk9
   refine PIf.no rfl (atI (Aa.mk (AB C9.cell rfl) (atI ?_)))
   rw[AR (by have:=C.cnt;omega)]
   simp only[Bg,Nat.zero_add]
   refine Store.mk C9.cell (by simp) fun h10 hb10 md10 s10=>?_
   have C10:Eh B g h10 b d s k9 m9 (age+3) (c+64) (n+1) (wrL mp l):=⟨M9.beside md10 (fun c hc=>by subst hc;exact⟨C9.kz,C.base⟩),by simpa using hb10,C9.kz,C.base,hn⟩
   refine H1 rfl h10 k9 m9 C10 (((xx.weak fun c _ hc=>hc.elim).trans (md9.weak fun c _ hc=> .inl hc)).trans (md10.weak fun c _ hc=> .inr (.inr hc))) fun c hc=>?_
   rcases kk9 c hc with h|h
   ·exact .inl h
   ·exact .inr (by omega)
  ·refine PIf.yes rfl (H0 h9 k9 m9 (A9.put (Nat.le_refl _) (Nat.le_refl _) hC fun x hx=>by rw[show doM mp cl l=wrL mp l from if_pos e0];exact hx) ((xx.weak fun c _ hc=>hc.elim).trans (md9.weak fun c _ hc=> .inl hc)) fun c hc=>?_)
   rcases kk9 c hc with h|h
   ·exact .inl h
   ·exact .inr (by omega)
end
theorem AJj {m cl l:List Pr}:doC m cl l≠30:=by
 unfold doC
 split
 ·decide
 ·split
  ·unfold CQ
   split
   ·decide
   ·split
    ·decide
    ·generalize l=l0
     induction l0 with
     |nil=>decide
     |cons x l0 ih=>
      unfold EZ
      split
      ·unfold Ap
       split
       ·decide
       ·split<;>decide
      ·exact ih
  ·split<;>decide
end Go.Lf.G

