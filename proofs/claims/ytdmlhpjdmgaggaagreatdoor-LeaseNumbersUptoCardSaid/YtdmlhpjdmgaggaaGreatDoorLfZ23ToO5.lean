/-
 A store of conditions that is awake; the law CasCounts (chapter 10) over its formula.
-/
import Derived.Test.YtdmlhpjdmgaggaaGreatDoorLfZ17ToZ22
import Derived.Test.YtdmlhpjdmgaggaaGreatDoorLfY7ToM3
set_option linter.unusedVariables false
set_option linter.unusedSimpArgs false
set_option maxRecDepth 100000
set_option linter.unusedVariables false
set_option linter.unusedSimpArgs false
namespace Go.Lf.G
open Go
open M (Sorted Ag DR BJ Ai BD CV Ap OkL Ba atK Bc)
section
variable {A : Amb} {B : Bud} {g h : Heap} {m : Bx} {D : BO} {age c : Nat} {R : Value → Heap → Prop}
theorem Vj {b:Nat}{Sb:Nat→Prop}(E:Evn g)(Bx0:BU h b Sb m)(hx:Ext g h)(hSb: ∀c,Sb c→g.size≤c)(hd:m.down=false)(hfu:m.fuel= -1)(hl: ∀n,ff m (fnB nl n)=none)(hn: ∀n,ff m (fnB nn n)=none)(ht: ∀x,ff m x≠none→(bl x).head? ≠some 116)(hA:1≤B.A)(hw:wtF m.files≤B.W0)
  (H1: ∀h' s q' k' st' m' D',q'.b=b→D6 B g h' s q' k' st' m' D' 1 0 0→Bp st'= []→Mod (fun c=>Sb c∨h.size≤c) h h'→(∀ c,k' c≠0→Sb c∨h.size≤c)→h.size≤s→R (.tuple #[Aq s,.int .i64 0]) h'):AA A P EE #[Aq b] h R:=by
 refine Wq ?_
 unfold OX
 refine AJJ (B:=B) E Bx0 hx hSb hd hfu hl hn ht hA hw fun h1 q1 k1 st1 m1 D1 eb1 S1 fu1 mp1 _ md1 kk1=>⟨_,_,rfl,PIf.no rfl (New.mk fun h2 _ hb2 x2 s2=>?_)⟩
 have szg:=S1.mem.ext.size
 exact H1 h2 h1.size q1 k1 st1 m1 D1 eb1 ⟨S1.on x2,hb2,S1.free (Nat.le_refl _),szg,fu1,Nat.zero_le _⟩ mp1 ((md1.weak fun c _ hc=> .inl hc).trans (x2.weak fun c _ hc=>hc.elim)) kk1 md1.size
theorem AGQ {b:Nat}{Sb:Nat→Prop}{mp:List Pr}(E:Evn g)(Bx0:BU h b Sb m)(hx:Ext g h)(hSb: ∀c,Sb c→g.size≤c)(hd:m.down=false)(hfu:m.fuel= -1)(hr:Rec (ff m) age c mp)(hc:c≤B.C)(hA:age+1≤B.A)(hw:wtF m.files≤B.W0+age*B.K)
  (H1: ∀h' s q' k' st' m' D',q'.b=b→D6 B g h' s q' k' st' m' D' (age+1) c 0→Bp st'=mp→Mod (fun c=>Sb c∨h.size≤c) h h'→(∀ c,k' c≠0→Sb c∨h.size≤c)→h.size≤s→R (.tuple #[Aq s,.int .i64 0]) h'):AA A P EE #[Aq b] h R:=by
 refine Wq ?_
 unfold OX
 refine AIT (B:=B) E Bx0 hx hSb hd hr hc hA hw (fun hf=>absurd hfu hf) fun h1 q1 k1 st1 m1 D1 eb1 S1 sty1 mp1 _ md1 kk1=>⟨_,_,rfl,PIf.no rfl (New.mk fun h2 _ hb2 x2 s2=>?_)⟩
 have szg:=S1.mem.ext.size
 exact H1 h2 h1.size q1 k1 st1 m1 D1 eb1 ⟨S1.on x2,hb2,S1.free (Nat.le_refl _),szg,sty1.calm hfu,Nat.zero_le _⟩ mp1 ((md1.weak fun c _ hc=> .inl hc).trans (x2.weak fun c _ hc=>hc.elim)) kk1 md1.size
end
def cA:Pr:=⟨ka,⟨#[]⟩,true⟩
theorem AJZ:doC [] [cA] [pA1]=0:=by decide
theorem AKU:doC (wrL [] [pA1]) [cA] [pA1]=100:=by decide
theorem AGt {A:Amb}{h:Heap}{R:Value→Heap→Prop}(E:Evn h)(H: ∀h',Ext h h'→R (.bool true) h'):AA A P FL #[] h R:=by
 refine Qg ?_
 unfold IK
 refine OU fun b h1 Sb B1 x1 f1=>⟨_,rfl,?_⟩
 refine Vj (B:=AMJ) E B1 x1 f1 rfl rfl (fun n=>rfl) (fun n=>rfl) (fun x hx=>absurd rfl hx) (by decide) (by decide) fun h2 s q2 k2 st2 m2 D2 eb2 C2 mp2 md2 kk2 hs=>⟨_,_,rfl,?_⟩
 refine New.mk fun h3 _ hb3 x3 s3=>New.mk fun h4 _ hb4 x4 s4=>PIf.yes rfl ?_
 have C4:=(C2.on x3).on x4
 have vc:View Ak h4 ⟨some ⟨h2.size,0,none⟩,1,1⟩ [cA]:=(Own.lit (E:=Ak) (l:= [cA]) (AU x4 hb3) rfl (by decide)).view
 have vl:View Ak h4 ⟨some ⟨h3.size,0,none⟩,1,1⟩ [pA1]:=(Own.lit (E:=Ak) (l:= [pA1]) hb4 rfl (by decide)).view
 have k3z:k2 h3.size=0:=C2.db.free (by omega)
 have k2z:k2 h2.size=0:=C2.db.free (Nat.le_refl _)
 have hsl:=C2.lt
 have hkc: ∀x∈ [cA],x.key.size≤1099511627776:=fun x hx=>by rw[List.mem_singleton.1 hx];decide
 refine AC5 (B:=AMJ) (conds:=⟨some ⟨h2.size,0,none⟩,1,1⟩) (sl:=⟨some ⟨h3.size,0,none⟩,1,1⟩) E C4 (by decide) (by decide) (by decide) vc vl (fun _ b hb=>by
  have e:h3.size=b:=by simpa [Sl.blk] using hb
  subst e;exact⟨by omega,k3z⟩) hkc (fun hne=>absurd (by rw[mp2];exact AJZ) hne) fun _ h5 q5 k5 st5 m5 D5 ed5 eb5 C5 mp5 md5 kk5=>⟨_,rfl,PIf.yes rfl ?_⟩
 rw[mp2] at mp5
 have vc5:View Ak h5 ⟨some ⟨h2.size,0,none⟩,1,1⟩ [cA]:=vc.mod md5 fun c hc hm=>by
  have e:h2.size=c:=by simpa [Sl.blk] using hc
  subst e
  rcases hm with h|h|h
  ·exact h k2z
  ·omega
  ·omega
 have vl5:View Ak h5 ⟨some ⟨h3.size,0,none⟩,1,1⟩ [pA1]:=vl.mod md5 fun c hc hm=>by
  have e:h3.size=c:=by simpa [Sl.blk] using hc
  subst e
  rcases hm with h|h|h
  ·exact h k3z
  ·omega
  ·omega
 have e5:doC (Bp st5) [cA] [pA1]=100:=by rw[mp5];exact AKU
 refine AC5 (B:=AMJ) (conds:=⟨some ⟨h2.size,0,none⟩,1,1⟩) (sl:=⟨some ⟨h3.size,0,none⟩,1,1⟩) E C5 (by decide) (by decide) (by decide) vc5 vl5 (fun _ b hb=>by
  have e:h3.size=b:=by simpa [Sl.blk] using hb
  subst e
  have:=md5.size
  exact⟨by omega,Decidable.byContradiction fun hk=>by
   rcases kk5 _ hk with h|h
   ·exact h k3z
   ·omega⟩) hkc (fun _ h6 x6=>?_) (fun hz=>absurd hz (by rw[e5];decide))
 rw[e5]
 refine⟨_,rfl,PIf.yes rfl ?_⟩
 refine AIi (C5.on x6) ⟨_,rfl,?_⟩
 exact H h6 (C5.on x6).db.mem.ext
structure AB2 where
 kind:Int
 cs:Sl
 bs:Sl
 key:ByteArray
 frm:ByteArray
 most:Int
 all:Bool
def Vi:Enc AB2 where
 enc x:= [.int .i64 x.kind,.slice x.cs.p x.cs.len x.cs.cap,.slice x.bs.p x.bs.len x.bs.cap,.string x.key,.string x.frm,.int .i64 x.most,.bool x.all]
 w:=7
 len _:=rfl
 pos:=by omega
 one x v hv:=by simp at hv;rcases hv with rfl|rfl|rfl|rfl|rfl|rfl|rfl<;>rfl
theorem AKL {h:Heap}{a:Addr}{x:AB2}(c:Cells h a (Vi.enc x)):hget h a=some (.int .i64 x.kind)∧hget h (a.add 1)=some (.slice x.cs.p x.cs.len x.cs.cap)∧hget h (a.add 2)=some (.slice x.bs.p x.bs.len x.bs.cap)∧hget h (a.add 3)=some (.string x.key)∧hget h (a.add 4)=some (.string x.frm)∧hget h (a.add 5)=some (.int .i64 x.most)∧hget h (a.add 6)=some (.bool x.all):=by
 have h0:=c 0 _ rfl
 rw[add_zero] at h0
 exact⟨h0,c 1 _ rfl,c 2 _ rfl,c 3 _ rfl,c 4 _ rfl,c 5 _ rfl,c 6 _ rfl⟩
structure Xj (N:Nat) (h:Heap) (x:AB2) (cl l:List Pr):Prop where
 cs:View Ak h x.cs cl
 bs:View Ak h x.bs l
 keys: ∀c∈cl,c.key.size≤N
 key:x.key.size≤N
end Go.Lf.G

/-
 The formulas of functions, printed by lift.py; each with the theorem that it is what the lift reckons of the program.
-/
set_option linter.unusedVariables false
set_option maxRecDepth 100000
namespace Go.Lf.G
end Go.Lf.G

/-
 Contracts: strings.HasPrefix; what the document scans (chapter 10).
-/
set_option maxRecDepth 100000
set_option linter.unusedVariables false
set_option linter.unusedSimpArgs false
namespace Go.Lf.G
open Go
open M (Sorted Ag DR BJ Ai BD CV Ap OkL Ba atK Bc)
section
variable {A : Amb} {h : Heap} {R : Value → Heap → Prop}
end
end Go.Lf.G

/-
 Arguments of the statements on conditions, opened.
-/
set_option maxRecDepth 100000
set_option linter.unusedVariables false
set_option linter.unusedSimpArgs false
namespace Go.Lf.G
open Go Go.ChangeShapes Go.WideShapes Go.ChangeAt Go.RowKit Go.Proofs.YtdmlhpjdmgaggaaGreatDoor
theorem ALI:fieldsOf P AO=some [(Ad,0),(Ad,1),(Je,2)]:=by kernel_rfl
theorem ADh:P.cellsOf AO=Ak.w:=by kernel_rfl
theorem AMn:P.cellsOf Je=1:=by kernel_rfl
theorem AJ7:fieldsOf P Ea=some [(BL,0),(AV,1),(AV,2),(Ad,3),(Ad,4),(BL,5),(Je,6)]:=by kernel_rfl
theorem AD1:P.cellsOf Ea=Vi.w:=by kernel_rfl
theorem AB5:P.underlying GR=some (.slice Ea):=by kernel_rfl
section
variable {H : Type} {enc : TypeId × Value → H} {w : World} {base : Nat} {spare : Nat → Bool} {held : Bool}
theorem AL0 {n:Nat}{cs:List Value}{x:DataW H×List MemPlace}(h:DataW.trod enc P w base spare held n AO cs=some x):
  ∃y:Pr,cs=Ak.enc y∧y.key.size≤Rows.uptoBulk x.1:=by
 obtain⟨xs,m,hx,h1,h2,h3⟩:=WU ALI h
 rw[ADh] at h1
 match cs,h1 with
 | [c0,c1,c2],_=>
  match xs,h2 with
  | [x0,x1,x2],_=>
   have k0:=h3 0 _ rfl
   have k1:=h3 1 _ rfl
   have k2:=h3 2 _ rfl
   simp only[ALM,AMn] at k0 k1 k2
   obtain⟨n0,e0,g0,_⟩:=DataW.trod_string Yr k0
   obtain⟨n1,e1,g1,_⟩:=DataW.trod_string Yr k1
   obtain⟨n2,e2,_⟩:=DataW.trod_bool Qv k2
   simp at e0 e1 e2
   subst e0 e1 e2
   refine⟨⟨n0,n1,n2⟩,rfl,?_⟩
   subst hx
   have hs:n0.data.toList.length=n0.size:=by rw[Array.length_toList];rfl
   have hg:x0.1=_:=congrArg Prod.fst g0
   simp only[List.map_cons,List.map_nil,Rows.uptoBulk,Rows.uptoBulkAll,hg]
   omega
theorem ADz {n:Nat}{p:Option Addr}{len cap:Nat}{x:DataW H×List MemPlace}(h:DataW.trod enc P w base spare held n AV [.slice p len cap]=some x):
  ∃l:List Pr,View Ak w.heap ⟨p,len,cap⟩ l∧ ∀y∈l,y.key.size≤Rows.uptoBulk x.1:=by
 obtain⟨l,ds,V,hl,hq,hb⟩:=ACA (E:=Ak) (Q:=fun y d=>y.key.size≤Rows.uptoBulk d) M.AKD ADh (fun n cs x hx=>AL0 hx) h
 refine⟨l,V,fun y hy=>?_⟩
 obtain⟨d,hd,h1⟩:=Zr hl hq hy
 have h2:=Zj hd
 omega
theorem AFi {n:Nat}{cs:List Value}{x:DataW H×List MemPlace}(h:DataW.trod enc P w base spare held n Ea cs=some x):
  ∃y:AB2,cs=Vi.enc y∧ ∃cl l,Xj (Rows.uptoBulk x.1) w.heap y cl l:=by
 obtain⟨xs,m,hx,h1,h2,h3⟩:=WU AJ7 h
 rw[AD1] at h1
 match cs,h1 with
 | [c0,c1,c2,c3,c4,c5,c6],_=>
  match xs,h2 with
  | [x0,x1,x2,x3,x4,x5,x6],_=>
   have k0:=h3 0 _ rfl
   have k1:=h3 1 _ rfl
   have k2:=h3 2 _ rfl
   have k3:=h3 3 _ rfl
   have k4:=h3 4 _ rfl
   have k5:=h3 5 _ rfl
   have k6:=h3 6 _ rfl
   simp only[AMe,ANQ,ALM,AMn] at k0 k1 k2 k3 k4 k5 k6
   obtain⟨n0,e0,_,_⟩:=DataW.trod_int AA9 k0
   obtain⟨s1,e1⟩:=AB4 M.AKD k1
   obtain⟨s2,e2⟩:=AB4 M.AKD k2
   obtain⟨n3,e3,g3,_⟩:=DataW.trod_string Yr k3
   obtain⟨n4,e4,_,_⟩:=DataW.trod_string Yr k4
   obtain⟨n5,e5,_,_⟩:=DataW.trod_int AA9 k5
   obtain⟨n6,e6,_⟩:=DataW.trod_bool Qv k6
   have e1': [c1]= [.slice s1.p s1.len s1.cap]:=e1
   have e2': [c2]= [.slice s2.p s2.len s2.cap]:=e2
   simp at e0 e1 e2 e3 e4 e5 e6
   subst e0 e1 e2 e3 e4 e5 e6
   obtain⟨l1,v1,b1⟩:=ADz (p:=s1.p) (len:=s1.len) (cap:=s1.cap) k1
   obtain⟨l2,v2,_⟩:=ADz (p:=s2.p) (len:=s2.len) (cap:=s2.cap) k2
   refine⟨⟨n0,s1,s2,n3,n4,n5,n6⟩,rfl,l1,l2,v1,v2,fun c hc=>?_,?_⟩
   ·have:=b1 c hc
    subst hx
    simp only[List.map_cons,List.map_nil,Rows.uptoBulk,Rows.uptoBulkAll]
    omega
   ·subst hx
    have hs:n3.data.toList.length=n3.size:=by rw[Array.length_toList];rfl
    have hg:x3.1=_:=congrArg Prod.fst g3
    simp only[List.map_cons,List.map_nil,Rows.uptoBulk,Rows.uptoBulkAll,hg]
    omega
end
theorem AGm {H:Type}{enc:TypeId×Value→H}{W:World}{base:Nat}{v:Value}{d:DataW H}{ps:List MemPlace}(hv:Value.okWide P W .any base GR v)(h:DataW.Trod enc P W 0 (fun _=>true) true GR v d ps):
  ∃(s:Sl) (l:List AB2),v= .slice s.p s.len s.cap∧View Vi W.heap s l∧ ∀x∈l,∃cl lp,Xj (Rows.uptoBulk d) W.heap x cl lp:=by
 obtain⟨p,len,cap,rfl⟩:=okWide_slice AB5 hv
 obtain⟨n,hn⟩:=h
 obtain⟨l,ds,V,hl,hq,hb⟩:=ACA (E:=Vi) (Q:=fun y d=> ∃cl lp,Xj (Rows.uptoBulk d) W.heap y cl lp) AB5 AD1 (fun n cs x hx=>AFi hx) hn
 refine⟨⟨p,len,cap⟩,l,rfl,V,fun x hx=>?_⟩
 obtain⟨d',hd,cl,lp,c⟩:=Zr hl hq hx
 have h1:Rows.uptoBulk d'≤Rows.uptoBulkAll ds:=Zj hd
 exact⟨cl,lp,c.cs,c.bs,fun y hy=>by have:=c.keys y hy;dsimp only at hb;omega,by have:=c.key;dsimp only at hb;omega⟩
end Go.Lf.G

