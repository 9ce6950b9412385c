/-
 What a store tells (chapter 9): plain law: batches, tables one behind the other, what lives.
-/
import Derived.Test.YtdmlhpjdmgaggaaGreatDoorLfY8ToZ1
import Derived.Test.YtdmlhpjdmgaggaaGreatDoorLfU1ToU4
import Derived.Test.YtdmlhpjdmgaggaaGreatDoorLfGToH
import Derived.Lib.AppendZerosOnto
import Derived.Lib.Overlaps
import Derived.Laws.IdiomCopy
import Derived.Laws.Externs
import Derived.Test.YtdmlhpjdmgaggaaGreatDoorLfY7ToM3
set_option linter.unusedVariables false
set_option linter.unusedSimpArgs false
set_option maxRecDepth 100000
set_option linter.unusedVariables false
set_option linter.unusedSimpArgs false
namespace Go.Lf.G
open Go
open M (Sorted Ag DR BJ Ai BD CV Ap OkL Ba atK Bc Tx)
theorem AI6 {x:Pr}(h:JW x):Ap x=0:=by
 have h1:x.key≠(⟨#[]⟩:ByteArray):=fun e=>h.key (by rw[e];rfl)
 have h2:=h.keyMost
 have h3:=h.valMost
 unfold M.Ap
 rw[if_neg ?_,if_neg ?_]
 ·simp only[Bool.or_eq_true,decide_eq_true_eq];omega
 ·simp only[Bool.or_eq_true,Bool.and_eq_true,decide_eq_true_eq,Bool.not_eq_true',decide_eq_false_iff_not]
  rintro(h4|⟨h4,h5⟩)
  ·exact h1 h4
  ·exact h5 (Vw (h.gone h4))
theorem AHL {x:Pr}(h:Ap x=0):JW x:=by
 unfold M.Ap at h
 split at h
 ·cases h
 ·rename_i h1
  split at h
  ·cases h
  ·rename_i h2
   simp only[Bool.or_eq_true,Bool.and_eq_true,decide_eq_true_eq,Bool.not_eq_true',decide_eq_false_iff_not,not_or,not_and,Decidable.not_not] at h1 h2
   refine⟨fun e=>h1.1 (Vw e),by omega,by omega,fun hg=>?_⟩
   rw[h1.2 hg];rfl
theorem ADm {l:List Pr}(h: ∀x∈l,JW x):CV l:=fun x hx=>AI6 (h x hx)
theorem ABF(k:ByteArray): ∀ {b t:List Pr},Sorted t→CV b→Ag k (BJ t b)=(Ag k b.reverse).or (Ag k t)
 | [],t,_,_=>rfl
 |x::b,t,s,g=>by
  have gx:=g x (by simp)
  show Ag k (BJ (DR x t) b)=_
  rw[ABF k (M.Ml s) fun y hy=>g y (List.mem_cons_of_mem _ hy),List.reverse_cons,M.Uz,M.Nz gx,M.Uu x k s,M.Ay]
  cases Ag k b.reverse with
  |some p=>rfl
  |none=>
   by_cases h:x.key=k
   ·rw [if_pos h,if_pos h];rfl
   ·rw [if_neg h,if_neg h];rfl
def alive(o:Option Pr):Option Pr:=o.filter fun p=> !p.gone
theorem Ib(x:Pr):alive (some x)=if x.gone then none else some x:=by
 unfold alive
 cases hg:x.gone<;>simp[Option.filter,hg]
theorem V5(k:ByteArray): ∀ {l:List Pr},Sorted l→Ag k (Ba l)=alive (Ag k l)
 | [],_=>rfl
 |x::l,s=>by
  have s':=List.pairwise_cons.1 s
  have ih:=V5 k s'.2
  unfold M.Ba at ih ⊢
  rw[List.filter_cons,M.Ay]
  by_cases hk:x.key=k
  ·rw [if_pos hk]
   cases hg:x.gone with
   |false=>rw[if_pos (by rfl),M.Ay,if_pos hk,Ib,hg];rfl
   |true=>
    rw[if_neg (by simp),ih]
    have:Ag k l=none:=M.Fg fun y hy e=>M.Ko (s'.1 y hy) (hk.trans e.symm)
    rw[this,Ib,hg];rfl
  ·rw [if_neg hk]
   cases hg:x.gone with
   |false=>rw[if_pos (by rfl),M.Ay,if_neg hk];exact ih
   |true=>rw[if_neg (by simp)];exact ih
theorem Qi {l:List Pr}(s:Sorted l):Sorted (Ba l):=s.sublist List.filter_sublist
def Jt(fr:List Pr)(ts:List (List Pr)):List Pr:=Ba (Ai (fr::ts))
theorem Dm(fr:List Pr)(ts:List (List Pr)):Sorted (Jt fr ts):=Qi (M.Cs _)
theorem Ey(k:ByteArray){fr:List Pr}{ts:List (List Pr)}(o:OkL (fr::ts)):Ag k (Jt fr ts)=alive ((Ag k fr).or (BD k ts)):=by
 unfold Jt
 rw[V5 k (M.Cs _),M.Hr k o,M.Cw]
def wr1(m:List Pr)(p:Pr):List Pr:=m.take (atK p.key m)++(if p.gone then [] else [p])++m.drop (if Bc p.key m then atK p.key m+1 else atK p.key m)
def wrL(m b:List Pr):List Pr:=b.foldl wr1 m
theorem QE(k:ByteArray)(x:Pr)(l:List Pr):atK k (x::l)=if sLt x.key k then atK k l+1 else 0:=by
 unfold M.atK M.AAb;rw[List.takeWhile_cons];split<;>simp
theorem Yl(k:ByteArray)(x:Pr)(l:List Pr):Bc k (x::l)=if sLt x.key k then Bc k l else decide (x.key=k):=by
 unfold M.Bc;rw[QE];by_cases h:sLt x.key k=true<;>simp[h]
def AIt(k:ByteArray)(l:List Pr):List Pr:=l.filter fun q=> !decide (q.key=k)
theorem AHC {k:ByteArray}: ∀ {l:List Pr},Sorted l→l.take (atK k l)++l.drop (if Bc k l then atK k l+1 else atK k l)=AIt k l
 | [],_=>by simp[AIt]
 |x::l,s=>by
  have s':=List.pairwise_cons.1 s
  have ih:=AHC (k:=k) s'.2
  unfold AIt at ih ⊢
  rw[QE,Yl,List.filter_cons]
  by_cases hx:sLt x.key k=true
  ·have hne:x.key≠k:=M.Ko hx
   have e1:(!decide (x.key=k))=true:=by simp[hne]
   simp only[hx,if_true,e1,List.take_succ_cons,List.cons_append]
   rw[← ih]
   cases ht:Bc k l<;>simp
  ·rw [if_neg hx,if_neg hx,List.take_zero,List.nil_append]
   have hrest:l.filter (fun q=> !decide (q.key=k))=l:=by
    refine List.filter_eq_self.2 fun y hy=>?_
    have h1:=s'.1 y hy
    by_cases e:y.key=k
    ·rw [e] at h1;exact absurd h1 hx
    ·simp [e]
   by_cases hk:x.key=k
   ·rw [if_pos (by simp[hk]),if_neg (by simp[hk]),hrest];rfl
   ·rw [if_neg (by simp[hk]),if_pos (by simp[hk]),hrest];rfl
theorem AJN {m:List Pr}(s:Sorted m)(p:Pr):wr1 m p=if p.gone then AIt p.key m else M.ins p m:=by
 unfold wr1
 cases hg:p.gone with
 |true=>simp only[if_true,List.append_nil];exact AHC s
 |false=>
  simp only[Bool.false_eq_true,if_false]
  have:=M.Xl p m
  unfold M.Tx at this
  exact this
theorem AKl(k k':ByteArray)(m:List Pr):Ag k (AIt k' m)=if k'=k then none else Ag k m:=by
 unfold AIt
 induction m with
 |nil=>split<;>rfl
 |cons x m ih=>
  rw[List.filter_cons,M.Ay]
  by_cases hx:x.key=k'
  ·rw [if_neg (by simp[hx]),ih]
   by_cases hk:k'=k
   ·rw [if_pos hk,if_pos hk]
   ·rw [if_neg hk,if_neg hk,if_neg (fun e=>hk (hx.symm.trans e))]
  ·rw [if_pos (by simp[hx]),M.Ay,ih]
   by_cases hk:x.key=k
   ·rw [if_pos hk,if_pos hk,if_neg (fun e=>hx (hk.trans e.symm))]
   ·rw [if_neg hk,if_neg hk]
theorem AAA {m:List Pr}(s:Sorted m)(p:Pr):Sorted (wr1 m p):=by
 rw[AJN s]
 split
 ·exact s.sublist List.filter_sublist
 ·exact M.SV p s
theorem YK {m:List Pr}(s:Sorted m)(p:Pr)(k:ByteArray):Ag k (wr1 m p)=if p.key=k then alive (some p) else Ag k m:=by
 rw[AJN s]
 cases hg:p.gone with
 |true=>rw[if_pos rfl,AKl,Ib,hg];rfl
 |false=>rw[if_neg (by simp),M.Uu p k s,Ib,hg];rfl
theorem SH: ∀ {b m:List Pr},Sorted m→Sorted (wrL m b)
 | [],_,s=>s
 |p::b,m,s=>SH (b:=b) (AAA s p)
theorem AE4(k:ByteArray): ∀ {b m:List Pr},Sorted m→Ag k (wrL m b)=match Ag k b.reverse with|some p=>alive (some p)|none=>Ag k m
 | [],_,_=>rfl
 |p::b,m,s=>by
  show Ag k (wrL (wr1 m p) b)=_
  rw[AE4 k (AAA s p),List.reverse_cons,M.Uz,M.Ay]
  cases Ag k b.reverse with
  |some q=>rfl
  |none=>
   rw[YK s]
   by_cases h:p.key=k
   ·rw [if_pos h,if_pos h];rfl
   ·rw [if_neg h,if_neg h];rfl
theorem Wn {fr b:List Pr}{ts:List (List Pr)}(o:OkL (fr::ts))(g:CV b):Jt (BJ fr b) ts=wrL (Jt fr ts) b:=by
 have sf:=o.sorted fr (by simp)
 have o2:OkL (BJ fr b::ts):=⟨fun l hl=>by
   rcases List.mem_cons.1 hl with rfl|hl
   ·exact M.Oh sf
   ·exact o.sorted l (by simp[hl]),fun l hl=>by
   rcases List.mem_cons.1 hl with rfl|hl
   ·exact M.Te (o.good fr (by simp))
   ·exact o.good l (by simp[hl])⟩
 refine(Dm _ _).ext (SH (Dm _ _)) fun k=>?_
 rw[Ey k o2,ABF k sf g,AE4 k (Dm _ _),Ey k o]
 cases Ag k b.reverse with
 |some p=>rfl
 |none=>rfl
theorem OkL.nil_cons {ts:List (List Pr)}(o:OkL ts):OkL ([]::ts):=⟨fun l hl=>by
  rcases List.mem_cons.1 hl with rfl|hl
  ·exact List.Pairwise.nil
  ·exact o.sorted l hl,fun l hl=>by
  rcases List.mem_cons.1 hl with rfl|hl
  ·exact fun _ h=>by cases h
  ·exact o.good l hl⟩
theorem OkL.tail {l:List Pr}{ts:List (List Pr)}(o:OkL (l::ts)):OkL ts:=⟨fun x hx=>o.sorted x (by simp[hx]),fun x hx=>o.good x (by simp[hx])⟩
theorem AEM {fr:List Pr}{ts:List (List Pr)}(o:OkL (fr::ts)):Jt [] (fr::ts)=Jt fr ts:=by
 refine(Dm _ _).ext (Dm _ _) fun k=>?_
 rw[Ey k (OkL.nil_cons o),Ey k o,M.Cw]
 rfl
theorem AD3(a b:Option Pr):alive (a.or (alive b))=alive (a.or b):=by
 cases a with
 |some p=>rfl
 |none=>
  cases b with
  |none=>rfl
  |some q=>cases hg:q.gone<;>simp[Ib,hg,alive]
def Er(ts:List (List Pr)):List Pr:=Ba (Ai ts)
theorem Xm {ts:List (List Pr)}:Sorted (Er ts)∧CV (Er ts):=⟨Qi (M.Cs _),fun x hx=>M.Ux _ x (List.mem_filter.1 hx).1⟩
theorem OkL.left {fr:List Pr}{ts:List (List Pr)}(o:OkL (fr::ts)):OkL [fr,Er ts]:=⟨fun l hl=>by
  rcases List.mem_cons.1 hl with rfl|hl
  ·exact o.sorted _ (by simp)
  ·rw [List.mem_singleton.1 hl];exact Xm.1,fun l hl=>by
  rcases List.mem_cons.1 hl with rfl|hl
  ·exact o.good _ (by simp)
  ·rw [List.mem_singleton.1 hl];exact Xm.2⟩
theorem R9 {fr:List Pr}{ts:List (List Pr)}(o:OkL (fr::ts)):Jt fr [Er ts]=Jt fr ts:=by
 refine(Dm _ _).ext (Dm _ _) fun k=>?_
 rw[Ey k (OkL.left o),Ey k o,M.Cw]
 have:Ag k (Er ts)=alive (BD k ts):=by
  unfold Er
  rw[V5 k (M.Cs _),M.Hr k (OkL.tail o)]
 rw[this]
 have h2:BD k ([]:List (List Pr))=none:=rfl
 rw[h2,Option.or_none,AD3]
theorem YU {fr:List Pr}{ts:List (List Pr)}(o:OkL (fr::ts))(h:Er ts= []):Jt fr []=Jt fr ts:=by
 rw[← R9 o,h]
 have o1:OkL [fr]:=⟨fun l hl=>by rw[List.mem_singleton.1 hl];exact o.sorted _ (by simp),fun l hl=>by rw[List.mem_singleton.1 hl];exact o.good _ (by simp)⟩
 have o2:OkL [fr,[]]:=by have:=OkL.left o;rw[h] at this;exact this
 refine(Dm _ _).ext (Dm _ _) fun k=>?_
 rw[Ey k o1,Ey k o2,M.Cw]
 rfl
theorem U0(l:List Pr):(Ba l).length≤l.length:=(List.filter_sublist).length_le
end Go.Lf.G

/-
 A store's files, step by step (chapter 9): plain law.
-/
set_option maxRecDepth 100000
set_option linter.unusedVariables false
set_option linter.unusedSimpArgs false
namespace Go.Lf.G
open Go
open M (Sorted Ag DR BJ Ai BD CV Ap OkL Ba)
theorem Qp {α:Type}{R:Nat→List α}{t:Nat}: ∀ {t':Nat},t≤t'→(∀ n,t≤n→n<t'→R n= [])→(List.range t').flatMap R=(List.range t).flatMap R
 |0,h,_=>by
  have:t=0:=by omega
  rw[this]
 |t'+1,h,hr=>by
  by_cases e:t=t'+1
  ·rw [e]
  ·rw [List.range_succ,List.flatMap_append,Qp (t':=t') (by omega) fun n h1 h2=>hr n h1 (by omega)]
   rw[List.flatMap_cons,hr t' (by omega) (by omega)];simp
theorem VW {α:Type}{R:Nat→List α}{s t:Nat}(hs:s<t)(hr: ∀n,s<n→R n= []):(List.range t).flatMap R=(List.range s).flatMap R++R s:=by
 rw[Qp (t:=s+1) (by omega) fun n h1 _=>hr n (by omega),List.range_succ,List.flatMap_append]
 simp
theorem YR {α:Type}{R R':Nat→List α}{t:Nat}(h: ∀n,n<t→R n=R' n):(List.range t).flatMap R=(List.range t).flatMap R':=by
 unfold List.flatMap
 congr 1
 exact List.map_congr_left fun n hn=>h n (List.mem_range.1 hn)
theorem ACG {D:BO}{s:Nat}{l:List Nt}{x:Nt}(h:D.N s=l++ [x])(hn: ∀n,s<n→D.N n= [])(ht:s<D.ntop):Ac D=x:=by
 unfold Ac Kh
 rw[VW ht hn,h,←List.append_assoc,List.getLast?_concat];rfl
theorem Ar.farL {F:Fls}{D:BO}(h:Ar F D){n:Nat}(hn:n=0∨D.ltop≤n):D.L n= []:=by simpa using h.log.far n hn
theorem Ar.farN {F:Fls}{D:BO}(h:Ar F D){n:Nat}(hn:n=0∨D.ntop≤n):D.N n= []:=by simpa using h.note.far n hn
theorem Ar.nonL {F:Fls}{D:BO}(h:Ar F D){n:Nat}(hn:n≤99999999)(hf:F (fnB nl n)=none):D.L n= []:=by
 by_cases e:n=0
 ·exact h.farL (.inl e)
 ·simpa using h.log.non n (by omega) hn hf
theorem Ar.nonN {F:Fls}{D:BO}(h:Ar F D){n:Nat}(hn:n≤99999999)(hf:F (fnB nn n)=none):D.N n= []:=by
 by_cases e:n=0
 ·exact h.farN (.inl e)
 ·simpa using h.note.non n (by omega) hn hf
theorem AFW(t a b:List Pr):BJ t (a++b)=BJ (BJ t a) b:=List.foldl_append
theorem AFU:CV ([]:List Pr):=fun _ h=>by cases h
theorem AGS:Sorted ([]:List Pr):=List.Pairwise.nil
theorem AFJ(D:BO):Sorted (DK D)∧CV (DK D):=⟨M.Oh AGS,M.Te AFU⟩
theorem FR.good {l:List Pr}(t:FR l):Sorted l∧CV l:=⟨t.inc,ADm t.ok⟩
theorem Ar.okL {F:Fls}{D:BO}(h:Ar F D):OkL (DK D::(Ac D).names.map D.T):=by
 refine⟨fun l hl=>?_,fun l hl=>?_⟩<;>rcases List.mem_cons.1 hl with rfl|hl
 ·exact(AFJ D).1
 ·obtain⟨n,hn,rfl⟩:=List.mem_map.1 hl
  exact(h.tab n hn).2.good.1
 ·exact(AFJ D).2
 ·obtain⟨n,hn,rfl⟩:=List.mem_map.1 hl
  exact(h.tab n hn).2.good.2
def Pm(D:BO)(s:Nat)(b:List Pr):BO:= {D with L:=Ij D.L s (D.L s++ [b]),ltop:=max D.ltop (s+1)}
theorem ABE {F:Fls}{D:BO}(h:Ar F D){s:Nat}{b:List Pr}(hs:(Ac D).frm≤s)(hn: ∀n,s<n→D.L n= []):F3 (Pm D s b)=F3 D++ [b]:=by
 have hst:s<max D.ltop (s+1):=by omega
 have e1:F3 D=(List.range s).flatMap (fun n=>if n<(Ac D).frm then [] else D.L n)++D.L s:=by
  have e0:F3 D=(List.range (max D.ltop (s+1))).flatMap fun n=>if n<(Ac D).frm then [] else D.L n:=by
   refine(Qp (by omega) fun n h1 h2=>?_).symm
   split
   ·rfl
   ·exact h.farL (.inr h1)
  rw[e0,VW (s:=s) hst (fun n hn'=>by
   split
   ·rfl
   ·exact hn n hn'),if_neg (by omega)]
 have e2:F3 (Pm D s b)=(List.range s).flatMap (fun n=>if n<(Ac D).frm then [] else Ij D.L s (D.L s++ [b]) n)++Ij D.L s (D.L s++ [b]) s:=by
  show(List.range (max D.ltop (s+1))).flatMap (fun n=>if n<(Ac D).frm then [] else Ij D.L s (D.L s++ [b]) n)=_
  rw[VW (s:=s) hst (fun n hn'=>by
   split
   ·rfl
   ·rw [Dk (by omega)];exact hn n hn'),if_neg (by omega)]
 rw[e1,e2,Ca,List.append_assoc]
 congr 1
 exact YR fun n hn'=>by rw[Dk (by omega)]
theorem AKN {F:Fls}{D:BO}(h:Ar F D){s:Nat}{b:List Pr}(hs:(Ac D).frm≤s)(hn: ∀n,s<n→D.L n= [])(hb:VG b):DK (Pm D s b)=BJ (DK D) b∧mapD (Pm D s b)=wrL (mapD D) b:=by
 have e:DK (Pm D s b)=BJ (DK D) b:=by
  unfold DK
  rw[ABE h hs hn,List.flatten_append,AFW]
  simp
 refine⟨e,?_⟩
 have:=Wn h.okL (ADm hb.ok)
 unfold mapD
 rw[e]
 exact this
theorem ALA {F G:Fls}{D:BO}(h:Ar F D){s:Nat}{b:List Pr}(hs:1≤s∧s+1≤99999999)(hb:VG b)(hl: ∀n,1≤n→n≤99999999→n≠s→Kk (F (fnB nl n)) (G (fnB nl n)))(hn: ∀n,1≤n→n≤99999999→Kk (F (fnB nn n)) (G (fnB nn n)))
  (ht: ∀n,Kk (F (tfN n)) (G (tfN n))) (ho: ∀x,(∀ n,x≠fnB nl n)→G x≠none→F x≠none) (hv: ∃x,G (fnB nl s)=some (x,bs0)∧KY (bl x) ((D.L s++ [b]).map (A8 s))):Ar G (Pm D s b):=by
 have ht': ∀n∈(Ac D).names,G (tfN n)=some (AY (Hq (D.T n)),bs0)∧FR (D.T n):=fun n hm=>
  let ⟨h1,h2⟩:=h.tab n hm
  ⟨Q5 (ht n) h2 h1,h2⟩
 refine⟨?_,?_,ht',fun n c hc=>?_,h.nts,fun x hx hd=>?_,by have:=h.tops;refine⟨?_,?_,this.2.2.1,this.2.2.2⟩<;>simp only[Pm]<;>omega⟩
 ·have:=h.log.put (G:=G) (top':=max D.ltop (s+1)) (s:=s) (v:=(D.L s++ [b]).map (A8 s)) ⟨hs.1,by omega⟩ (by omega) (fun n n1 n9 hne=>hl n n1 n9 hne) (.inr hv) (by omega)
  have e:(Ij (fun n=>(D.L n).map (A8 n)) s ((D.L s++ [b]).map (A8 s)))=fun n=>((Pm D s b).L n).map (A8 n):=by
   funext n
   show _=(Ij D.L s (D.L s++ [b]) n).map (A8 n)
   by_cases e:n=s
   ·subst e;rw[Ca,Ca]
   ·rw [Dk e,Dk e]
  rw[e] at this
  exact this
 ·exact h.note.keep h.tops.2.2.1 hn
 ·by_cases e:n=s
  ·subst e
   have hc:c∈Ij D.L n (D.L n++ [b]) n:=hc
   rw[Ca] at hc
   rcases List.mem_append.1 hc with hc|hc
   ·exact h.bat n c hc
   ·rw [List.mem_singleton.1 hc];exact hb
  ·have hc:c∈Ij D.L s (D.L s++ [b]) n:=hc
   rw[Dk e] at hc
   exact h.bat n c hc
 ·exact h.tonly x (ho x (fun n e=>by rw[e,OI] at hd;cases hd) hx) hd
def addN(D:BO)(s:Nat)(x:Nt)(T:Nat→List Pr):BO:= {D with N:=Ij D.N s [x],T:=T,ntop:=max D.ntop (s+1)}
theorem ABT {D:BO}{s:Nat}{x:Nt}{T:Nat→List Pr}(hn: ∀n,s<n→D.N n= []):Ac (addN D s x T)=x:=by
 refine ACG (s:=s) (l:= []) ?_ (fun n h=>?_) ?_
 ·show Ij D.N s [x] s=_
  rw[Ca];rfl
 ·show Ij D.N s [x] n= []
  rw[Dk (by omega)];exact hn n h
 ·show s<max D.ntop (s+1)
  omega
theorem AHG {F G:Fls}{D:BO}(h:Ar F D){s:Nat}{x:Nt}{T:Nat→List Pr}(hs:1≤s∧s+1≤99999999)(hx:YG x)(hn0: ∀n,s<n→D.N n= [])(hl: ∀n,1≤n→n≤99999999→Kk (F (fnB nl n)) (G (fnB nl n)))(hn: ∀n,1≤n→n≤99999999→n≠s→Kk (F (fnB nn n)) (G (fnB nn n)))
  (ht: ∀n∈x.names,G (tfN n)=some (AY (Hq (T n)),bs0)∧FR (T n)) (ho: ∀x,(∀ n,x≠fnB nn n)→(∀ n,x≠tfN n)→G x≠none→F x≠none) (hv: ∃y,G (fnB nn s)=some (y,bs0)∧KY (bl y) [Cv x]):Ar G (addN D s x T):=by
 refine⟨h.log.keep h.tops.1 hl,?_,fun n hm=>?_,h.bat,fun n y hy=>?_,fun y hy hd=>?_,by have:=h.tops;refine⟨this.1,this.2.1,?_,?_⟩<;>simp only[addN]<;>omega⟩
 ·have:=h.note.put (G:=G) (top':=max D.ntop (s+1)) (s:=s) (v:= [Cv x]) ⟨hs.1,by omega⟩ (by omega) (fun n n1 n9 hne=>hn n n1 n9 hne) (.inr hv) (by omega)
  have e:(Ij (fun n=>(D.N n).map Cv) s [Cv x])=fun n=>((addN D s x T).N n).map Cv:=by
   funext n
   show _=(Ij D.N s [x] n).map Cv
   by_cases e:n=s
   ·subst e;rw[Ca,Ca];rfl
   ·rw [Dk e,Dk e]
  rw[e] at this
  exact this
 ·rw [ABT hn0] at hm
  exact ht n hm
 ·have hy:y∈Ij D.N s [x] n:=hy
  by_cases e:n=s
  ·rw [e,Ca] at hy
   rw[List.mem_singleton.1 hy];exact hx
  ·rw [Dk e] at hy;exact h.nts n y hy
 ·by_cases e: ∃n,y=tfN n
  ·exact e
  ·exact h.tonly y (ho y (fun n e=>by rw[e,Pp] at hd;cases hd) (fun n e'=>e ⟨n,e'⟩) hy) hd
theorem Ar.tput {F G:Fls}{D:BO}(h:Ar F D)(hk: ∀x,(∀ n,n∉(Ac D).names→x≠tfN n)→G x=F x):Ar G D:=by
 refine h.same (fun n _ _=> .inl (hk _ fun k _=>Jc n k)) (fun n _ _=> .inl (hk _ fun k _=>Ld n k)) (fun n hn=> .inl (hk _ fun k hk' e=>hk' (by rw[← H7 e];exact hn))) fun x hx=>?_
 by_cases e: ∃n,x=tfN n
 ·exact .inr e
 ·exact .inl (by rw[← hk x fun n _ e'=>e ⟨n,e'⟩];exact hx)
open Classical in
noncomputable def Kj (D:BO) (G:Fls):BO:= {D with L:=fun n=>if n≤99999999∧G (fnB nl n)=none then [] else D.L n}
open Classical in
noncomputable def AGy (D:BO) (G:Fls):BO:= {D with N:=fun n=>if n≤99999999∧G (fnB nn n)=none then [] else D.N n}
theorem AGL {D:BO}{F G:Fls}(h:Ar F D)(hk: ∀n,n≤99999999→G (fnB nl n)=F (fnB nl n)∨(G (fnB nl n)=none∧n<(Ac D).frm)):F3 (Kj D G)=F3 D:=by
 unfold F3
 refine YR fun n hn=>?_
 show(if n<(Ac D).frm then [] else if n≤99999999∧G (fnB nl n)=none then [] else D.L n)=_
 by_cases e:n<(Ac D).frm
 ·rw [if_pos e,if_pos e]
 ·rw [if_neg e,if_neg e]
  split
  ·rename_i h1
   rcases hk n h1.1 with h2|h2
   ·rw [h2] at h1;exact(h.nonL h1.1 h1.2).symm
   ·exact absurd h2.2 e
  ·rfl
theorem AKa {F G:Fls}{D:BO}(h:Ar F D)(hk: ∀n,n≤99999999→G (fnB nl n)=F (fnB nl n)∨(G (fnB nl n)=none∧n<(Ac D).frm))(ho: ∀x,(∀ n,n≤99999999→x≠fnB nl n)→G x=F x):Ar G (Kj D G):=by
 refine⟨h.log.drop (fun n n9=>?_) (fun n hn=>?_),h.note.keep h.tops.2.2.1 fun n n1 n9=> .inl (ho _ fun k _ e=>R3 k n e.symm),fun n hn=>?_,fun n b hb=>?_,h.nts,fun x hx hd=>?_,h.tops⟩
 ·show _∨(G (fnB nl n)=none∧((if n≤99999999∧G (fnB nl n)=none then [] else D.L n).map (A8 n))= [])
  rcases hk n n9 with h1|h1
  ·by_cases h2:G (fnB nl n)=none
   ·right;exact⟨h2,by rw[if_pos ⟨n9,h2⟩];rfl⟩
   ·left
    refine⟨h1,?_⟩
    show((if n≤99999999∧G (fnB nl n)=none then [] else D.L n).map (A8 n))=_
    rw[if_neg fun hh=>h2 hh.2]
  ·right;exact⟨h1.1,by rw[if_pos ⟨n9,h1.1⟩];rfl⟩
 ·show((if n≤99999999∧G (fnB nl n)=none then [] else D.L n).map (A8 n))= []
  split
  ·rfl
  ·rw [h.farL hn];rfl
 ·rw [ho _ fun k _ e=>Jc k n e.symm];exact h.tab n hn
 ·have hb:b∈(if n≤99999999∧G (fnB nl n)=none then [] else D.L n):=hb
  split at hb
  ·cases hb
  ·exact h.bat n b hb
 ·exact h.tonly x (by rw[← ho x fun n _ e=>by rw[e,OI] at hd;cases hd];exact hx) hd
theorem ZB {D:BO}{G:Fls}{s:Nat}{x:Nt}(hs:D.N s= [x])(hn: ∀n,s<n→D.N n= [])(ht:s<D.ntop)(hg:G (fnB nn s)≠none):Ac (AGy D G)=x:=by
 refine ACG (s:=s) (l:= []) ?_ (fun n h=>?_) ht
 ·show(if s≤99999999∧G (fnB nn s)=none then [] else D.N s)=_
  rw[if_neg fun h=>hg h.2];exact hs
 ·show(if n≤99999999∧G (fnB nn n)=none then [] else D.N n)= []
  split
  ·rfl
  ·exact hn n h
theorem AI9 {F G:Fls}{D:BO}(h:Ar F D){s:Nat}{x:Nt}(hs:D.N s= [x])(hn: ∀n,s<n→D.N n= [])(ht:s<D.ntop)(hg:G (fnB nn s)≠none)(hk: ∀n,n≤99999999→G (fnB nn n)=F (fnB nn n)∨G (fnB nn n)=none)(ho: ∀x,(∀ n,n≤99999999→x≠fnB nn n)→G x=F x):Ar G (AGy D G):=by
 have hl:Ac (AGy D G)=Ac D:=by rw[ZB hs hn ht hg,ACG (l:= []) hs hn ht]
 refine⟨h.log.keep h.tops.1 fun n n1 n9=> .inl (ho _ fun k _ e=>R3 n k e),h.note.drop (fun n n9=>?_) (fun n hn=>?_),fun n hm=>?_,h.bat,fun n b hb=>?_,fun x hx hd=>?_,h.tops⟩
 ·rcases hk n n9 with h1|h1
  ·by_cases h2:G (fnB nn n)=none
   ·right;refine⟨h2,?_⟩
    show((if n≤99999999∧G (fnB nn n)=none then [] else D.N n).map Cv)= []
    rw[if_pos ⟨n9,h2⟩];rfl
   ·left
    refine⟨h1,?_⟩
    show((if n≤99999999∧G (fnB nn n)=none then [] else D.N n).map Cv)=_
    rw[if_neg fun hh=>h2 hh.2]
  ·right;refine⟨h1,?_⟩
   show((if n≤99999999∧G (fnB nn n)=none then [] else D.N n).map Cv)= []
   rw[if_pos ⟨n9,h1⟩];rfl
 ·show((if n≤99999999∧G (fnB nn n)=none then [] else D.N n).map Cv)= []
  split
  ·rfl
  ·rw [h.farN hn];rfl
 ·rw [hl] at hm
  rw[ho _ fun k _ e=>Ld k n e.symm];exact h.tab n hm
 ·have hb:b∈(if n≤99999999∧G (fnB nn n)=none then [] else D.N n):=hb
  split at hb
  ·cases hb
  ·exact h.nts n b hb
 ·exact h.tonly x (by rw[← ho x fun n _ e=>by rw[e,Pp] at hd;cases hd];exact hx) hd
structure Nxt (D:BO) (s:Nat) (x:Nt) (T:Nat→List Pr) (D':BO):Prop where
 L:D'.L=D.L
 ltop:D'.ltop=D.ltop
 ntop:D'.ntop≤max D.ntop (s+1)
 last:(Ac D'=Ac D∧D'.T=D.T)∨(Ac D'=x∧D'.T=T)
theorem AJx {D:BO}{s:Nat}{x:Nt}{T:Nat→List Pr}(hn: ∀n,s<n→D.N n= []):Nxt D s x T (addN D s x T):=⟨rfl,rfl,Nat.le_refl _,.inr ⟨ABT hn,rfl⟩⟩
theorem AJd {D:BO}{s:Nat}{x:Nt}{T:Nat→List Pr}:Nxt D s x T D:=⟨rfl,rfl,by omega,.inl ⟨rfl,rfl⟩⟩
theorem AH5 {x:Nt}(h:YG x)(hs:(Cv x).length≤1048576):KY (bl (AY (CE (Cv x)))) [Cv x]:=by
 rw[IU]
 have:=O0 (rs:= [Cv x]) (fun r hr=>by rw[List.mem_singleton.1 hr];exact hs) (t:= []) Qr
 simpa using this
theorem AIj {F F1:Fls}{D:BO}{s:Nat}{x:Nt}{T:Nat→List Pr}(h:Ar F D)(hs:1≤s∧s+1≤99999999)(hx:YG x)(hl:(Cv x).length≤1048576)(hn0: ∀n,s≤n→n≤99999999→F (fnB nn n)=none)
  (ht: ∀n∈x.names,F (tfN n)=some (AY (Hq (T n)),bs0)∧FR (T n)) (hF1: ∀y,F1 y=if y=fnB nn s then some (AY (CE (Cv x)),bs0) else F y):Ar F1 (addN D s x T)∧ ∀n,s<n→D.N n= []:=by
 have hN: ∀n,s<n→D.N n= []:=fun n hn=>by
  by_cases h9:n≤99999999
  ·exact h.nonN h9 (hn0 n (by omega) h9)
  ·exact h.farN (.inr (by have:=h.tops;omega))
 refine⟨AHG h hs hx hN (fun n _ _=> .inl ?_) (fun n _ _ hne=> .inl ?_) (fun n hn=>?_) (fun y h1 _ hy=>?_) ⟨_,by rw[hF1,if_pos rfl],AH5 hx hl⟩,hN⟩
 ·rw [hF1,if_neg (R3 n s)]
 ·rw [hF1,if_neg fun e=>hne (GZ e)]
 ·rw [hF1,if_neg fun e=>Ld s n e.symm];exact ht n hn
 ·rw [hF1,if_neg (h1 s)] at hy;exact hy
theorem AIr {F F1 G:Fls}{D:BO}{s:Nat}{x:Nt}{T:Nat→List Pr}(h:Ar F D)(hs:1≤s∧s+1≤99999999)(hx:YG x)(hl:(Cv x).length≤1048576)(hn0: ∀n,s≤n→n≤99999999→F (fnB nn n)=none)
  (ht: ∀n∈x.names,F (tfN n)=some (AY (Hq (T n)),bs0)∧FR (T n)) (hF1: ∀y,F1 y=if y=fnB nn s then some (bs0,AY (CE (Cv x))) else F y) (c:Hd F1 G): ∃D',Ar G D'∧Nxt D s x T D':=by
 have hN: ∀n,s<n→D.N n= []:=fun n hn=>by
  by_cases h9:n≤99999999
  ·exact h.nonN h9 (hn0 n (by omega) h9)
  ·exact h.farN (.inr (by have:=h.tops;omega))
 have hNs:D.N s= []:=h.nonN (by omega) (hn0 s (Nat.le_refl _) (by omega))
 have kl: ∀n,1≤n→n≤99999999→Kk (F (fnB nl n)) (G (fnB nl n)):=fun n n1 n9=>by
  have e:F1 (fnB nl n)=F (fnB nl n):=by rw[hF1,if_neg (R3 n s)]
  have:=c.firm (x:=fnB nl n) fun p hp=>(h.log.has n p n1 n9 (e▸hp)).1
  rwa [e] at this
 have kn: ∀n,1≤n→n≤99999999→n≠s→Kk (F (fnB nn n)) (G (fnB nn n)):=fun n n1 n9 hne=>by
  have e:F1 (fnB nn n)=F (fnB nn n):=by rw[hF1,if_neg fun e=>hne (GZ e)]
  have:=c.firm (x:=fnB nn n) fun p hp=>(h.note.has n p n1 n9 (e▸hp)).1
  rwa [e] at this
 have kt: ∀n l,F (tfN n)=some (AY (Hq l),bs0)→FR l→G (tfN n)=some (AY (Hq l),bs0):=fun n l hf t=>by
  have e:F1 (tfN n)=F (tfN n):=by rw[hF1,if_neg fun e=>Ld s n e.symm]
  have:=c.firm (x:=tfN n) fun p hp=>by rw[e,hf] at hp;cases hp;rfl
  rw[e] at this
  exact Q5 this t hf
 have ko: ∀y,(∀ n,y≠fnB nn n)→G y≠none→F y≠none:=fun y hy hg hf=>hg (by
  have:=c y
  rw[hF1,if_neg (hy s),hf] at this
  exact this)
 have hc:=c (fnB nn s)
 rw[hF1,if_pos rfl] at hc
 obtain⟨j,hj⟩:=hc
 have tr:=AHm (rs:= []) (r:=Cv x) (fun r hr=>by rw[List.nil_append] at hr;rw[List.mem_singleton.1 hr];exact hl) j
 have e0:AY (wraps [])=bs0:=rfl
 rw[e0] at tr
 have old:(G (fnB nn s)=none∨ ∃y,G (fnB nn s)=some (y,bs0)∧KY (bl y) [])→ ∃D',Ar G D'∧Nxt D s x T D':=fun hv=>by
  have e1:Kh {D with ntop:=max D.ntop (s+1)}=Kh D:=Qp (by show D.ntop≤max D.ntop (s+1);omega) fun n h1 _=>h.farN (.inr h1)
  have e2:Ac {D with ntop:=max D.ntop (s+1)}=Ac D:=by unfold Ac;rw[e1]
  refine⟨{D with ntop:=max D.ntop (s+1)},⟨h.log.keep h.tops.1 kl,?_,fun n hm=>?_,h.bat,h.nts,fun y hy hd=>?_,by have:=h.tops;refine⟨this.1,this.2.1,?_,?_⟩<;>simp only[]<;>omega⟩,⟨rfl,rfl,Nat.le_refl _,.inl ⟨e2,rfl⟩⟩⟩
  ·have:=h.note.put (G:=G) (top':=max D.ntop (s+1)) (s:=s) (v:= []) ⟨hs.1,by omega⟩ (by omega) (fun n n1 n9 hne=>kn n n1 n9 hne) (hv.imp (fun h=>⟨h,rfl⟩) fun h=>h) (by omega)
   have e:(Ij (fun n=>(D.N n).map Cv) s [])=fun n=>(D.N n).map Cv:=by
    funext n
    by_cases e:n=s
    ·subst e;rw[Ca,hNs];rfl
    ·rw [Dk e]
   rw[e] at this
   exact this
  ·rw [e2] at hm
   obtain⟨h1,h2⟩:=h.tab n hm
   exact⟨kt n _ h1 h2,h2⟩
  ·exact h.tonly y (ko y (fun n e=>by rw[e,Pp] at hd;cases hd) hy) hd
 split at hj
 ·exact old (.inl hj)
 ·rcases tr with tr|tr
  ·exact old (.inr ⟨_,hj,tr⟩)
  ·exact⟨_,AHG h hs hx hN kl kn (fun n hn=>⟨kt n _ (ht n hn).1 (ht n hn).2,(ht n hn).2⟩) (fun y h1 _ hy=>ko y h1 hy) ⟨_,hj,tr⟩,AJx hN⟩
theorem AFB {F G:Fls}{D:BO}{s:Nat}{x:Nt}{T:Nat→List Pr}(h:Ar F (addN D s x T))(hN: ∀n,s<n→D.N n= [])(hs:F (fnB nn s)≠none)(hk: ∀y,G y=F y∨(G y=none∧ ∃n,n<s∧n≤99999999∧y=fnB nn n)): ∃D',Ar G D'∧Ac D'=x∧D'.T=T∧D'.L=D.L∧D'.ltop=D.ltop∧D'.ntop=max D.ntop (s+1):=by
 have e1:(addN D s x T).N s= [x]:=by show Ij D.N s [x] s=_;rw[Ca]
 have e2: ∀n,s<n→(addN D s x T).N n= []:=fun n hn=>by show Ij D.N s [x] n=_;rw[Dk (by omega)];exact hN n hn
 have e3:s<(addN D s x T).ntop:=by show s<max D.ntop (s+1);omega
 have hg:G (fnB nn s)≠none:=by
  rcases hk (fnB nn s) with h1|⟨_,n,h1,_,h2⟩
  ·rw [h1];exact hs
  ·have:=GZ h2;omega
 refine⟨AGy (addN D s x T) G,AI9 h e1 e2 e3 hg (fun n n9=>?_) fun y hy=>?_,ZB e1 e2 e3 hg,rfl,rfl,rfl,rfl⟩
 ·rcases hk (fnB nn n) with h1|h1
  ·exact .inl h1
  ·exact .inr h1.1
 ·rcases hk y with h1|⟨_,n,_,h9,h2⟩
  ·exact h1
  ·exact absurd h2 (hy n h9)
end Go.Lf.G

/-
 LIFT, part U22: an element laid ahead of an owned slice (what slices.Insert does at place 0).
-/
set_option maxRecDepth 100000
set_option linter.unusedVariables false
set_option linter.unusedSimpArgs false
namespace Go.Lf
open Go
variable {α : Type} {E : Enc α} {A : Amb} {P : Program}
def AD9(cs:Array Value):Nat→List Value→Array Value
 |_,[]=>cs
 |o,v::r=>AD9 (cs.setIfInBounds o v) (o+1) r
theorem Ho: ∀(vs:List Value) (cs:Array Value) (o:Nat),(AD9 cs o vs).size=cs.size
 | [],_,_=>rfl
 |v::r,cs,o=>by unfold AD9;rw[Ho r];simp
theorem OH: ∀(vs:List Value) (cs:Array Value) (o:Nat),o+vs.length≤cs.size→(AD9 cs o vs).toList=cs.toList.take o++vs++cs.toList.drop (o+vs.length)
 | [],cs,o,h=>by simp[AD9]
 |v::r,cs,o,h=>by
  have hl:cs.size=cs.toList.length:=by simp
  simp only[List.length_cons] at h
  unfold AD9
  rw[OH r _ (o+1) (by simp;omega)]
  rw[Array.toList_setIfInBounds,List.take_add_one,List.take_set_of_le (Nat.le_refl _),List.getElem?_set_self (by omega),List.drop_set_of_lt (by omega)]
  simp only[Option.toList_some,List.append_assoc,List.singleton_append,List.length_cons,List.cons_append,List.nil_append]
  rw[show o+1+r.length=o+(r.length+1) by omega]
theorem setCells_at {A:Amb}: ∀(vs:List Value) (o:Nat) {h:Heap} {n b:Nat} {cs:Array Value} {T:TypeId},h[b]? =some (.cells cs T (0,0))→ ∃h',(A.at h n).setCells b o vs=A.at h' n∧h'[b]? =some (.cells (AD9 cs o vs) T (0,0))∧Mod (· =b) h h'∧h'.size=h.size
 | [],o,h,n,b,cs,T,hb=>⟨h,rfl,hb,Mod.refl,rfl⟩
 |v::r,o,h,n,b,cs,T,hb=>by
  have hb1:(hset h ⟨b,o,none⟩ v)[b]? =some (.cells (cs.setIfInBounds o v) T (0,0)):=ABu hb
  obtain⟨h',e1,e2,e3,e4⟩:=setCells_at (A:=A) r (o+1) (n:=n) hb1
  refine⟨h',?_,e2,(Mod.set (S:=(· =b)) (a:=⟨b,o,none⟩) rfl).trans e3,by rw[e4,WQ]⟩
  show((A.at h n).setCell ⟨b,o,none⟩ v).setCells b (o+1) r=_
  rw[← e1];rfl
theorem AKi {t ti ty T:TypeId}{i:TypeInfo}{zv:Value}(ht:P.underlying t=some (.slice T))(hti:P.underlying ti=some (.int .i64))(hi:P.info? T=some i)(hz:i.zero=some zv)(h1:i.size=1)(hzc:zv.cells= #[zv]){h:Heap}{p:Option Addr}{cap k:Nat}{K:Sl→Heap→Prop}
  (h0:0<k) (hg:cap<k) (hk:k*i.bytes≤140737488355328) (hm:k≤maxLen) (hb:0<i.bytes)
  (H: ∀h' c cs,h'[h.size]? =some (.cells cs T (0,0))→cs.size=c→k≤c→c≤maxLen→Ext h h'→h'.size=h.size+1→K ⟨some ⟨h.size,0,none⟩,k,c⟩ h'):
  BK A P (Builtin.append_ #[t,ti] ty #[.slice p 0 cap,.int .i64 (k:Int)]) h fun v h'=> ∃s':Sl,v= .slice s'.p s'.len s'.cap∧K s' h':=by
 intro n
 have hold:(Builtin.firstCells i.size 0 (.slice p 0 cap)).run P (A.at h n).drew= .ok ([]:List Value).toArray (A.at h n).drew:=by
  cases p<;>simp[Builtin.firstCells,loadCells,loadCellsFrom]
 have hfit:Builtin.nextslicecap (0+k) cap*i.bytes≤281474976710656:=by rw[Nat.zero_add];exact growslice_fits (by omega) hk
 have hr:=Lib.run_append_grow_zeros (A.at h n) t ti ty T i zv .i64 .i64 ht hti hi hz p 0 cap [] hold k h0 (by omega) (by omega) (by simp only[maxLen] at hm;omega) (by omega) hfit
 simp only[Nat.zero_add] at hr
 have hc1:=grownCap_ge (A.at h n) k cap T
 have hc2:=grownCap_le_maxLen (A.at h n) k cap T hm
 generalize grownCap (A.at h n) k cap T=c at*
 refine⟨_,_,n+1,hr,⟨some ⟨h.size,0,none⟩,k,c⟩,rfl,H _ c _ (Array.getElem?_push_size ..) ?_ hc1 hc2 (Mod.push h _) (by show(h.push _).size=h.size+1;simp)⟩
 simp[Builtin.zeroCells,hzc]
 omega
theorem AHo {t ty T:TypeId}(ht:P.underlying t=some (.slice T))(hs:(P.info? T).map (·.size)=some 1){h:Heap}{b o dLen dCap sLen sCap:Nat}{a:Addr}{cs:Array Value}{vs:List Value}{K:Int→Heap→Prop}
  (hb:h[b]? =some (.cells cs T (0,0))) (hn:vs.length=min sLen dLen) (hsrc: ∀j v,vs[j]? =some v→hget h (a.add j)=some v) (hsz:o+vs.length≤cs.size) (h1: ∀v∈vs,Jj v=true)
  (H: ∀h',h'[b]? =some (.cells (AD9 cs o vs) T (0,0))→Mod (· =b) h h'→h'.size=h.size→K (vs.length:Int) h'):
  BK A P (Builtin.copy_ #[t,t] ty #[.slice (some ⟨b,o,none⟩) dLen dCap,.slice (some a) sLen sCap]) h fun v h'=> ∃k:Int,v= .int .i64 k∧K k h':=by
 intro n
 have hr:=run_copy_cells (P:=P) (A.at h n) t t ty T b o dLen dCap a sLen sCap vs ht hs hn hsrc
  (fun j hj=>by
   show(hget h ⟨b,o+j,none⟩).isSome=true
   rw[Il hb,Array.getElem?_eq_getElem (by omega)];rfl)
  (fun j hj=>Oc hb) (fun v hv=>Wj (h1 v hv))
 obtain⟨h',e1,e2,e3,e4⟩:=setCells_at (A:=A) vs o (n:=n) hb
 rw[e1] at hr
 exact⟨_,h',n,hr,_,rfl,H h' e2 e3 e4⟩
def ALt(A:Amb)(P:Program)(t ti:TypeId)(fo fr:FuncId)(s:Sl)(i:Int)(v:Sl)(h:Heap)(R:Value→Heap→Prop):Prop:=
 Chk ((0:Int)≤i∧i≤((s.len:Nat):Int))<|
 PIf (((v.len:Nat):Int)==(0:Int)) (
  R (.slice s.p s.len s.cap) h) (
  PIf (i==((s.len:Nat):Int)) (
   BK A P (Builtin.append_ #[t,t] t #[.slice s.p s.len s.cap,.slice v.p v.len v.cap]) h fun v1 h1=> ∃t25:Sl,v1= .slice t25.p t25.len t25.cap∧(
   R (.slice t25.p t25.len t25.cap) h1)) (
   PIf (decide ((IntKind.wrap .i64 (((s.len:Nat):Int)+((v.len:Nat):Int)))>((s.cap:Nat):Int))) (
    Chk ((0:Int)≤i∧i≤((s.cap:Nat):Int))<|
    BK A P (Builtin.append_ #[t,ti] t #[.slice (Ao s.p s.cap 0 1) (i.toNat-0) (s.cap-0),.int .i64 (IntKind.wrap .i64 ((IntKind.wrap .i64 (((s.len:Nat):Int)+((v.len:Nat):Int)))-i))]) h fun v2 h2=> ∃t40:Sl,v2= .slice t40.p t40.len t40.cap∧(
    Chk ((0:Int)≤i∧i≤((t40.len:Nat):Int))<|
    BK A P (Builtin.copy_ #[t,t] ti #[.slice (Ao t40.p t40.cap i.toNat 1) (t40.len-i.toNat) (t40.cap-i.toNat),.slice v.p v.len v.cap]) h2 fun v3 h3=> ∃t45:Int,v3= .int .i64 t45∧(
    Chk ((0:Int)≤(IntKind.wrap .i64 (i+((v.len:Nat):Int)))∧(IntKind.wrap .i64 (i+((v.len:Nat):Int)))≤((t40.len:Nat):Int))<|
    Chk ((0:Int)≤i∧i≤((s.len:Nat):Int))<|
    BK A P (Builtin.copy_ #[t,t] ti #[.slice (Ao t40.p t40.cap ((IntKind.wrap .i64 (i+((v.len:Nat):Int))).toNat) 1) (t40.len-((IntKind.wrap .i64 (i+((v.len:Nat):Int))).toNat)) (t40.cap-((IntKind.wrap .i64 (i+((v.len:Nat):Int))).toNat)),.slice (Ao s.p s.cap i.toNat 1) (s.len-i.toNat) (s.cap-i.toNat)]) h3 fun v4 h4=> ∃t54:Int,v4= .int .i64 t54∧(
    R (.slice t40.p t40.len t40.cap) h4)))) (
    Chk ((0:Int)≤(IntKind.wrap .i64 (((s.len:Nat):Int)+((v.len:Nat):Int)))∧(IntKind.wrap .i64 (((s.len:Nat):Int)+((v.len:Nat):Int)))≤((s.cap:Nat):Int))<|
    Chk ((0:Int)≤(IntKind.wrap .i64 (i+((v.len:Nat):Int)))∧(IntKind.wrap .i64 (i+((v.len:Nat):Int)))≤(((((IntKind.wrap .i64 (((s.len:Nat):Int)+((v.len:Nat):Int))).toNat)-0):Nat):Int))<|
    ALe A P fo #[.slice v.p v.len v.cap,.slice (Ao (Ao s.p s.cap 0 1) (s.cap-0) ((IntKind.wrap .i64 (i+((v.len:Nat):Int))).toNat) 1) ((((IntKind.wrap .i64 (((s.len:Nat):Int)+((v.len:Nat):Int))).toNat)-0)-((IntKind.wrap .i64 (i+((v.len:Nat):Int))).toNat)) ((s.cap-0)-((IntKind.wrap .i64 (i+((v.len:Nat):Int))).toNat))] h fun v5 h5=> ∃t67:Bool,v5= .bool t67∧(
    PIf (!t67) (
     Chk ((0:Int)≤(IntKind.wrap .i64 (i+((v.len:Nat):Int)))∧(IntKind.wrap .i64 (i+((v.len:Nat):Int)))≤(((((IntKind.wrap .i64 (((s.len:Nat):Int)+((v.len:Nat):Int))).toNat)-0):Nat):Int))<|
     Chk ((0:Int)≤i∧i≤(((((IntKind.wrap .i64 (((s.len:Nat):Int)+((v.len:Nat):Int))).toNat)-0):Nat):Int))<|
     BK A P (Builtin.copy_ #[t,t] ti #[.slice (Ao (Ao s.p s.cap 0 1) (s.cap-0) ((IntKind.wrap .i64 (i+((v.len:Nat):Int))).toNat) 1) ((((IntKind.wrap .i64 (((s.len:Nat):Int)+((v.len:Nat):Int))).toNat)-0)-((IntKind.wrap .i64 (i+((v.len:Nat):Int))).toNat)) ((s.cap-0)-((IntKind.wrap .i64 (i+((v.len:Nat):Int))).toNat)),.slice (Ao (Ao s.p s.cap 0 1) (s.cap-0) i.toNat 1) ((((IntKind.wrap .i64 (((s.len:Nat):Int)+((v.len:Nat):Int))).toNat)-0)-i.toNat) ((s.cap-0)-i.toNat)]) h5 fun v6 h6=> ∃t77:Int,v6= .int .i64 t77∧(
     Chk ((0:Int)≤i∧i≤(((((IntKind.wrap .i64 (((s.len:Nat):Int)+((v.len:Nat):Int))).toNat)-0):Nat):Int))<|
     BK A P (Builtin.copy_ #[t,t] ti #[.slice (Ao (Ao s.p s.cap 0 1) (s.cap-0) i.toNat 1) ((((IntKind.wrap .i64 (((s.len:Nat):Int)+((v.len:Nat):Int))).toNat)-0)-i.toNat) ((s.cap-0)-i.toNat),.slice v.p v.len v.cap]) h6 fun v7 h7=> ∃t82:Int,v7= .int .i64 t82∧(
     R (.slice (Ao s.p s.cap 0 1) (((IntKind.wrap .i64 (((s.len:Nat):Int)+((v.len:Nat):Int))).toNat)-0) (s.cap-0)) h7))) (
     Chk ((0:Int)≤((s.len:Nat):Int)∧((s.len:Nat):Int)≤(((((IntKind.wrap .i64 (((s.len:Nat):Int)+((v.len:Nat):Int))).toNat)-0):Nat):Int))<|
     BK A P (Builtin.copy_ #[t,t] ti #[.slice (Ao (Ao s.p s.cap 0 1) (s.cap-0) (((s.len:Nat):Int).toNat) 1) ((((IntKind.wrap .i64 (((s.len:Nat):Int)+((v.len:Nat):Int))).toNat)-0)-(((s.len:Nat):Int).toNat)) ((s.cap-0)-(((s.len:Nat):Int).toNat)),.slice v.p v.len v.cap]) h5 fun v8 h8=> ∃t88:Int,v8= .int .i64 t88∧(
     Chk ((0:Int)≤i∧i≤(((((IntKind.wrap .i64 (((s.len:Nat):Int)+((v.len:Nat):Int))).toNat)-0):Nat):Int))<|
     AA A P fr #[.slice (Ao (Ao s.p s.cap 0 1) (s.cap-0) i.toNat 1) ((((IntKind.wrap .i64 (((s.len:Nat):Int)+((v.len:Nat):Int))).toNat)-0)-i.toNat) ((s.cap-0)-i.toNat),.int .i64 ((v.len:Nat):Int)] h8 fun v9 h9=>v9= .tuple #[]∧(
     R (.slice (Ao s.p s.cap 0 1) (((IntKind.wrap .i64 (((s.len:Nat):Int)+((v.len:Nat):Int))).toNat)-0) (s.cap-0)) h9)))))))
theorem Sr {h:Heap}{b:Nat}{cs:Array Value}{T:TypeId}{fr:Nat×Nat}(hb:h[b]? =some (.cells cs T fr)){vs:List Value}{o:Nat}(hv:(cs.toList.drop o).take vs.length=vs): ∀j v,vs[j]? =some v→hget h ((⟨b,o,none⟩:Addr).add j)=some v:=fun j v hj=>by
 rw[Bg,Il hb]
 have hlt:=(List.getElem?_eq_some_iff.1 hj).1
 rw[← hv,List.getElem?_take,if_pos hlt,List.getElem?_drop] at hj
 simpa using hj
theorem ABm {t ti T tR:TypeId}{fo fr:FuncId}{zv:Value}{B:Nat}(hT:TN P t T 1 B=true)(hw:E.w=1)(hti:P.underlying ti=some (.int .i64))(hz:(P.info? T).bind (·.zero)=some zv)(hzc:zv.cells= #[zv])(hB:0<B)
  (hov: ∀args w,(callFunc fo args).run P w=((Extern.SlicesOverlaps.overlaps #[t,t] #[tR] args).run P w).andThen fun v w'=> .ok (.value v) w')
  {h:Heap} {s:Sl} {l:List α} {x:α} {xv:Value} {vb:Nat} (o:Own E T h s l) (hx:E.enc x= [xv]) (hv:h[vb]? =some (.cells #[xv] T (0,0))) (hne:s.blk≠some vb) (hl:l.length+1≤maxLen) (hlb:(l.length+1)*B≤140737488355328) {R:Value→Heap→Prop}
  (H: ∀s' h',Own E T h' s' (x::l)→Mod (fun b=>s.blk=some b) h h'→(∀ b,s'.blk=some b→s.blk=some b∨h.size≤b)→R (.slice s'.p s'.len s'.cap) h'):
  ALt A P t ti fo fr s (0:Int) ⟨some ⟨vb,0,none⟩,1,1⟩ h R:=by
 unfold ALt
 have hlen:=o.len
 have hmx:maxLen≤9223372036854775807:=by simp[maxLen]
 obtain⟨ht,i,z,hi,hzz,hsz,hby,hzs⟩:=ABb hT
 have ez:z=zv:=by
  rw[hi] at hz
  simp only[Option.bind_some] at hz
  rw[hzz] at hz
  exact Option.some.inj hz
 subst ez
 have hone:Jj xv=true:=E.one x xv (by rw[hx];simp)
 have hvb:=Ah hv
 refine⟨⟨Int.le_refl _,by omega⟩,PIf.no rfl ?_⟩
 refine PIf.intro (fun q=>?_) (fun q=>?_)
 ·have q:l= []:=by
   have:(0:Int)=((s.len:Nat):Int):=by simpa using q
   exact List.eq_nil_of_length_eq_zero (by omega)
  subst q
  have hvw:View E h ⟨some ⟨vb,0,none⟩,1,1⟩ [x]:=⟨rfl,Nat.le_refl _,fun j y hj=>⟨_,rfl,fun k u hk=>by
   have hj0:j=0:=by
    have:=(List.getElem?_eq_some_iff.1 hj).1
    simpa using this
   subst hj0
   simp only[List.getElem?_cons_zero,Option.some.injEq] at hj
   subst hj
   rw[hx] at hk
   have hk0:k=0:=by
    have:=(List.getElem?_eq_some_iff.1 hk).1
    simpa using this
   subst hk0
   simp only[List.getElem?_cons_zero,Option.some.injEq] at hk
   subst hk
   rw[Nat.zero_mul,Bg,Bg]
   exact AC hv rfl⟩⟩
  have hT':TN P t T E.w B=true:=by rw[hw];exact hT
  exact Gx (s:=s) (src:=⟨some ⟨vb,0,none⟩,1,1⟩) hT' o hvw (by simpa using hlb) (by simpa using hl) fun s' h' o' m' b' _=>H s' h' o' m' b'
 ·have hpos:0<l.length:=by
   have: ¬(0:Int)=((s.len:Nat):Int):=by simpa using q
   omega
  rcases o.row with⟨rfl,rfl⟩|⟨g,cur,hp,hg,hc1,hc2,hc3,hc4⟩
  ·simp at hpos
  ·rw [hw,Nat.mul_one] at hc3 hc4
   have hflat:(l.flatMap E.enc).length=l.length:=by rw[Iw,hw,Nat.mul_one]
   have hone2: ∀v∈l.flatMap E.enc,Jj v=true:=fun v hv'=>by
    obtain⟨y,_,hy⟩:=List.mem_flatMap.1 hv'
    exact E.one y v hy
   have hgv:g≠vb:=fun e=>hne (by rw[Sl.blk,hp,e];rfl)
   have hgb:=Ah hg
   have w1:IntKind.wrap .i64 (((s.len:Nat):Int)+(((1:Nat)):Int))=((l.length+1:Nat):Int):=by rw[hlen];exact AR (by omega)
   have w2:IntKind.wrap .i64 ((0:Int)+(((1:Nat)):Int))=((1:Nat):Int):=by decide
   have w3:IntKind.wrap .i64 (((l.length+1:Nat):Int)-(0:Int))=((l.length+1:Nat):Int):=by rw[Int.sub_zero];exact Fy (by omega)
   have sz1:(P.info? T).map (·.size)=some 1:=by rw[hi];simp[hsz]
   dsimp only
   rw[w1,w2,w3]
   have tn1:((1:Nat):Int).toNat=1:=rfl
   have tn0:(0:Int).toNat=0:=rfl
   have tnl:((l.length+1:Nat):Int).toNat=l.length+1:=by omega
   rw[tn1,tn0,tnl]
   have xvl: ∀j v,[xv][j]? =some v→hget h ((⟨vb,0,none⟩:Addr).add j)=some v:=Sr hv (by simp)
   refine PIf.intro (fun q2=>?_) (fun q2=>?_)
   ·have hroom:s.cap<l.length+1:=by
     have:((s.cap:Nat):Int)<((l.length+1:Nat):Int):=by simpa using q2
     omega
    refine⟨⟨Int.le_refl _,by omega⟩,?_⟩
    refine AKi (p:=Ao s.p s.cap 0 1) (cap:=s.cap) ht hti hi hzz hsz hzc (by omega) hroom (by rw[hby];exact hlb) hl (by omega) fun h2 c cs hb2 hcs hkc hcm x2 hs2=>⟨⟨Int.le_refl _,by dsimp only;omega⟩,?_⟩
    have e1:Ao (some (⟨h.size,0,none⟩:Addr)) c 0 1=some ⟨h.size,0,none⟩:=by
     unfold Ao;rw[if_neg (by omega)];rfl
    have e2:Ao (some (⟨h.size,0,none⟩:Addr)) c 1 1=some ⟨h.size,1,none⟩:=by
     unfold Ao;rw[if_neg (by omega)];rfl
    dsimp only
    rw[e1]
    refine AHo (vs:= [xv]) ht sz1 hb2 (by simp) (fun j v hj=>x2.hget (xvl j v hj)) (by simp;omega) (fun v hv'=>by rw[List.mem_singleton.1 hv'];exact hone) fun h3 hb3 m3 hs3=>⟨⟨by omega,by omega⟩,⟨Int.le_refl _,by omega⟩,?_⟩
    rw[e2,hp]
    have e3:Ao (some (⟨g,0,none⟩:Addr)) s.cap 0 1=some ⟨g,0,none⟩:=by
     unfold Ao;rw[if_neg (by omega)];rfl
    rw[e3]
    have hg3:h3[g]? =some (.cells cur T (0,0)):=m3.blk (x2.blk hg (fun h=>h)) (by omega)
    refine AHo (vs:=l.flatMap E.enc) ht sz1 hb3 (by rw[hflat];omega) (Sr hg3 (by rw[hflat,List.drop_zero,←hlen];exact hc4)) (by rw[Ho,hflat];omega) hone2 fun h4 hb4 m4 hs4=>?_
    refine H ⟨some ⟨h.size,0,none⟩,l.length+1,c⟩ h4 ⟨rfl,.inr ⟨h.size,_,rfl,hb4,hkc,hcm,by rw[Ho,Ho,hw,Nat.mul_one];exact hcs,?_⟩⟩ ?_ (fun b hb=> .inr (by simp[Sl.blk] at hb;omega))
    ·rw [OH _ _ _ (by rw[Ho,hflat];omega),OH _ _ _ (by simp;omega)]
     rw[hw,Nat.mul_one,List.flatMap_cons,hx]
     have hcl:cs.toList.length=c:=by simp[hcs]
     simp only[List.take_zero,List.nil_append,List.length_singleton]
     have f1:(([xv]++cs.toList.drop (0+1)).take 1)= [xv]:=by simp
     rw[f1,List.take_append_of_le_length (by simp[hflat])]
     rw[List.take_of_length_le (by simp[hflat])]
    ·refine((Ext.mod x2).trans ((m3.trans m4).weak (S':=fun b=>s.blk=some b∨b=h.size) fun c hc e=> .inr e)) |> fun hm=>?_
     exact⟨hm.size,fun b hb hn=>hm.get b hb (fun hh=>hh.elim hn (by omega))⟩
   ·have hroom:l.length+1≤s.cap:=by
     have: ¬((s.cap:Nat):Int)<((l.length+1:Nat):Int):=by simpa using q2
     omega
    have e3: ∀c,0<c→Ao (some (⟨g,0,none⟩:Addr)) c 0 1=some ⟨g,0,none⟩:=fun c hc=>by
     unfold Ao;rw[if_neg (by omega)];rfl
    have e4: ∀c,1<c→Ao (some (⟨g,0,none⟩:Addr)) c 1 1=some ⟨g,1,none⟩:=fun c hc=>by
     unfold Ao;rw[if_neg (by omega)];rfl
    refine⟨⟨by omega,by omega⟩,⟨by omega,by omega⟩,?_⟩
    rw[hp,e3 _ (by omega),Nat.sub_zero,Nat.sub_zero,Nat.sub_zero,e3 _ (by omega),e4 _ (by omega)]
    intro n
    refine⟨.bool false,h,n,?_,false,rfl,PIf.yes rfl ⟨⟨by omega,by omega⟩,⟨Int.le_refl _,by omega⟩,?_⟩⟩
    ·rw [hov,Lib.run_overlaps_apart (A.at h n) t tR T ht 1 (fun w=>by rw[Go.run_sizeOf w hi];simp[Program.cellsOf,hi,hsz]) ⟨vb,0,none⟩ ⟨g,1,none⟩ 1 1 _ _ (fun e=>hgv e.symm) T T 1 s.cap
      (by show(match h[vb]? with|some (.cells c elem _)=>some (elem,c.size)|_=>none)=_;rw[hv];rfl) (by show(match h[g]? with|some (.cells c elem _)=>some (elem,c.size)|_=>none)=_;rw[hg];simp[hc3]) (by omega) (Oc hv) (Oc hv)]
     rfl
    ·refine AHo (vs:=l.flatMap E.enc) ht sz1 hg (by rw[hflat];omega) (Sr hg (by rw[hflat,List.drop_zero,←hlen];exact hc4)) (by rw[hflat];omega) hone2 fun h4 hb4 m4 hs4=>⟨⟨Int.le_refl _,by omega⟩,?_⟩
     refine AHo (vs:= [xv]) ht sz1 hb4 (by simp) (fun j v hj=>m4.hget (xvl j v hj) (by rw[add_block];exact fun e=>hgv e.symm)) (by rw[Ho];simp;omega) (fun v hv'=>by rw[List.mem_singleton.1 hv'];exact hone) fun h5 hb5 m5 hs5=>?_
     refine H ⟨some ⟨g,0,none⟩,l.length+1,s.cap⟩ h5 ⟨rfl,.inr ⟨g,_,rfl,hb5,hroom,hc2,by rw[Ho,Ho,hw,Nat.mul_one];exact hc3,?_⟩⟩ ((m4.trans m5).weak fun b _ e=>by rw[Sl.blk,hp,e];rfl) (fun b hb=> .inl (by rw[Sl.blk,hp];exact hb))
     rw[OH _ _ _ (by rw[Ho];simp;omega),OH _ _ _ (by rw[hflat];omega)]
     rw[hw,Nat.mul_one,List.flatMap_cons,hx]
     have hcl:cur.toList.length=s.cap:=by simp[hc3]
     have hd1:(cur.toList.take 1).length=1:=by simp;omega
     simp only[List.take_zero,List.nil_append,List.length_singleton,Nat.zero_add]
     rw[List.append_assoc (cur.toList.take 1),List.drop_append_of_le_length (by omega),List.drop_of_length_le (by omega),List.nil_append]
     rw[← List.append_assoc,List.take_append_of_le_length (by simp[hflat])]
     rw[List.take_of_length_le (by simp[hflat])]
end Go.Lf

/-
 Contracts: slices.Insert of one element at place 0, of tables and of integers.
-/
set_option maxRecDepth 100000
set_option linter.unusedVariables false
set_option linter.unusedSimpArgs false
namespace Go.Lf.G
open Go
def PtE:Enc Nat where
 enc t:= [Aq t]
 w:=1
 len _:=rfl
 pos:=by omega
 one x v hv:=by simp at hv;subst hv;rfl
theorem Cells.pt {h:Heap}{a:Addr}{x:Nat}(c:Cells h a (PtE.enc x)):hget h a=some (Aq x):=by
 have h0:=c 0 _ rfl
 rwa [add_zero] at h0
theorem AKT:TN P Ae Au PtE.w 8=true:=by kernel_rfl
theorem ovT(args:Array Value)(w:World):(callFunc DD args).run P w=((Extern.SlicesOverlaps.overlaps #[Ae,Ae] #[Je] args).run P w).andThen fun v w'=> .ok (.value v) w':=
 run_callFunc_extern (fn:=Proofs.Tryz.f119) Proofs.Tryz.func119 (by kernel_rfl) (by kernel_rfl) (by kernel_rfl) (by kernel_rfl) args w
theorem ovI(args:Array Value)(w:World):(callFunc FC args).run P w=((Extern.SlicesOverlaps.overlaps #[Bv,Bv] #[Je] args).run P w).andThen fun v w'=> .ok (.value v) w':=
 run_callFunc_extern (fn:=Proofs.Tryz.f121) Proofs.Tryz.func121 (by kernel_rfl) (by kernel_rfl) (by kernel_rfl) (by kernel_rfl) args w
theorem ANj:(P.info? Au).bind (·.zero)=some (.pointer none):=by kernel_rfl
theorem ANZ:(P.info? BL).bind (·.zero)=some (.int .i64 0):=by kernel_rfl
theorem AHB:P.underlying BL=some (.int .i64):=by kernel_rfl
theorem AMK(A:Amb)(s v:Sl)(i:Int)(h:Heap)(R:Value→Heap→Prop):Bz A s i v h R=ALt A P Ae BL DD EI s i v h R:=rfl
theorem AMf(A:Amb)(s v:Sl)(i:Int)(h:Heap)(R:Value→Heap→Prop):EF A s i v h R=ALt A P Bv BL FC GX s i v h R:=rfl
theorem ACy {A:Amb}{h:Heap}{s:Sl}{l:List Nat}{x vb:Nat}{R:Value→Heap→Prop}(o:Own PtE Au h s l)(hv:h[vb]? =some (.cells #[Aq x] Au (0,0)))(hne:s.blk≠some vb)(hl:l.length≤1000000)
  (H: ∀s' h',Own PtE Au h' s' (x::l)→Mod (fun b=>s.blk=some b) h h'→(∀ b,s'.blk=some b→s.blk=some b∨h.size≤b)→R (.slice s'.p s'.len s'.cap) h'):
  AA A P Aj #[.slice s.p s.len s.cap,.int .i64 0,.slice (some (⟨vb,0,none⟩:Addr)) 1 1] h R:=by
 refine Ew (v:=⟨some ⟨vb,0,none⟩,1,1⟩) ?_
 rw[AMK]
 exact ABm AKT rfl AHB ANj rfl (by decide) ovT o rfl hv hne (by simp[maxLen];omega) (by omega) H
theorem ACR {A:Amb}{h:Heap}{s:Sl}{l:List Int}{x:Int}{vb:Nat}{R:Value→Heap→Prop}(o:Own Eg BL h s l)(hv:h[vb]? =some (.cells #[.int .i64 x] BL (0,0)))(hne:s.blk≠some vb)(hl:l.length≤1000000)
  (H: ∀s' h',Own Eg BL h' s' (x::l)→Mod (fun b=>s.blk=some b) h h'→(∀ b,s'.blk=some b→s.blk=some b∨h.size≤b)→R (.slice s'.p s'.len s'.cap) h'):
  AA A P Bq #[.slice s.p s.len s.cap,.int .i64 0,.slice (some (⟨vb,0,none⟩:Addr)) 1 1] h R:=by
 refine KF (v:=⟨some ⟨vb,0,none⟩,1,1⟩) ?_
 rw[AMf]
 exact ABm Yc rfl AHB ANZ rfl (by decide) ovI o rfl hv hne (by simp[maxLen];omega) (by omega) H
end Go.Lf.G

/-
 A store in memory (chapter 9): where its parts lie, and what is kept of them.
-/
set_option maxRecDepth 100000
set_option linter.unusedVariables false
set_option linter.unusedSimpArgs false
namespace Go.Lf.G
open Go
structure Db where
 fr:List Pr
 ts:List (Nat×List Pr)
 next:Nat
 frm:Nat
 lseg:Nat
 nseg:Nat
 lmade:Bool
structure Hp where
 d:Nat
 b:Nat
 lg:Nat
 nt:Nat
 ft:Nat
 Sb:Nat→Prop
 ns:List M.CX
 tp:Sl
 np:Sl
 ps:List Nat
abbrev dbC(q:Hp)(st:Db)(down:Bool):Array Value:= #[Aq q.b,Aq q.lg,Aq q.nt,Aq q.ft,.slice q.tp.p q.tp.len q.tp.cap,.slice q.np.p q.np.len q.np.cap,.int .i64 (st.next:Int),.int .i64 (st.frm:Int),.bool down]
abbrev nmS(st:Db):List Int:=st.ts.map fun p=>(p.1:Int)
def AKt(h:Heap)(k:Nat→Nat)(t:Nat)(l:List Pr):Prop:= ∃lo hi,TabAt h t l (KD l) lo hi∧hi≤h.size∧(∀ c,lo≤c→c<hi→k c=8)∧FR l
structure DbH (g h:Heap) (q:Hp) (k:Nat→Nat) (st:Db) (m:Bx):Prop where
 cell:h[q.d]? =some (.cells (dbC q st false) Du (0,0))
 box:BU h q.b q.Sb m
 log:DI h q.lg q.b nl st.lseg st.lmade
 nts:DI h q.nt q.b nn st.nseg false
 fresh:M.Tab h q.ft q.ns st.fr
 tabs:Own PtE Au h q.tp q.ps
 tlen:q.ps.length=st.ts.length
 tab: ∀(i:Nat) (t:Nat) (p:Nat×List Pr),q.ps[i]? =some t→st.ts[i]? =some p→AKt h k t p.2
 names:Own Eg BL h q.np (nmS st)
 kd:k q.d=1
 kb: ∀c,q.Sb c→k c=2
 kl:k q.lg=3
 kn:k q.nt=4
 kf: ∀c,M.inT q.ft q.ns c→k c=5
 kt: ∀c,q.tp.blk=some c→k c=6
 kx: ∀c,q.np.blk=some c→k c=7
 own: ∀c,k c≠0→g.size≤c∧c<h.size
 ext:Ext g h
theorem QV {α:Type}{E:Enc α}{T:TypeId}{h:Heap}{s:Sl}{l:List α}(o:Own E T h s l){c:Nat}(hc:s.blk=some c):c<h.size:=by
 rcases o.row with⟨rfl,_⟩|⟨g,cur,hp,hg,_⟩
 ·simp [Sl.blk] at hc
 ·rw [Sl.blk,hp] at hc
  have:g=c:=by simpa using hc
  subst this;exact Ah hg
theorem AKt.mod {h h':Heap}{k k':Nat→Nat}{t:Nat}{l:List Pr}{S:Nat→Prop}(T:AKt h k t l)(x:Mod S h h')(hS: ∀c,k c=8→ ¬S c)(hk: ∀c,c<h.size→k' c=k c):AKt h' k' t l:=by
 obtain⟨lo,hi,T1,h1,h2,h3⟩:=T
 exact⟨lo,hi,T1.mod x fun c c1 c2=>hS c (h2 c c1 c2),Nat.le_trans h1 x.size,fun c c1 c2=>by rw[hk c (by omega)];exact h2 c c1 c2,h3⟩
structure DbR (C:Nat→Prop) (g h h':Heap) (q:Hp) (k:Nat→Nat) (st:Db) (m:Bx):Prop where
 ext:Ext g h'
 size:h.size≤h'.size
 cell: ¬C 1→h'[q.d]? =some (.cells (dbC q st false) Du (0,0))
 box: ¬C 2→BU h' q.b q.Sb m
 log: ¬C 3→DI h' q.lg q.b nl st.lseg st.lmade
 nts: ¬C 4→DI h' q.nt q.b nn st.nseg false
 fresh: ¬C 5→M.Tab h' q.ft q.ns st.fr
 tabs: ¬C 6→Own PtE Au h' q.tp q.ps
 names: ¬C 7→Own Eg BL h' q.np (nmS st)
 tab: ¬C 8→ ∀k',(∀ c,c<h.size→k' c=k c)→ ∀(i:Nat) (t:Nat) (p:Nat×List Pr),q.ps[i]? =some t→st.ts[i]? =some p→AKt h' k' t p.2
theorem DbH.rest {C:Nat→Prop}{g h h':Heap}{q:Hp}{k:Nat→Nat}{st:Db}{m:Bx}(W:DbH g h q k st m)(x:Mod (fun c=>C (k c)) h h')(h0: ¬C 0):DbR C g h h' q k st m:=by
 refine⟨⟨Nat.le_trans W.ext.size x.size,fun c hc _=>?_⟩,x.size,fun hC=>x.blk W.cell (by rw[W.kd];exact hC),fun hC=>W.box.mod x fun c hc=>by rw[W.kb c hc];exact hC,fun hC=>W.log.mod x (by rw[W.kl];exact hC),fun hC=>W.nts.mod x (by rw[W.kn];exact hC),
  fun hC=>W.fresh.mod x fun c hc=>by rw[W.kf c hc];exact hC,fun hC=>W.tabs.mod x fun c hc=>by rw[W.kt c hc];exact hC,fun hC=>W.names.mod x fun c hc=>by rw[W.kx c hc];exact hC,
  fun hC k' hk i t p h1 h2=>(W.tab i t p h1 h2).mod x (fun c hc=>by rw[hc];exact hC) hk⟩
 have hk:k c=0:=Decidable.byContradiction fun h=>by have:=(W.own c h).1;omega
 exact(x.get c (Nat.lt_of_lt_of_le hc W.ext.size) (by rw[hk];exact h0)).trans (W.ext.get c hc (fun h=>h))
section
variable {g h h' : Heap} {q : Hp} {k : Nat → Nat} {st : Db} {m : Bx}
theorem DbH.dlt(W:DbH g h q k st m):q.d<h.size:=Ah W.cell
theorem DbH.llt(W:DbH g h q k st m):q.lg<h.size:=Ah W.log
theorem DbH.nlt(W:DbH g h q k st m):q.nt<h.size:=Ah W.nts
theorem DbH.nSl(W:DbH g h q k st m): ¬q.Sb q.lg:=fun hc=>by have:=W.kb _ hc;rw[W.kl] at this;cases this
theorem DbH.nSn(W:DbH g h q k st m): ¬q.Sb q.nt:=fun hc=>by have:=W.kb _ hc;rw[W.kn] at this;cases this
theorem DbH.nSd(W:DbH g h q k st m): ¬q.Sb q.d:=fun hc=>by have:=W.kb _ hc;rw[W.kd] at this;cases this
theorem DbH.dl(W:DbH g h q k st m):q.d≠q.lg:=fun e=>by have:=W.kd;rw[e,W.kl] at this;cases this
theorem DbH.dn(W:DbH g h q k st m):q.d≠q.nt:=fun e=>by have:=W.kd;rw[e,W.kn] at this;cases this
theorem DbH.mine(W:DbH g h q k st m){c:Nat}(hc:k c≠0):g.size≤c:=(W.own c hc).1
theorem DbH.on(W:DbH g h q k st m)(x:Ext h h'):DbH g h' q k st m:=by
 have R:=W.rest (C:=fun _=>False) x (fun h=>h)
 exact⟨R.cell fun h=>h,R.box fun h=>h,R.log fun h=>h,R.nts fun h=>h,R.fresh fun h=>h,R.tabs fun h=>h,W.tlen,R.tab (fun h=>h) k (fun _ _=>rfl),R.names fun h=>h,W.kd,W.kb,W.kl,W.kn,W.kf,W.kt,W.kx,
  fun c hc=>⟨(W.own c hc).1,Nat.lt_of_lt_of_le (W.own c hc).2 x.size⟩,R.ext⟩
theorem DbH.beside {S:Nat→Prop}(W:DbH g h q k st m)(x:Mod S h h')(hS: ∀c,S c→k c=0∧g.size≤c):DbH g h' q k st m:=by
 have hx:Ext g h':=⟨Nat.le_trans W.ext.size x.size,fun c hc _=>(x.get c (Nat.lt_of_lt_of_le hc W.ext.size) fun h=>by have:=(hS c h).2;omega).trans (W.ext.get c hc (fun h=>h))⟩
 have n: ∀ {c},k c≠0→ ¬S c:=fun hc hs=>hc (hS _ hs).1
 exact⟨x.blk W.cell (n (by rw[W.kd];decide)),W.box.mod x fun c hc=>n (by rw[W.kb c hc];decide),W.log.mod x (n (by rw[W.kl];decide)),W.nts.mod x (n (by rw[W.kn];decide)),W.fresh.mod x fun c hc=>n (by rw[W.kf c hc];decide),
  W.tabs.mod x fun c hc=>n (by rw[W.kt c hc];decide),W.tlen,fun i t p h1 h2=>(W.tab i t p h1 h2).mod x (fun c hc=>n (by rw[hc];decide)) (fun _ _=>rfl),W.names.mod x fun c hc=>n (by rw[W.kx c hc];decide),W.kd,W.kb,W.kl,W.kn,W.kf,W.kt,W.kx,
  fun c hc=>⟨(W.own c hc).1,Nat.lt_of_lt_of_le (W.own c hc).2 x.size⟩,hx⟩
open Classical in
noncomputable def Iu (k:Nat→Nat) (n:Nat) (S:Nat→Prop) (j:Nat):Nat→Nat:=fun c=>if c<n then k c else if S c then j else 0
theorem Ec {n j c:Nat}{S:Nat→Prop}(hc:c<n):Iu k n S j c=k c:=by unfold Iu;rw[if_pos hc]
theorem Xt {n j c:Nat}{S:Nat→Prop}(hc:n≤c)(hs:S c):Iu k n S j c=j:=by unfold Iu;rw[if_neg (by omega),if_pos hs]
theorem RI {n j c:Nat}{S:Nat→Prop}(hc:n≤c)(hs: ¬S c):Iu k n S j c=0:=by unfold Iu;rw[if_neg (by omega),if_neg hs]
theorem DbH.boxed(W:DbH g h q k st m){S':Nat→Prop}{m':Bx}{j:Nat}{st':Db}(B:BU h' q.b S' m')(x:Mod (fun c=>q.Sb c∨(j=3∧c=q.lg)∨(j=4∧c=q.nt)) h h')(s: ∀c,S' c→q.Sb c∨h.size≤c)
  (e1:st'.fr=st.fr) (e2:st'.ts=st.ts) (e3:st'.next=st.next) (e4:st'.frm=st.frm)
  (l:(j≠3∧st'.lseg=st.lseg∧st'.lmade=st.lmade)∨DI h' q.lg q.b nl st'.lseg st'.lmade) (n:(j≠4∧st'.nseg=st.nseg)∨DI h' q.nt q.b nn st'.nseg false):
  DbH g h' {q with Sb:=S'} (Iu k h.size S' 2) st' m':=by
 have R:=W.rest (C:=fun c=>c=2∨(j=3∧c=3)∨(j=4∧c=4)) (h':=h') (x.weak fun c _ hc=>by
  rcases hc with hc|⟨h1,rfl⟩|⟨h1,rfl⟩
  ·exact .inl (W.kb c hc)
  ·exact .inr (.inl ⟨h1,W.kl⟩)
  ·exact .inr (.inr ⟨h1,W.kn⟩)) (by rintro(h|⟨_,h⟩|⟨_,h⟩)<;>cases h)
 have o: ∀ {c},c<h.size→Iu k h.size S' 2 c=k c:=fun hc=>Ec hc
 have ed:dbC {q with Sb:=S'} st' false=dbC q st false:=by simp only[dbC,e3,e4]
 refine⟨by rw[ed];exact R.cell (by omega),B,?_,?_,by rw[e1];exact R.fresh (by omega),R.tabs (by omega),by rw[e2];exact W.tlen,by rw[e2];exact R.tab (by omega) _ (fun c hc=>o hc),by rw[nmS,e2];exact R.names (by omega),
  by rw[o W.dlt];exact W.kd,fun c hc=>?_,by rw[o W.llt];exact W.kl,by rw[o W.nlt];exact W.kn,fun c hc=>by rw[o (W.fresh.lt hc)];exact W.kf c hc,fun c hc=>by rw[o (QV W.tabs hc)];exact W.kt c hc,
  fun c hc=>by rw[o (QV W.names hc)];exact W.kx c hc,fun c hc=>?_,R.ext⟩
 ·rcases l with⟨h1,h2,h3⟩|h1
  ·rw [h2,h3];exact R.log (by omega)
  ·exact h1
 ·rcases n with⟨h1,h2⟩|h1
  ·rw [h2];exact R.nts (by omega)
  ·exact h1
 ·by_cases hlt:c<h.size
  ·rw [o hlt]
   rcases s c hc with h1|h1
   ·exact W.kb c h1
   ·omega
  ·exact Xt (by omega) hc
 ·by_cases hlt:c<h.size
  ·rw [o hlt] at hc
   exact⟨(W.own c hc).1,by have:=R.size;omega⟩
  ·by_cases hs:S' c
   ·exact⟨by have:=W.ext.size;omega,B.lt hs⟩
   ·exact absurd (RI (by omega) hs) hc
theorem DbH.puts(W:DbH g h q k st m){ns':List M.CX}{l':List Pr}(T:M.Tab h' q.ft ns' l')(x:Mod (M.inT q.ft q.ns) h h')(s: ∀c,M.inT q.ft ns' c→M.inT q.ft q.ns c∨h.size≤c):
  DbH g h' {q with ns:=ns'} (Iu k h.size (M.inT q.ft ns') 5) {st with fr:=l'} m:=by
 have R:=W.rest (C:=fun c=>c=5) (h':=h') (x.weak fun c _ hc=>W.kf c hc) (by decide)
 have o: ∀ {c},c<h.size→Iu k h.size (M.inT q.ft ns') 5 c=k c:=fun hc=>Ec hc
 refine⟨R.cell (by decide),R.box (by decide),R.log (by decide),R.nts (by decide),T,R.tabs (by decide),W.tlen,R.tab (by decide) _ (fun c hc=>o hc),R.names (by decide),
  by rw[o W.dlt];exact W.kd,fun c hc=>by rw[o (W.box.lt hc)];exact W.kb c hc,by rw[o W.llt];exact W.kl,by rw[o W.nlt];exact W.kn,fun c hc=>?_,fun c hc=>by rw[o (QV W.tabs hc)];exact W.kt c hc,
  fun c hc=>by rw[o (QV W.names hc)];exact W.kx c hc,fun c hc=>?_,R.ext⟩
 ·by_cases hlt:c<h.size
  ·rw [o hlt]
   rcases s c hc with h1|h1
   ·exact W.kf c h1
   ·omega
  ·exact Xt (by omega) hc
 ·by_cases hlt:c<h.size
  ·rw [o hlt] at hc
   exact⟨(W.own c hc).1,by have:=R.size;omega⟩
  ·by_cases hs:M.inT q.ft ns' c
   ·exact⟨by have:=W.ext.size;omega,T.lt hs⟩
   ·exact absurd (RI (by omega) hs) hc
theorem DbH.renew(W:DbH g h q k st m){ft':Nat}(T:M.Tab h' ft' [] [])(hf:h.size≤ft')(hc:h'[q.d]? =some (.cells (dbC {q with ft:=ft'} st false) Du (0,0)))(x:Mod (fun c=>c=q.d) h h'):
  DbH g h' {q with ft:=ft',ns:= []} (Iu k h.size (· =ft') 5) {st with fr:= []} m:=by
 have R:=W.rest (C:=fun c=>c=1) (h':=h') (x.weak fun c _ hc=>by rw[hc];exact W.kd) (by decide)
 have o: ∀ {c},c<h.size→Iu k h.size (· =ft') 5 c=k c:=fun hc=>Ec hc
 have hi: ∀c,M.inT ft' [] c→c=ft':=fun c hc=>by
  rcases hc with rfl|⟨x,hx,_⟩
  ·rfl
  ·cases hx
 refine⟨hc,R.box (by decide),R.log (by decide),R.nts (by decide),T,R.tabs (by decide),W.tlen,R.tab (by decide) _ (fun c hc=>o hc),R.names (by decide),
  by rw[o W.dlt];exact W.kd,fun c hc=>by rw[o (W.box.lt hc)];exact W.kb c hc,by rw[o W.llt];exact W.kl,by rw[o W.nlt];exact W.kn,fun c hc=>by rw[hi c hc];exact Xt hf rfl,fun c hc=>by rw[o (QV W.tabs hc)];exact W.kt c hc,
  fun c hc=>by rw[o (QV W.names hc)];exact W.kx c hc,fun c hc=>?_,R.ext⟩
 by_cases hlt:c<h.size
 ·rw [o hlt] at hc
  exact⟨(W.own c hc).1,by have:=R.size;omega⟩
 ·by_cases hs:c=ft'
  ·subst hs;exact⟨by have:=W.ext.size;omega,T.lt (.inl rfl)⟩
  ·exact absurd (RI (S:=(· =ft')) (by omega) hs) hc
open Classical in
noncomputable def I6 (k:Nat→Nat) (n:Nat) (tp np:Sl) (S:Nat→Prop):Nat→Nat:=fun c=>if k c≠0 then k c else if tp.blk=some c then 6 else if np.blk=some c then 7 else if S c then 8 else 0
theorem DbH.retab(W:DbH g h q k st m){tp np:Sl}{ps:List Nat}{ts:List (Nat×List Pr)}{next frm:Nat}{S:Nat→Prop}
  (hc:h'[q.d]? =some (.cells (dbC {q with tp:=tp,np:=np} {st with next:=next,frm:=frm} false) Du (0,0))) (x:Mod (fun c=>c=q.d∨q.tp.blk=some c∨q.np.blk=some c) h h')
  (ot:Own PtE Au h' tp ps) (on:Own Eg BL h' np (ts.map fun p=>(p.1:Int))) (hlen:ps.length=ts.length)
  (st1: ∀c,tp.blk=some c→q.tp.blk=some c∨(k c=0∧g.size≤c∧np.blk≠some c∧ ¬S c)) (sn1: ∀c,np.blk=some c→q.np.blk=some c∨(k c=0∧g.size≤c∧tp.blk≠some c∧ ¬S c)) (hS: ∀c,S c→g.size≤c∧c<h'.size)
  (tab: ∀(i:Nat) (t:Nat) (p:Nat×List Pr),ps[i]? =some t→ts[i]? =some p→(∃ j:Nat,q.ps[j]? =some t∧st.ts[j]? =some p)∨ ∃lo hi,TabAt h' t p.2 (KD p.2) lo hi∧hi≤h'.size∧(∀ c,lo≤c→c<hi→S c∧k c=0)∧FR p.2):
  DbH g h' {q with tp:=tp,np:=np,ps:=ps} (I6 k h.size tp np S) {st with ts:=ts,next:=next,frm:=frm} m:=by
 have R:=W.rest (C:=fun c=>c=1∨c=6∨c=7) (h':=h') (x.weak fun c _ hc=>by
  rcases hc with rfl|hc|hc
  ·exact .inl W.kd
  ·exact .inr (.inl (W.kt c hc))
  ·exact .inr (.inr (W.kx c hc))) (by decide)
 have o: ∀ {c j},k c=j→j≠0→I6 k h.size tp np S c=j:=fun h1 h2=>by unfold I6;rw[if_pos (by rw[h1];exact h2)];exact h1
 refine⟨hc,R.box (by decide),R.log (by decide),R.nts (by decide),R.fresh (by decide),ot,hlen,fun i t p h1 h2=>?_,on,o W.kd (by decide),fun c hc=>o (W.kb c hc) (by decide),o W.kl (by decide),o W.kn (by decide),fun c hc=>o (W.kf c hc) (by decide),fun c hc=>?_,fun c hc=>?_,fun c hc=>?_,R.ext⟩
 ·rcases tab i t p h1 h2 with⟨j,h3,h4⟩|⟨lo,hi,T1,t1,t2,t3⟩
  ·obtain⟨lo,hi,T1,t1,t2,t3⟩:=R.tab (by decide) k (fun _ _=>rfl) j t p h3 h4
   exact⟨lo,hi,T1,t1,fun c c1 c2=>o (t2 c c1 c2) (by decide),t3⟩
  ·refine⟨lo,hi,T1,t1,fun c c1 c2=>?_,t3⟩
   obtain⟨s1,s2⟩:=t2 c c1 c2
   have n6:tp.blk≠some c:=fun e=>by
    rcases st1 c e with h|h
    ·have:=W.kt c h;rw[s2] at this;cases this
    ·exact h.2.2.2 s1
   have n7:np.blk≠some c:=fun e=>by
    rcases sn1 c e with h|h
    ·have:=W.kx c h;rw[s2] at this;cases this
    ·exact h.2.2.2 s1
   unfold I6
   rw[if_neg (by simp[s2]),if_neg n6,if_neg n7,if_pos s1]
 ·rcases st1 c hc with h1|h1
  ·exact o (W.kt c h1) (by decide)
  ·unfold I6;rw[if_neg (by simp[h1.1]),if_pos hc]
 ·rcases sn1 c hc with h1|h1
  ·exact o (W.kx c h1) (by decide)
  ·unfold I6;rw[if_neg (by simp[h1.1]),if_neg h1.2.2.1,if_pos hc]
 ·by_cases hk:k c=0
  ·unfold I6 at hc
   rw[if_neg (by simp[hk])] at hc
   by_cases h6:tp.blk=some c
   ·refine⟨?_,QV ot h6⟩
    rcases st1 c h6 with h1|h1
    ·have:=W.kt c h1;rw[hk] at this;cases this
    ·exact h1.2.1
   ·rw [if_neg h6] at hc
    by_cases h7:np.blk=some c
    ·refine⟨?_,QV on h7⟩
     rcases sn1 c h7 with h1|h1
     ·have:=W.kx c h1;rw[hk] at this;cases this
     ·exact h1.2.1
    ·rw [if_neg h7] at hc
     by_cases hs:S c
     ·exact hS c hs
     ·rw [if_neg hs] at hc;exact absurd rfl hc
  ·exact⟨(W.own c hk).1,by have:=(W.own c hk).2;have:=R.size;omega⟩
end
end Go.Lf.G

