/-
 LIFT, part A: worlds as heaps beside a fixed rest; one operation's outcome at the level of values; a region that draws its order, walked in the text's order.
-/
import Derived.WalkKit
import Derived.OrdersIn
import Derived.RangeFuncIn
import Derived.RangeFuncLeaves
import Derived.RangeFuncCalls
import Derived.TacticsInMore
import Derived.RangeFuncRecord
import Derived.Test.YtfiljlifdlfkkaaGreatDoorProg
set_option maxRecDepth 100000
set_option linter.unusedVariables false
set_option linter.unusedSimpArgs false
open Go.IntKind renaming i64→J9,wrap→J8
open Go.Value renaming string→J7,int→J6,pointer→J5,slice→J4,bool→J3,tuple→J1
open Go.Obj renaming cells→J2
open Go renaming Value→J0,Addr→Q6,TypeId→Q7,FuncId→Q8,Program→Q1
open Go.Addr renaming add→Q9,mk→Q5
namespace Go.Lf
abbrev Q2:=Option Q6
abbrev A31:=ByteArray
abbrev A0:=@Nat.le_refl
abbrev A1:=@List.length_append
abbrev A2:=@List.getElem?_eq_getElem
abbrev A3:=@Bool.and_eq_true
abbrev A4:=@List.append_assoc
abbrev A5:=@Nat.mod_eq_of_lt
abbrev A6:=@Nat.zero_le
abbrev An:=@Int.toNat_natCast
abbrev As:=@List.take_of_length_le
abbrev Ax:=@List.length_cons
abbrev AD:=@List.length_take
abbrev AE:=@List.take_add_one
abbrev AF:=@List.length_map
abbrev AG:=@List.mem_of_getElem?
abbrev AH:=@Nat.zero_add
abbrev AI:=@List.mem_cons_of_mem
abbrev AK:=@Nat.le_trans
abbrev AM:=@Nat.mul_one
abbrev AN:=@List.getElem?_map
abbrev AS:=@List.append_nil
abbrev AT:=@List.filter_cons
abbrev AW:=@List.flatMap_cons
abbrev B8:=@List.mem_cons_self
abbrev B9:=@Option.some.inj
abbrev Bk:=@Option.some.injEq
abbrev Bm:=@Nat.mul_le_mul_right
abbrev Bs:=@List.map_append
abbrev By:=@Nat.mod_lt
abbrev BE:=@List.length_singleton
abbrev BT:=@List.getElem_mem
abbrev BW:=@Bool.false_eq_true
abbrev BY:=@List.map_cons
abbrev C5:=@List.getElem?_drop
abbrev Cd:=@Bool.not_eq_true'
abbrev Cl:=@Nat.mul_comm
abbrev Cp:=@List.map_map
abbrev CA:=@Iff.rfl
abbrev CC:=@Nat.lt_or_ge
abbrev CD:=@List.take_length
abbrev CH:=@Bool.or_eq_true
abbrev CI:=@List.getElem_of_mem
abbrev CM:=@List.eq_nil_of_length_eq_zero
abbrev CN:=@Nat.add_mul
abbrev CT:=@Nat.add_zero
abbrev D0:=@Nat.pow_succ
abbrev Dd:=@List.cons_append
abbrev Ds:=@Array.getElem?_setIfInBounds_ne
abbrev DA:=@List.mem_of_mem_take
abbrev DB:=@List.getElem?_of_mem
abbrev DE:=@List.getElem?_append_right
abbrev DG:=@List.nil_append
abbrev DH:=@Bool.eq_iff_iff
abbrev DM:=@List.getElem?_set_self
abbrev DO:=@Array.toList_setIfInBounds
abbrev DP:=@List.getElem?_set_ne
abbrev DQ:=@Nat.shiftLeft_zero
abbrev DS:=@List.find?_cons
abbrev E0:=@Option.toList_some
abbrev Ek:=@Bool.true_and
abbrev F0:=@ByteArray.size_append
abbrev F1:=@List.take_append_drop
abbrev Fc:=@Nat.lt_of_lt_of_le
abbrev Fk:=@List.all_eq_true
abbrev Fl:=@Array.getElem?_eq_getElem
abbrev Fm:=@Nat.mul_assoc
abbrev Fo:=@List.getElem?_take
abbrev Ft:=@Nat.min_eq_left
abbrev FA:=@List.drop_eq_getElem_cons
abbrev FF:=@List.getElem?_append_left
abbrev FG:=@Array.length_toList
abbrev G0:=@List.length_set
abbrev G3:=@List.foldl_append
abbrev G4:=@Bool.false_and
abbrev Ge:=@Nat.le_succ
abbrev Gk:=@List.cons.injEq
abbrev GB:=@List.mem_cons
abbrev GC:=@Bool.or_eq_false_iff
abbrev GF:=@Nat.pow_add
abbrev GO:=@Nat.two_pow_pos
abbrev GP:=@Function.comp_def
abbrev GS:=@List.map_congr_left
abbrev GW:=@Int.ofNat_tmod
abbrev Hb:=@Bool.false_or
abbrev Hc:=@List.length_nil
abbrev Hh:=@List.filter_sublist
abbrev Hi:=@List.find?_eq_none
abbrev Hj:=@List.mem_append_left
abbrev Hk:=@Option.map_some
abbrev Hn:=@List.getElem?_toArray
abbrev Hv:=@List.foldl_cons
abbrev HA:=@Array.toList_modify
abbrev HD:=@Int.le_refl
abbrev HE:=@List.getElem?_cons_zero
abbrev HG:=@Int.mul_assoc
abbrev HI:=@Int.pow_add
abbrev HJ:=@Nat.xor_lt_two_pow
abbrev HL:=@List.filter_congr
abbrev HM:=@List.Perm.refl
abbrev HN:=@Nat.div_le_self
abbrev HP:=@List.append_cancel_left
abbrev HR:=@Option.getD_some
abbrev HS:=@List.length_drop
abbrev HT:=@Nat.lt_trichotomy
abbrev HU:=@List.drop_zero
abbrev HW:=@List.set_append_right
abbrev HX:=@Nat.zero_mul
abbrev I0:=@List.drop_drop
abbrev Is:=@List.map_set
abbrev It:=@Nat.sub_zero
abbrev Iv:=@List.length_filter_le
abbrev Ix:=@List.length_range
abbrev ID:=@Nat.or_lt_two_pow
abbrev IF:=@List.drop_of_length_le
abbrev IH:=@List.mem_of_find?_eq_some
abbrev IN:=@Nat.eq_of_beq_eq_true
abbrev IS:=@ByteArray.data_append
abbrev IT:=@List.mem_append_right
abbrev Jx:=@Nat.add_assoc
abbrev JT:=@Bool.or_true
abbrev Kd:=@List.not_mem_nil
abbrev Kf:=@List.mem_map_of_mem
abbrev Kp:=@List.perm_middle
abbrev Ks:=@Nat.lt_succ_self
abbrev Kx:=@Array.getElem?_append_left
abbrev KB:=@Array.getElem?_modify
abbrev KK:=@List.drop_succ_cons
abbrev Lk:=@List.mem_of_mem_drop
abbrev Ln:=@List.take_succ_cons
abbrev Lo:=@List.sum_cons
abbrev Lq:=@Int.neg_mul
abbrev Ly:=@Int.natAbs_natCast
abbrev Lz:=@List.filter_append
abbrev LI:=@Bool.not_false
abbrev LN:=@Bool.not_true
abbrev LO:=@Int.ofNat_tdiv
abbrev LR:=@Array.toList_append
abbrev LS:=@List.find?_some
abbrev Mb:=@Option.none_or
abbrev Mn:=@Prod.mk.injEq
abbrev Mu:=@Nat.min_eq_right
abbrev My:=@Nat.sub_self
abbrev Mz:=@List.flatMap_append
abbrev MA:=@List.mem_append
abbrev MD:=@ByteArray.ext_iff
abbrev MT:=@List.takeWhile_cons
abbrev MY:=@List.getElem?_set
abbrev N0:=@List.toList_toArray
abbrev N2:=@Nat.lt_or_gt_of_ne
abbrev N3:=@List.foldl_nil
abbrev N4:=@List.all_cons
abbrev N5:=@List.range_succ
abbrev N6:=@Nat.le_of_not_lt
abbrev Nd:=@List.pairwise_map
abbrev No:=@List.take_zero
abbrev Nx:=@List.take_append_of_le_length
abbrev NO:=@Array.ext'
abbrev NX:=@Nat.shiftLeft_eq
abbrev Of:=@Nat.log2_lt
abbrev On:=@Bool.and_false
abbrev OF:=@List.mem_range
abbrev OK:=@List.getElem_inj
abbrev ON:=@Int.lt_or_eq_of_le
abbrev OR:=@List.set_getElem_self
abbrev OS:=@List.mem_or_eq_of_mem_set
abbrev P0:=@Int.toNat_of_nonneg
abbrev Pa:=@List.pairwise_singleton
abbrev Pc:=@List.lt_irrefl
abbrev PA:=@List.map_take
abbrev PB:=@List.drop_length
abbrev PC:=@List.drop_eq_nil_of_le
abbrev PF:=@List.length_replicate
abbrev PJ:=@List.mapM_cons
abbrev R0:=@Option.bind_some
abbrev R1:=@Array.getElem?_push_lt
abbrev Rg:=@Array.getElem?_push_size
abbrev Rr:=@List.getElem?_eq_none
abbrev RC:=@Array.size_setIfInBounds
abbrev RE:=@Bool.and_eq_false_iff
abbrev RK:=@List.findSome?_cons
abbrev RM:=@List.findSome?_eq_none_iff
abbrev RR:=@List.nodup_nil
abbrev RT:=@List.length_zipIdx
abbrev RW:=@List.replicate_succ
abbrev S7:=@Nat.pow_le_pow_right
abbrev Se:=@Nat.lt_of_le_of_lt
abbrev Sf:=@Array.toList_push
abbrev Sh:=@Int.zero_mul
abbrev Ss:=@Nat.le_log2
abbrev SD:=@Nat.mul_lt_mul_of_pos_right
abbrev SJ:=@Int.natAbs_mul
abbrev SM:=@List.reverse_cons
abbrev SO:=@Nat.pow_pos
abbrev SP:=@ByteArray.ext
abbrev SR:=@Bool.eq_false_iff
abbrev SU:=@List.nodup_iff_pairwise_ne
abbrev SW:=@List.range_eq_range'
abbrev To:=@List.length_eq_zero_iff
abbrev Tr:=@List.append_eq_nil_iff
abbrev Up:=@Nat.div_div_eq_div_mul
abbrev UP:=@Int.fdiv_eq_ediv_of_nonneg
abbrev US:=@List.getElem?_replicate
abbrev V0:=@List.setIfInBounds_toArray
abbrev Wa:=@Array.mapM_eq_mapM_toList
abbrev Wb:=@Nat.le_of_ble_eq_true
abbrev Wc:=@List.filterMap_cons
abbrev Wf:=@Array.mem_of_getElem?
abbrev Wk:=@List.getElem?_cons_succ
abbrev Xs:=@List.takeWhile_sublist
abbrev Ys:=@List.set_append_left
abbrev A03:=@List.set_eq_take_append_cons_drop
abbrev A06:=@List.getElem?_concat_length
abbrev A07:=@List.getElem?_take_of_lt
abbrev A09:=@List.exists_of_findSome?_eq_some
abbrev A0d:=@List.mem_of_mem_erase
abbrev A0f:=@List.cons_lt_cons_iff
abbrev A0i:=@Array.toList_eraseIdx
abbrev A0o:=@List.drop_append_of_le_length
abbrev A0r:=@Array.getElem?_toList
abbrev A0s:=@List.length_eraseIdx_le
abbrev A0z:=@Int.eq_of_mul_eq_mul_right
abbrev A0C:=@ByteArray.data_extract
abbrev A0G:=@Nat.two_pow_add_eq_or_of_lt
abbrev A0J:=@List.length_mergeSort
abbrev A0N:=@List.getElem?_singleton
structure ao where
 tape:Nat->Question->Nat
 os:Os
 output:Array (Nat×A31)
abbrev aa:=Array Obj
abbrev A30:=J0->aa->Prop
def ao.at(A:ao)(a:aa)(b:Nat):World:= {heap:=a,tape:=A.tape,drawn:=b,os:=A.os,output:=A.output}
abbrev Fw(r:Option Nat):Fence:= {fn:=λ_=>True,depth:=none,alive:=false,round:=r}
theorem tg(r:Option Nat)(a:Nat):(Fw r).room a:=λ_ b=>by simp at b
theorem Xk {r:Option Nat}{c:Nat}{P:Q1}{f:Q8}{args:Array J0}{a:World}{b:Ending->World->Prop}:
  CallsIn (Fw r) c P f args a b↔Calls P f args a b:=callsIn_wide
def kQ(P:Q1)(l:Nat)(f:Q8)(tmps:Array J0)(assign body:Code)(a:World)(b:J0->World->Prop):Prop:=
 RoundIn (Fw none) 0 P l f tmps assign body a (λc d=> ∃v,c= .returned v/\b v d)
theorem kQ.mono {P:Q1}{l:Nat}{f:Q8}{tmps:Array J0}{assign body:Code}{a:World}{b c:J0->World->Prop}
  (e:kQ P l f tmps assign body a b) (g: ∀v d,b v d->c v d):kQ P l f tmps assign body a c:=
 RoundIn.mono e λ_ _ ⟨v,h,i⟩=>⟨v,h,g _ _ i⟩
theorem ALT {r:Option Nat}{d:Nat}{P:Q1}{l:Nat}{f:Q8}{tmps:Array J0}{assign body:Code}{a:World}{b:Ending->World->Prop}
  (e:RoundIn (Fw none) 0 P l f tmps assign body a b):RoundIn (Fw r) d P l f tmps assign body a b:=
 ⟨trivial,λc g _=>e.2 c g (tg none _)⟩
def Next.out(P:Q1)(K:J0->World->Prop):Result Next->Prop
 | .ok (.value v) a=>K v a
 | .ok .skip a=>K undef a
 | .ok (.enter f args) a=>Calls P f args a (λb c=> ∃v,b= .returned v/\K v c)
 | .ok (.round l f tmps assign body) a=>kQ P l f tmps assign body a K
 |_=>False
def EV(P:Q1)(a:Oper)(b:Operand->J0)(c:World)(K:J0->World->Prop):Prop:=Next.out P K ((execOp b a).run P c)
theorem Next.dh {P:Q1}{K d:J0->World->Prop}(c: ∀v b,K v b->d v b){x:Result Next}(a:Next.out P K x):Next.out P d x:=by
 cases x with
 |ok e b=>
  cases e<;>simp only[Next.out] at a ⊢ <;>
   first
    |exact c _ _ a
    |exact Calls.mono a λ_ _ ⟨v,f,g⟩=>⟨v,f,c _ _ g⟩
    |exact kQ.mono a c
 |halt x b=>simp only[Next.out] at a
theorem EV.mono {P:Q1}{b:Oper}{c:Operand->J0}{a:World}{K d:J0->World->Prop}(e:EV P b c a K)(f: ∀v a,K v a->d v a):EV P b c a d:=Next.dh f e
theorem Calls.some {P:Q1}{f:Q8}{args:Array J0}{d:World}{c:Ending->World->Prop}(e:Calls P f args d c): ∃a b,c a b:=
 let ⟨a,b,_,r,_⟩:=e [];⟨a,b,r⟩
theorem EV.some {P:Q1}{e:Oper}{g:Operand->J0}{h:World}{K:J0->World->Prop}(a:EV P e g h K): ∃v b,K v b:=by
 unfold EV at a;cases i:(execOp g e).run P h with
 |ok j b=>
  rw[i] at a;cases j<;>simp only[Next.out] at a
  case value v=>exact⟨_,_,a⟩
  case skip=>exact⟨_,_,a⟩
  case enter f args=>obtain⟨k,c,v,_,d⟩:=Calls.some a;exact⟨v,c,d⟩
  case round l f tmps assign body=>
   obtain⟨k,c,⟨v,_,d⟩,_⟩:=a.2 default [] (tg none _);exact⟨v,c,d⟩
 |halt j b=>rw[i] at a;simp only[Next.out] at a
def Jy(a:Oper):Bool:=match a.op with| .defer _=>false| .select .. =>false|_=>true
theorem EV.wpIn {r:Option Nat}{m:Nat}{P:Q1}{b:Oper}{a:Act}{e:World}{K:Act->World->Prop}{j:Exit->Act->World->Prop}
  (hd:Jy b=true) (d:EV P b a.eval e λv g=>K (a.put b.dst v) g):b.wpIn (Fw r) m P a e K j:=by
 refine⟨λ_ _=>trivial,?_⟩;have n:Oper.semAt r a.eval b=execOp a.eval b:=Oper.semAt_eq r a.eval b (λc o=>by simp[Jy,o] at hd);show b.uponIn (Fw r) m P a K j ((Oper.semAt r a.eval b).run P e);rw[n];unfold EV at d;generalize (execOp a.eval b).run P e=x at d;cases x with
 |ok k g=>
  cases k<;>simp only[Next.out] at d<;>simp only[Oper.uponIn]
  case value v=>exact d
  case skip=>exact d
  case enter f args=>
   refine⟨λh=>by simp at h,Xk.2 (Calls.mono d ?_)⟩;rintro p q ⟨v,rfl,i⟩;exact i
  case round l f tmps assign body=>
   refine⟨λh=>by simp at h,ALT (RoundIn.mono d ?_)⟩;rintro p q ⟨v,rfl,i⟩;exact i
 |halt k g=>simp only[Next.out] at d
section
variable {P : Q1} {A : ao} {r : Option Nat} {ops : Array Oper}
def im(P:Q1)(A:ao)(c:Oper)(d:Operand->J0)(v:J0)(a:aa):Prop:= ∀b,(execOp d c).run P (A.at a b)= .ok (.value v) (A.at a b)
def un(b:Nat->Nat->Bool)(i a:Nat):Bool:= !(b (max i a) (min i a))
def JY(a:Oper):Prop:= ∀c b,a.op≠ .select c b
def p7(ops:Array Oper):Nat->Nat->Bool:=
 let b:=Region.before ops
 λi a=>(b.getD i 0).testBit a
end
section
variable {P : Q1} {A : ao} {r : Option Nat} {ops : Array Oper} {qb : Oper -> Bool} {ord : Nat -> Nat -> Bool}
def left(a:Nat)(listed:Array Bool):List Nat:=(List.range a).filter λi=> !listed.getD i false
theorem mem_left {a:Nat}{listed:Array Bool}{i:Nat}:i∈left a listed↔i<a/\listed.getD i false=false:=by simp[left]
theorem range_split {n i:Nat}(c:i<n):List.range n=List.range i++i::(List.range' (i+1) (n-i-1)):=by
 rw[SW,SW];have a:List.range' 0 n=List.range' 0 i++List.range' i (n-i):=by have:=List.range'_append_1 (s:=0) (m:=i) (n:=n-i);rw[AH] at this;rw[this];congr 1;omega
 rw[a];congr 1;have b:n-i=(n-i-1)+1:=by omega
 rw[b,List.range'_succ];simp
theorem ALj {c i:Nat}{listed:Array Bool}(hi:i<c)(h:listed.size=c)(f:listed.getD i false=false):
  ∃d e,left c listed=d++i::e/\left c (listed.setIfInBounds i true)=d++e/\ ∀a∈d,a<i/\listed.getD a false=false:=by
 refine⟨(List.range i).filter λa=> !listed.getD a false,(List.range' (i+1) (c-i-1)).filter λa=> !listed.getD a false,?_,?_,?_⟩
 ·unfold left;rw[range_split hi,Lz,AT];simp only[f,LI,if_true]
 ·unfold left;have g:(listed.setIfInBounds i true).getD i false=true:=by
   have:i<listed.size:=by omega
   simp[this]
  rw[range_split hi,Lz,AT];simp only[g,LN,BW,if_false];congr 1
  ·refine HL λa b=>?_
   have:=List.mem_range.1 b;rw[getD_set_ne false (by omega)]
  ·refine HL λa b=>?_
   have:=(List.mem_range'_1.1 b).1;rw[getD_set_ne false (by omega)]
 ·intro a b;simp only[List.mem_filter,OF,Cd] at b;exact b
def gu(ord:Nat->Nat->Bool)(listed:Array Bool):Prop:= ∀a b,listed.getD a false=true->b<a->ord a b=true->listed.getD b false=true
theorem ZI {a:Oper}(c:Jy a=true):JY a:=λe b d=>by simp[Jy,d] at c
theorem AQP(a:Nat):left a (Array.replicate a false)=List.range a:=by unfold left;rw[List.filter_eq_self];intro i _;by_cases b:i<a<;>simp[b]
end
def af(b:aa)(a:Q6):Option J0:=
 match b[a.block]? with
 |some (.cells c _ _)=>if a.spot.isSome then none else c[a.off]?
 |_=>none
def fL(b:aa)(a:Q6):Bool:=
 match b[a.block]? with
 |some (.cells _ _ (lo,hi))=>lo<=a.off&&a.off<hi
 |_=>false
def cS(b:aa)(a:Q6)(v:J0):aa:=
 b.modify a.block λ
  | .cells c d frozen=> .cells (if a.spot.isSome then c else c.setIfInBounds a.off v) d frozen
  |o=>o
theorem ASn(c:ao)(b:aa)(d:Nat)(a:Q6):(c.at b d).cell? a=af b a:=rfl
theorem eX(b:ao)(c:aa)(d:Nat)(a:Q6)(v:J0):(b.at c d).setCell a v=b.at (cS c a v) d:=rfl
def At(p:Q2)(K:Q6->Prop):Prop:=match p with|some a=>K a|none=>False
def ae(b:Bool)(a c:Prop):Prop:=match b with|true=>a|false=>c
def aj(a:aa)(b:Obj)(K:Nat->aa->Prop):Prop:=K a.size (a.push b)
def TL(b:aa)(a:Q6)(K:J0->Prop):Prop:= ∃v,af b a=some v/\K v
def AC(c:IntKind)(d:aa)(a:Q6)(K:Int->Prop):Prop:= ∃b,af d a=some (.int c b)/\K b
def Aa(c:aa)(a:Q6)(K:Bool->Prop):Prop:= ∃b,af c a=some (.bool b)/\K b
def AL(b:aa)(a:Q6)(K:A31->Prop):Prop:= ∃s,af b a=some (.string s)/\K s
def AY(b:aa)(a:Q6)(K:Q2->Prop):Prop:= ∃p,af b a=some (.pointer p)/\K p
structure Sl where
 p:Q2
 len:Nat
 cap:Nat
def Sl.v(s:Sl):J0:= .slice s.p s.len s.cap
def AV(b:aa)(a:Q6)(K:Sl->Prop):Prop:= ∃s:Sl,af b a=some (.slice s.p s.len s.cap)/\K s
def AVc(c:FloatKind)(d:aa)(a:Q6)(K:Nat->Prop):Prop:= ∃b,af d a=some (.float c b)/\K b
def js(c:FloatKind)(d:aa)(a:Q6)(K:Nat×Nat->Prop):Prop:= ∃b:Nat×Nat,af d a=some (.complex c b.1 b.2)/\K b
def Ed(c:aa)(a:Q6)(K:Option Nat->Prop):Prop:= ∃b,af c a=some (.map b)/\K b
def ab(b:aa)(a:Q6)(v:J0)(K:aa->Prop):Prop:=(∃ u,af b a=some u)/\fL b a=false/\K (cS b a v)
def aS(p:Q2)(len:Nat)(i:Int)(K:Q6->Prop):Prop:= ∃a,p=some a/\(0<=i/\i<len)/\K a
def aE(c K:Prop):Prop:=c/\K
def ah {a:Type}(c:a->aa->Prop)(body:(a->aa->Prop)->Prop):Prop:= ∀K:a->aa->Prop,(∀ x b,c x b->K x b)->body K
def Loop {a:Type}(c:(a->aa->Prop)->a->aa->Prop)(x:a)(b:aa):Prop:= ∀K:a->aa->Prop,(∀ x b,c K x b->K x b)->K x b
def Af(a:ao)(P:Q1)(m:Sem J0)(c:aa)(K:A30):Prop:= ∀d,∃v b e,m.run P (a.at c d)= .ok v (a.at b e)/\K v b
def AA(a:ao)(P:Q1)(f:Q8)(args:Array J0)(c:aa)(d:A30):Prop:=
 ∀e,Calls P f args (a.at c e) λg h=> ∃v,g= .returned v/\ ∃b i,h=a.at b i/\d v b
theorem AA.mono {b:ao}{P:Q1}{f:Q8}{args:Array J0}{a:aa}{c d:A30}(e:AA b P f args a c)(g: ∀v a,c v a->d v a):AA b P f args a d:=
 λh=>Calls.mono (e h) λ_ _ ⟨v,i,j,k,l,m⟩=>⟨v,i,j,k,l,g _ _ m⟩
def Er(a:ao)(P:Q1)(fv:J0)(args:Array J0)(d:aa)(e:A30):Prop:=
 ∀f,Next.out P (λv g=> ∃b h,g=a.at b h/\e v b) ((do let c <-Deferred.ofValue fv args;invoke c.target c.args:Sem Next).run P (a.at d f))
def tw(a:ao)(P:Q1)(c:J0)(name:String)(args:Array J0)(d:aa)(e:A30):Prop:=
 ∀f,Next.out P (λv g=> ∃b h,g=a.at b h/\e v b) ((callMethod c name args:Sem Next).run P (a.at d f))
theorem Er.mono {b:ao}{P:Q1}{fv:J0}{args:Array J0}{a:aa}{c d:A30}(e:Er b P fv args a c)(f: ∀v a,c v a->d v a):Er b P fv args a d:=
 λg=>Next.dh (λ_ _ ⟨h,i,j,k⟩=>⟨h,i,j,f _ _ k⟩) (e g)
theorem Uj {a b:Nat}(c:a≠b):Nat.beq a b=false:=by
 cases d:Nat.beq a b with
 |false=>rfl
 |true=>exact absurd (IN d) c
structure Env where
 get:Nat->Option J0
 ds:List Nat
def jW(a:Nat):Deferred:= {target:= .collected a,args:= #[]}
structure Fits (N:Nat) (a:Act) (e:Env):Prop where
 size:a.tmps.size=N
 get: ∀t v,e.get t=some v->a.tmps[t]? =some v
 ds:a.defers=e.ds.map jW
def Env.set(a:Env)(b:Nat)(v:J0):Env:= {get:=λt=>bif Nat.beq t b then some v else a.get t,ds:=a.ds}
def Env.put(b:Env)(a:Option Tmp)(v:J0):Env:=match a with|none=>b|some a=>b.set a v
def mG(b:Nat)(a:Option Tmp):Bool:=match a with|none=>true|some a=>Nat.blt a b
theorem Fits.set {e:Nat}{a:Act}{g:Env}(d:Fits e a g){c:Nat}{v:J0}(hd:c<e):Fits e (a.put (some c) v) (g.set c v):=by
 refine⟨by simp[Act.put,d.size],?_,d.ds⟩;intro t u b;unfold Env.set at b;simp only at b;by_cases f:t=c
 ·subst f;have:Nat.beq t t=true:=by simp
  rw[this] at b;simp only[cond_true,Bk] at b;subst b;simp[Act.put,d.size,hd]
 ·have:Nat.beq t c=false:=Uj f;rw[this] at b;simp only[cond_false] at b;have:=d.get t u b;simp only[Act.put];rw[Ds (Ne.symm f)];exact this
theorem Fits.put {c:Nat}{a:Act}{d:Env}(e:Fits c a d){b:Option Tmp}{v:J0}(hd:mG c b=true):Fits c (a.put b v) (d.put b v):=by
 cases b with
 |none=>exact e
 |some b=>exact e.set (by simpa [mG] using hd)
theorem Fits.oN {e:Nat}{a:Act}{f:Env}(d:Fits e a f){c:Nat}{v:J0}(h:a.tmps[c]? =some v):Fits e a (f.set c v):=by
 refine⟨d.size,?_,d.ds⟩;intro t u b;unfold Env.set at b;simp only at b;by_cases g:t=c
 ·subst g;have:Nat.beq t t=true:=by simp
  rw[this] at b;simp only[cond_true,Bk] at b;rw[<- b];exact h
 ·have:Nat.beq t c=false:=Uj g;rw[this] at b;exact d.get t u b
def rdv(a:Env)(x:Operand):Option J0:=
 match x with
 | .tmp t=>a.get t
 | .const v=>some v
 | .global g=>some (.pointer (some ⟨g,0,none⟩))
 | .func f=>some (.func (.func f) #[] #[])
theorem Fits.rdv {d:Nat}{a:Act}{c:Env}(e:Fits d a c){x:Operand}{v:J0}(b:rdv c x=some v):a.eval x=v:=by
 cases x with
 |tmp t=>
  have:=e.get t v b;simp only[Act.eval];simp[this]
 |const u=>simpa [Lf.rdv,Act.eval] using b
 |global g=>simpa [Lf.rdv,Act.eval] using b
 |func f=>simpa [Lf.rdv,Act.eval] using b
def rd(a:Env)(x:Operand)(K:J0->Prop):Prop:=match rdv a x with|some v=>K v|none=>False
theorem BR {e:Nat}{a:Act}{c:Env}(f:Fits e a c){x:Operand}{K:J0->Prop}(b:rd c x K):K (a.eval x):=by
 unfold rd at b;cases d:rdv c x with
 |none=>rw[d] at b;exact b.elim
 |some v=>rw[d] at b;rw[f.rdv d];exact b
def ρof(a:Env)(x:Operand):J0:=match rdv a x with|some v=>v|none=>undef
def known(a:Env)(l:List Operand)(K:Prop):Prop:=match l with| []=>K|x::b=>(match rdv a x with|some _=>known a b K|none=>False)
theorem I9 {g:Nat}{a:Act}{c:Env}(f:Fits g a c){K:Prop}: ∀ {l:List Operand},known c l K->(∀ x∈l,ρof c x=a.eval x)/\K
 | [],b=>⟨λ_ b=>(by cases b),b⟩
 |x::k,b=>by
  unfold known at b;cases d:rdv c x with
  |none=>rw[d] at b;exact b.elim
  |some v=>
   rw[d] at b;obtain⟨h,i⟩:=I9 f b;refine⟨λj e=>?_,i⟩;rcases List.mem_cons.1 e with rfl|e
   ·unfold ρof;rw[d,f.rdv d]
   ·exact h j e
end Go.Lf
namespace Go
open Lf
def Sem.calc {b:Type}(P:Q1):Sem b->Option b
 | .pure a=>some a
 | .program f=>(f P).calc P
 |_=>none
end Go
namespace Go.Lf
theorem De {e:Type}{P:Q1}{s:Sem e}: ∀ {a:e},s.calc P=some a-> ∀d,s.run P d= .ok a d:=by
 induction s with
 |pure a=>intro b c d;simp only[Sem.calc,Bk] at c;subst c;rfl
 |program f g=>intro b c d;exact g P c d
 |_=>intro b c;simp only[Sem.calc] at c;cases c
def Nr {b:Type}(P:Q1)(s:Sem b)(K:b->Prop):Prop:=match s.calc P with|some a=>K a|none=>False
theorem Mx {d:Type}{P:Q1}{s:Sem d}{K:d->Prop}(b:Nr P s K): ∃a,(∀ e,s.run P e= .ok a e)/\K a:=by
 unfold Nr at b;cases c:s.calc P with
 |none=>rw[c] at b;exact b.elim
 |some a=>rw[c] at b;exact⟨a,De c,b⟩
def MH:J0->Bool
 | .agg _| .tuple _=>false
 |_=>true
end Go.Lf
namespace Go
open Lf
def Sem.vc {e:Type}(P:Q1):Sem e->aa->(e->aa->Prop)->Prop
 | .pure a,c,K=>K a c
 | .program f,c,K=>(f P).vc P c K
 | .new g f,c,K=>aj c g λb d=>(f b).vc P d K
 | .load _ a f,c,K=>TL c a λv=>(f v).vc P c K
 | .store _ a v f,c,K=>match MH v with|true=>ab c a v λd=>f.vc P d K|false=>False
 | .mark _ f,c,K=>f.vc P c K
 |_,_,_=>False
end Go
namespace Go.Lf
theorem tx {c:Type}{A:ao}{P:Q1}{m:Mode}{a:Q6}{v u:J0}{f:Sem c}{b:aa}{n:Nat}(d:MH v=true)(e:af b a=some u)(g:fL b a=false):
  (Sem.store m a v f).run P (A.at b n)=f.run P (A.at (cS b a v) n):=by
 have h:(A.at b n).cell? a=some u:=e;have i:(A.at b n).frozen? a=false:=g;cases v<;>first|(simp[MH] at d;done)|(simp[Sem.run,h,i,eX])
theorem AQD {o:Type}{A:ao}{P:Q1}{s:Sem o}: ∀ {d:aa} {K:o->aa->Prop},s.vc P d K-> ∀e,∃v h i,s.run P (A.at d e)= .ok v (A.at h i)/\K v h:=by
 induction s with
 |pure a=>intro d K b e;exact⟨a,d,e,rfl,b⟩
 |program f g=>intro d K b e;exact g P b e
 |mark m f g=>intro d K b e;exact g b e
 |new r f g=>intro d K b e;exact g _ b e
 |load m a f g=>
  intro d K b e;obtain⟨v,t,b⟩:=b;obtain⟨j,h,i,k,l⟩:=g v b e;refine⟨j,h,i,?_,l⟩;simp only[Sem.run,ASn,t];exact k
 |store m a v f g=>
  intro d K b e;unfold Sem.vc at b;cases n:MH v with
  |false=>rw[n] at b;exact b.elim
  |true=>
   rw[n] at b;obtain⟨⟨u,w⟩,y,b⟩:=b;obtain⟨j,h,i,k,l⟩:=g b e;refine⟨j,h,i,?_,l⟩;rw[tx n w y];exact k
 |shape p f _=>intro d K b;exact b.elim
 |freeze a e f _=>intro d K b;exact b.elim
 |frozen a f _=>intro d K b;exact b.elim
 |getObj p f _=>intro d K b;exact b.elim
 |setObj p r f _=>intro d K b;exact b.elim
 |choose q f _=>intro d K b;exact b.elim
 |sys c f _=>intro d K b;exact b.elim
 |halt x=>intro d K b;exact b.elim
inductive Sc where
 |int (k:IntKind)|bool|str|ptr|sl|map|any|j7 (k:FloatKind)|hF (k:FloatKind)
def Sc.Ty:Sc->Type
 | .int _=>Int
 | .bool=>Bool
 | .str=>A31
 | .ptr=>Q2
 | .sl=>Sl
 | .map=>Option Nat
 | .any=>J0
 | .j7 _=>Nat
 | .hF _=>Nat×Nat
def Sc.val:(s:Sc)->s.Ty->J0
 | .int c,(a:Int)=> .int c a
 | .bool,(b:Bool)=> .bool b
 | .str,(s:A31)=> .string s
 | .ptr,(p:Q2)=> .pointer p
 | .sl,(s:Sl)=> .slice s.p s.len s.cap
 | .map,(d:Option Nat)=> .map d
 | .any,(v:J0)=>v
 | .j7 c,(a:Nat)=> .float c a
 | .hF c,(a:Nat×Nat)=> .complex c a.1 a.2
def Sc.load(b:aa)(a:Q6):(s:Sc)->(s.Ty->Prop)->Prop
 | .int c,K=>AC c b a K
 | .bool,K=>Aa b a K
 | .str,K=>AL b a K
 | .ptr,K=>AY b a K
 | .sl,K=>AV b a K
 | .map,K=>Ed b a K
 | .any,K=>TL b a K
 | .j7 c,K=>AVc c b a K
 | .hF c,K=>js c b a K
theorem Sc.c6 {c:aa}{a:Q6}: ∀ {s:Sc} {K:s.Ty->Prop},s.load c a K-> ∃x,af c a=some (s.val x)/\K x
 | .int _,_,b=>b
 | .bool,_,b=>b
 | .str,_,b=>b
 | .ptr,_,b=>b
 | .sl,_,b=>b
 | .map,_,b=>b
 | .any,_,b=>b
 | .j7 _,_,b=>b
 | .hF _,_,b=>b
def p8(b:aa)(a:Q6):Nat->List Sc->(List J0->Prop)->Prop
 |_,[],K=>K []
 |i,s::l,K=>s.load b (a.add i) λx=>p8 b a (i+1) l λc=>K (s.val x::c)
def p9:List Sc->(List J0->Prop)->Prop
 | [],K=>K []
 |s::l,K=> ∃x:s.Ty,p9 l λa=>K (s.val x::a)
theorem tA: ∀ {l:List Sc} {K:List J0->Prop},p9 l K-> ∃b,K b
 | [],_,a=>⟨[],a⟩
 |_::_,_,⟨_,a⟩=>let ⟨b,c⟩:=tA a;⟨_,c⟩
def jt(P:Q1):Nat->Q7->List Sc
 |0,_=> []
 |d+1,t=>
  match P.underlying t with
  |some .bool=> [.bool]
  |some (.int a)=> [.int a]
  |some (.float a)=> [.j7 a]
  |some (.complex a)=> [.hF a]
  |some .string=> [.str]
  |some (.pointer _)=> [.ptr]
  |some (.slice _)=> [.sl]
  |some (.map _ _)=> [.map]
  |some (.struct b)=>b.toList.flatMap λf=>jt P d f.type
  |some (.array c e)=>(List.replicate c (jt P d e)).flatten
  |_=> [.any]
def Xv(P:Q1)(t:Q7):Bool:=match P.underlying t with|some (.struct _)=>true|some (.array _ _)=>true|_=>false
mutual
def mH(P:Q1):Nat->Q7->(J0->Prop)->Prop
 |0,_,K=> ∃v,K v
 |d+1,t,K=>
  match P.underlying t with
  |some (.tuple ts)=>mI P d ts.toList λa=>K (.tuple a.toArray)
  |_=>match Xv P t with
   |true=>p9 (jt P 20 t) λa=>K (.agg a.toArray)
   |false=>match jt P 20 t with
    | [s]=> ∃x:s.Ty,K (s.val x)
    |_=>False
def mI(P:Q1):Nat->List Q7->(List J0->Prop)->Prop
 |_,[],K=>K []
 |0,_::_,_=>False
 |d+1,t::ts,K=>mH P d t λu=>mI P d ts λa=>K (u::a)
end
theorem AQm(P:Q1): ∀b,(∀ (t:Q7) (K:J0->Prop),mH P b t K-> ∃v,K v)/\(∀ (ts:List Q7) (K:List J0->Prop),mI P b ts K-> ∃f,K f):=by
 intro b
 induction b with
 |zero=>
  refine⟨λt K a=>a,λts K a=>?_⟩;cases ts with
  |nil=>exact⟨[],a⟩
  |cons t ts=>exact a.elim
 |succ b c=>
  refine⟨λt K a=>?_,λts K a=>?_⟩
  ·unfold mH at a;split at a
   ·exact let ⟨e,d⟩:=c.2 _ _ a;⟨_,d⟩
   ·split at a
    ·exact let ⟨e,d⟩:=tA a;⟨_,d⟩
    ·split at a
     ·exact let ⟨x,g⟩:=a;⟨_,g⟩
     ·exact a.elim
  ·cases ts with
   |nil=>exact⟨[],a⟩
   |cons t ts=>
    unfold mI at a;obtain⟨u,a⟩:=c.1 _ _ a;obtain⟨e,a⟩:=c.2 _ _ a;exact⟨_,a⟩
def Pq(P:Q1)(t:Q7)(v:J0)(K:J0->Prop):Prop:=mH P 8 t λu=>v=u/\K u
theorem MX {P:Q1}{t:Q7}{v:J0}{K:J0->Prop}(a:Pq P t v K):K v:=by obtain⟨u,rfl,a⟩:=(AQm P 8).1 _ _ a;exact a
def bD(a b:A31):Bool:=a.toList==b.toList
def aG(a b:A31):Bool:=Op.bytesLess a.toList b.toList
def du(s:A31)(i:Int):Int:=((s[i.toNat]?).getD 0).toNat
def WK(P:Q1)(t:Q7)(a:Operand):Bool:=
 match P.underlying t with
 |some (.pointer _)=>match a with| .const (.pointer none)=>true|_=>false
 |some (.slice _)=>match a with| .const (.slice none 0 0)=>true|_=>false
 |some (.map _ _)=>match a with| .const (.map none)=>true|_=>false
 |some (.func _ _ _)=>match a with| .const .nilFunc=>true|_=>false
 |some (.interface _)=>match a with| .const .nilIface=>true|_=>false
 |_=>false
def jv:J0->Prop
 | .func .. =>True
 | .nilFunc=>True
 |_=>False
def YE:J0->Bool
 | .nilFunc=>true
 |_=>false
def kU:J0->Prop
 | .iface .. =>True
 | .nilIface=>True
 |_=>False
def jZ:J0->Bool
 | .nilIface=>true
 |_=>false
def kV(P:Q1)(t:Q7)(v:J0)(K:Bool->Prop):Prop:=
 match P.underlying t with
 |some (.pointer _)=>match v with| .pointer p=>K p.isNone|_=>False
 |some (.slice _)=>match v with| .slice p _ _=>K p.isNone|_=>False
 |some (.map _ _)=>match v with| .map a=>K a.isNone|_=>False
 |some (.func _ _ _)=>aE (jv v) (K (YE v))
 |some (.interface _)=>aE (kU v) (K (jZ v))
 |_=>False
def XP(a:BinOp)(b:Bool):J0:=match a with| .eql=> .bool b|_=> .bool !b
def pj(d:BinOp)(v u:J0)(K:J0->Prop):Prop:=
 match v,u with
 | .int c a,.int e b=>
  match decide (c=e) with
  |true=>match d with
   | .quo=>aE (b≠0) (K (.int c (c.wrap (a.tdiv b))))
   | .rem=>aE (b≠0) (K (.int c (a.tmod b)))
   |_=>False
  |false=>False
 |_,_=>False
def pn(d:BinOp)(v u:J0)(K:J0->Prop):Prop:=
 match v,u with
 | .int c a,.int _ b=>
  match d with
  | .shl=>aE (0<=b) (K (.int c (c.wrap (a*2^(min b.toNat c.bits)))))
  | .shr=>aE (0<=b) (K (.int c (a.fdiv (2^(min b.toNat c.bits)))))
  |_=>False
 |_,_=>False
def pq(v u:J0)(K:J0->Prop):Prop:=
 match v,u with
 | .string a,.string b=>aE (((a.size+b.size:Nat):Int)<=IntKind.i64.max) (K (.string (a++b)))
 |_,_=>False
inductive AUp where
 |dS|div|shift|cat|j8|j9|no
def isConst:Operand->Bool
 | .const _=>true
 |_=>false
def Vb(P:Q1)(b:BinOp)(t:Q7)(x a:Operand):AUp:=
 match b with
 | .quo| .rem=>match P.underlying t with|some (.int _)=>(match isConst a with|true=> .dS|false=> .div)|_=> .no
 | .shl| .shr=>match isConst a with|true=> .dS|false=> .shift
 | .add=>match P.underlying t with|some .string=> .cat|some (.int _)=> .dS|_=> .no
 | .eql| .neq=>
  match P.underlying t with
  |some (.int _)=> .dS
  |some .string=> .dS
  |some .bool=> .dS
  |some (.pointer _)|some (.slice _)|some (.map _ _)|some (.func _ _ _)|some (.interface _)=>(match WK P t a with|true=> .j8|false=>match WK P t x with|true=> .j9|false=> .no)
  |_=> .no
 |_=>match P.underlying t with|some (.int _)=> .dS|some .string=> .dS|_=> .no
def pw(P:Q1)(a:BinOp)(t:Q7)(x c:Operand)(v u:J0)(K:J0->Prop):Prop:=
 match Vb P a t x c with
 | .dS=>Nr P (do eqGuard a t x c v u;binOp a t v u) K
 | .div=>pj a v u K
 | .shift=>pn a v u K
 | .cat=>pq v u K
 | .j8=>kV P t v λb=>K (XP a b)
 | .j9=>kV P t u λb=>K (XP a b)
 | .no=>False
def pz(P:Q1)(t:Q7)(v i:J0)(K:J0->Prop):Prop:=
 match P.underlying t with
 |some (.slice c)=>match v,i,P.info? c with
  | .slice p len _,.int _ b,some d=>aS p len b λa=>K (.pointer (some (a.add (b.toNat*d.size))))
  |_,_,_=>False
 |some (.array len c)=>match v,i,P.info? c with
  | .pointer p,.int _ b,some d=>At p λa=>aE (0<=b/\b<(len:Int)) (K (.pointer (some (a.add (b.toNat*d.size)))))
  |_,_,_=>False
 |_=>False
def pA(P:Q1)(t:Q7)(v i:J0)(K:J0->Prop):Prop:=
 match P.underlying t with
 |some .string=>match v,i with
  | .string s,.int _ a=>aE (0<=a/\a<(s.size:Int)) (K (.int .u8 (du s a)))
  |_,_=>False
 |some (.array _ _)=>Nr P (Instr.index t v i) K
 |_=>False
def gv(x:Option J0)(b max:Nat)(K:Nat->Prop):Prop:=
 match x with
 |some (.int _ a)=>aE (0<=a/\a<=(max:Int)) (K a.toNat)
 |none=>K b
 |_=>False
def BJ(p:Q2)(a l b:Nat):Q2:=if a=l then p else p.map (·.add (l*b))
def pB(P:Q1)(t:Q7)(v:J0)(lo hi:Option J0)(K:J0->Prop):Prop:=
 match P.underlying t with
 |some .string=>match v with
  | .string s=>gv hi s.size s.size λb=>gv lo 0 b λl=>K (.string (s.extract l b))
  |_=>False
 |some (.slice d)=>match v,P.info? d with
  | .slice p len e,some f=>gv hi len e λb=>gv lo 0 b λl=>K (.slice (BJ p e l f.size) (b-l) (e-l))
  |_,_=>False
 |some (.array c d)=>match v,P.info? d with
  | .pointer p,some f=>At p λa=>gv hi c c λb=>gv lo 0 b λl=>K (.slice (some (if c=l then a else a.add (l*f.size))) (b-l) (c-l))
  |_,_=>False
 |_=>False
def pC(P:Q1)(t:Q7)(v:J0)(lo hi:Option J0)(c:J0)(K:J0->Prop):Prop:=
 match P.underlying t with
 |some (.slice d)=>match v,P.info? d,hi,c with
  | .slice p _ e,some f,some (.int _ b),.int _ a=>aE (0<=a/\a<=(e:Int)) (aE (0<=b/\b<=(a.toNat:Int)) (gv lo 0 b.toNat λl=>K (.slice (BJ p a.toNat l f.size) (b.toNat-l) (a.toNat-l))))
  |_,_,_,_=>False
 |_=>False
def pD(c:Bool)(a b:Option J0)(K:J0->Prop):Prop:=
 match a,b with
 |some (.bool x),some (.bool d)=>K (.bool (cond c x d))
 |some x,some d=>ae c (K x) (K d)
 |some x,none=>ae c (K x) False
 |none,some d=>ae c False (K d)
 |none,none=>False
def tP(v:J0)(K:J0->Prop):Prop:=
 match v with
 | .pointer p=>At p λa=>K (.pointer (some a))
 |_=>False
def kW(a:Env)(x:Option Operand)(K:Option J0->Prop):Prop:=match x with|none=>K none|some x=>rd a x λv=>K (some v)
def YP(b:Bool)(K:Prop):Prop:=match b with|true=>K|false=>False
def kX(P:Q1)(t:Q7)(v:J0)(K:Array J0->Prop):Prop:=
 match Xv P t with
 |true=>K v.cells
 |false=>YP (MH v) (K #[v])
theorem ALn {v:J0}(a:MH v=true):v.cells= #[v]:=by cases v<;>first|rfl|(simp[MH] at a)
theorem Ry {P:Q1}{t:Q7}{v:J0}{K:Array J0->Prop}(a:kX P t v K):K v.cells:=by
 unfold kX at a;split at a
 ·exact a
 ·cases b:MH v with
  |false=>rw[b] at a;exact a.elim
  |true=>rw[b] at a;rw[ALn b];exact a
def ka(b:Nat->Option (Nat×Nat))(cells:Array J0):List (Nat×Array J0)->Option (Array J0)
 | []=>some cells
 |(i,a)::rest=>
  match b i with
  |none=>none
  |some (off,d)=>
   if a.size≠d||off+a.size>cells.size then none
   else ka b (a.zipIdx.foldl (λe (c,f)=>e.setIfInBounds (off+f) c) cells) rest
theorem mK(a:Nat->Option (Nat×Nat)): ∀(l:List (Nat×J0)) (cells:Array J0),Instr.fill a cells l=ka a cells (l.map λp=>(p.1,p.2.cells))
 | [],cells=>rfl
 |(i,v)::rest,cells=>by
  simp only[Instr.fill,BY,ka];cases a i with
  |none=>rfl
  |some p=>obtain⟨off,b⟩:=p;simp only[];split<;>first|rfl|exact mK a rest _
def AUd(P:Q1)(t:Q7)(i:Nat):Option Q7:=
 match P.underlying t with
 |some (.struct b)=>(b[i]?).map (·.type)
 |some (.array _ a)=>some a
 |some (.slice a)=>some a
 |_=>none
def kY(P:Q1)(t:Q7)(a:Env):List (Nat×Operand)->(List (Nat×Array J0)->Prop)->Prop
 | [],K=>K []
 |(i,x)::b,K=>match AUd P t i with
  |some ft=>rd a x λv=>kX P ft v λc=>kY P t a b λl=>K ((i,c)::l)
  |none=>False
def placesOf(P:Q1):List Field->Option (List (Nat×Nat))
 | []=>some []
 |f::a=>match P.info? f.type with
  |some i=>match placesOf P a with
   |some l=>some ((f.offset,i.size)::l)
   |none=>none
  |none=>none
def pE(P:Q1)(t:Q7)(a:List (Nat×Array J0)):Option (Array J0):=
 match P.info? t with
 |some i=>match i.zero with
  |some z=>match P.underlying t with
   |some (.struct c)=>match placesOf P c.toList with
    |some l=>ka (l.toArray[·]?) z.cells a
    |none=>none
   |some (.array _ d)=>match P.info? d with
    |some b=>ka (λe=>some (e*b.size,b.size)) z.cells a
    |none=>none
   |_=>none
  |none=>none
 |none=>none
def AUA(P:Q1)(t:Q7)(a:Array (Nat×Operand))(b:Env)(K:J0->Prop):Prop:=
 kY P t b a.toList λl=>match pE P t l with|some cells=>K (.agg cells)|none=>False
def mL(P:Q1)(e:Oper)(d:Env)(K:J0->Prop):Prop:=
 match e.op with
 | .nilCheck x=>rd d x λv=>tP v K
 | .binOp h t x g _=>rd d x λv=>rd d g λu=>pw P h t x g v u K
 | .indexAddr t x i=>rd d x λv=>rd d i λu=>pz P t v u K
 | .index t x i=>rd d x λv=>rd d i λu=>pA P t v u K
 | .slice t x lo hi j=>match j with
  |none=>rd d x λv=>kW d lo λl=>kW d hi λf=>pB P t v l f K
  |some m=>rd d x λv=>kW d lo λl=>kW d hi λf=>rd d m λk=>pC P t v l f k K
 | .pick c a b=>rd d c λv=>match v with| .bool c=>pD c (rdv d a) (rdv d b) K|_=>False
 | .build t n=>AUA P t n d K
 | .fieldAddr t x i=>rd d x λv=>match v with| .pointer p=>At p λa=>Nr P (Instr.fieldAt t (.pointer (some a)) i) K|_=>False
 |_=>known d e.op.operands.toList (Nr P (execOp (ρof d) e) λx=>match x with| .value v=>K v|_=>False)
theorem At.mk {p:Q2}{K:Q6->Prop}(b:At p K): ∃a,p=some a/\K a:=by
 cases p with
 |none=>exact b.elim
 |some a=>exact⟨a,rfl,b⟩
theorem iL {P:Q1}{s:Sem J0}{v:J0}{w a:World}(b:s.run P w= .ok v a):(do pure (.value (<- s)):Sem Next).run P w= .ok (.value v) a:=by rw[Sem.run_bind,b];rfl
theorem AVh {P:Q1}{s:Sem Unit}{w a:World}(b:s.run P w= .ok () a):(do s;pure .skip:Sem Next).run P w= .ok .skip a:=by rw[Sem.run_bind,b];rfl
section
variable {P : Q1} {w : World}
theorem BK {t:Q7}{a:TypeDesc}(b:P.underlying t=some a):(underlying t).run P w= .ok a w:=run_underlying b w
theorem tQ {t:Q7}{i:TypeInfo}(a:P.info? t=some i):(typeInfo t).run P w= .ok i w:=by simp[typeInfo,a]
theorem run_sizeOf {t:Q7}{i:TypeInfo}(a:P.info? t=some i):(sizeOf t).run P w= .ok i.size w:=by simp[sizeOf,tQ a]
def Uv(P:Q1)(t:Q7):Option J0:=
 match P.underlying t with
 |some (.pointer _)=>some (.pointer none)
 |some (.slice _)=>some (.slice none 0 0)
 |some (.map _ _)=>some (.map none)
 |some (.func _ _ _)=>some .nilFunc
 |some (.interface _)=>some .nilIface
 |_=>none
theorem Ym {t:Q7}{b:Operand}(a:WK P t b=true): ∃u,b= .const u/\Uv P t=some u:=by unfold WK at a;unfold Uv;split at a<;>first|(cases a;done)|(split at a<;>first|(cases a;done)|exact⟨_,rfl,rfl⟩)
theorem AHW(g:Nat){t:Q7}{v u:J0}{K:Bool->Prop}(c:kV P t v K)(d:Uv P t=some u):
  ∃b,(∀ w,(Op.equalIn (g+1) t v u).run P w= .ok b w)/\(∀ w,(Op.equalIn (g+1) t u v).run P w= .ok b w)/\K b:=by
 unfold kV at c;unfold Uv at d;cases e:P.underlying t with
 |none=>rw[e] at c;exact c.elim
 |some i=>
  rw[e] at c d;cases i<;>simp only[] at c d<;>try exact c.elim
  case pointer h=>
   simp only[Bk] at d;subst d;cases v<;>simp only[] at c<;>try exact c.elim
   case pointer p=>
    refine⟨_,λw=>?_,λw=>?_,c⟩
    ·cases p<;>simp[Op.equalIn,BK e]
    ·cases p<;>simp[Op.equalIn,BK e]
  case slice h=>
   simp only[Bk] at d;subst d;cases v<;>simp only[] at c<;>try exact c.elim
   case slice p a b=>
    refine⟨_,λw=>?_,λw=>?_,c⟩
    ·cases p<;>simp[Op.equalIn,BK e]
    ·cases p<;>simp[Op.equalIn,BK e]
  case map j h=>
   simp only[Bk] at d;subst d;cases v<;>simp only[] at c<;>try exact c.elim
   case map p=>
    refine⟨_,λw=>?_,λw=>?_,c⟩
    ·cases p<;>simp[Op.equalIn,BK e]
    ·cases p<;>simp[Op.equalIn,BK e]
  case func ps k l=>
   simp only[Bk] at d;subst d;obtain⟨f,c⟩:=c;cases v<;>simp only[jv] at f
   ·refine⟨_,λw=>?_,λw=>?_,c⟩<;>simp[Op.equalIn,BK e,YE]
   ·refine⟨_,λw=>?_,λw=>?_,c⟩<;>simp[Op.equalIn,BK e,YE]
  case interface m=>
   simp only[Bk] at d;subst d;obtain⟨f,c⟩:=c;cases v<;>simp only[kU] at f
   ·refine⟨_,λw=>?_,λw=>?_,c⟩<;>simp[Op.equalIn,BK e,jZ]
   ·refine⟨_,λw=>?_,λw=>?_,c⟩<;>simp[Op.equalIn,BK e,jZ]
end
section
variable {P : Q1}
def PR(P:Q1)(s:Sem J0)(K:J0->Prop):Prop:= ∃v,(∀ a,s.run P a= .ok v a)/\K v
theorem AF4 {f:Nat}{a:Act}{c:Env}(g:Fits f a c){o:Oper}{K:J0->Prop}(h:JY o)
  (i:known c o.op.operands.toList (Nr P (execOp (ρof c) o) λx=>match x with| .value v=>K v|_=>False)):
  ∃v,(∀ d,(execOp a.eval o).run P d= .ok (.value v) d)/\K v:=by
 obtain⟨j,k⟩:=I9 g i;obtain⟨x,b,e⟩:=Mx k;rw[execOp_congr o h (λx b=>j x (by simpa using b))] at b;cases x<;>simp only[] at e
 exact⟨_,b,e⟩
theorem AOQ {d:BinOp}{t:Q7}{x g:Operand}{v u:J0}{K:J0->Prop}(h:d= .quo\/d= .rem)(c:pj d v u K):PR P (do eqGuard d t x g v u;binOp d t v u) K:=by
 unfold pj at c;cases v<;>cases u<;>simp only[] at c<;>try exact c.elim
 rename_i i a j b;by_cases f:i=j
 ·subst f;rcases h with rfl|rfl
  ·simp only[decide_true] at c;obtain⟨e,c⟩:=c;exact⟨_,λk=>by simp[eqGuard,binOp,Op.intDiv,e],c⟩
  ·simp only[decide_true] at c;obtain⟨e,c⟩:=c;exact⟨_,λk=>by simp[eqGuard,binOp,Op.intDiv,e],c⟩
 ·rw[decide_eq_false f] at c;exact c.elim
theorem ARw {b:BinOp}{t:Q7}{x d:Operand}{v u:J0}{K:J0->Prop}(e:b= .shl\/b= .shr)(a:pn b v u K):PR P (do eqGuard b t x d v u;binOp b t v u) K:=by
 unfold pn at a;cases v<;>cases u<;>simp only[] at a<;>try exact a.elim
 rcases e with rfl|rfl
 ·simp only[] at a;obtain⟨c,a⟩:=a;exact⟨_,λf=>by simp[eqGuard,binOp,Op.shift,Int.not_lt.2 c],a⟩
 ·simp only[] at a;obtain⟨c,a⟩:=a;exact⟨_,λf=>by simp[eqGuard,binOp,Op.shift,Int.not_lt.2 c],a⟩
theorem AOz {t:Q7}{x b:Operand}{v u:J0}{K:J0->Prop}(a:pq v u K):PR P (do eqGuard .add t x b v u;binOp .add t v u) K:=by
 unfold pq at a;cases v<;>cases u<;>simp only[] at a<;>try exact a.elim
 obtain⟨c,a⟩:=a;refine⟨_,λe=>?_,a⟩;have d: ¬(((_:A31).size+(_:A31).size:Nat):Int)>IntKind.i64.max:=Int.not_lt.2 c;simp only[eqGuard,binOp,Op.stringOp,if_neg d];rfl
theorem tT {t:Q7}{v u:J0}{K:Bool->Prop}(c:kV P t v K)(d:Uv P t=some u):
  ∃b,(∀ a,(Op.equal t v u).run P a= .ok b a)/\(∀ a,(Op.equal t u v).run P a= .ok b a)/\K b:=AHW 9999 c d
theorem binOp_eql {a:BinOp}{t:Q7}{v u:J0}{b:Bool}(g:a= .eql\/a= .neq)(c:Uv P t=some u){d:World}(e:(Op.equal t v u).run P d= .ok b d):
  (binOp a t v u).run P d= .ok (XP a b) d/\True:=by
 have f:u= .pointer none\/u= .slice none 0 0\/u= .map none\/u= .nilFunc\/u= .nilIface:=by unfold Uv at c;split at c<;>simp at c<;>subst c<;>simp
 refine⟨?_,trivial⟩;rcases g with rfl|rfl
 ·rcases f with rfl|rfl|rfl|rfl|rfl<;>cases v<;>simp[binOp,e,XP]
 ·rcases f with rfl|rfl|rfl|rfl|rfl<;>cases v<;>simp[binOp,e,XP]
theorem AKw {a:BinOp}{t:Q7}{v u:J0}{b:Bool}(g:a= .eql\/a= .neq)(c:Uv P t=some u){d:World}(e:(Op.equal t u v).run P d= .ok b d):
  (binOp a t u v).run P d= .ok (XP a b) d/\True:=by
 have f:u= .pointer none\/u= .slice none 0 0\/u= .map none\/u= .nilFunc\/u= .nilIface:=by unfold Uv at c;split at c<;>simp at c<;>subst c<;>simp
 refine⟨?_,trivial⟩;rcases g with rfl|rfl
 ·rcases f with rfl|rfl|rfl|rfl|rfl<;>cases v<;>simp[binOp,e,XP]
 ·rcases f with rfl|rfl|rfl|rfl|rfl<;>cases v<;>simp[binOp,e,XP]
theorem tU {b:BinOp}{t:Q7}{x e:Operand}{v u:J0}{d:World}(f:b= .eql\/b= .neq)(a:Uv P t=some u)(g:(∃ c,x= .const c)\/(∃ c,e= .const c)):
  (eqGuard b t x e v u).run P d= .ok () d/\(eqGuard b t x e u v).run P d= .ok () d:=by
 have h:u= .pointer none\/u= .slice none 0 0\/u= .map none\/u= .nilFunc\/u= .nilIface:=by unfold Uv at a;split at a<;>simp at a<;>subst a<;>simp
 clear a;rcases f with rfl|rfl<;>rcases g with⟨c,rfl⟩|⟨c,rfl⟩<;>rcases h with rfl|rfl|rfl|rfl|rfl<;>cases v<;>exact⟨by simp[eqGuard],by simp[eqGuard]⟩
theorem AO3 {d:BinOp}{t:Q7}{x h:Operand}{v u:J0}{K:J0->Prop}(n: ∀c,x= .const c->v=c)(o: ∀c,h= .const c->u=c)(e:pw P d t x h v u K):
  PR P (do eqGuard d t x h v u;binOp d t v u) K:=by
 unfold pw at e;cases a:Vb P d t x h with
 |dS=>rw[a] at e;exact Mx e
 |no=>rw[a] at e;exact e.elim
 |div=>
  rw[a] at e;refine AOQ ?_ e;unfold Vb at a;cases d<;>simp only[] at a<;>first|exact .inl rfl|exact .inr rfl|(exfalso;split at a<;>first|(cases a;done)|(split at a<;>first|(cases a;done)|(split at a<;>cases a)))
 |shift=>
  rw[a] at e;refine ARw ?_ e;unfold Vb at a;cases d<;>simp only[] at a<;>first|exact .inl rfl|exact .inr rfl|(exfalso;split at a<;>first|(cases a;done)|(split at a<;>first|(cases a;done)|(split at a<;>cases a)))
 |cat=>
  rw[a] at e;have:d= .add:=by unfold Vb at a;cases d<;>simp only[] at a<;>first|rfl|(exfalso;split at a<;>first|(cases a;done)|(split at a<;>first|(cases a;done)|(split at a<;>cases a)))
  subst this;exact AOz e
 |j8=>
  rw[a] at e;have f:(d= .eql\/d= .neq)/\WK P t h=true:=by
   unfold Vb at a;cases d<;>simp only[] at a<;>first
    |(refine⟨.inl rfl,?_⟩;split at a<;>first|(cases a;done)|(split at a<;>first|assumption|(split at a<;>cases a)))
    |(refine⟨.inr rfl,?_⟩;split at a<;>first|(cases a;done)|(split at a<;>first|assumption|(split at a<;>cases a)))
    |(exfalso;split at a<;>first|(cases a;done)|(split at a<;>first|(cases a;done)|(split at a<;>cases a)))
  obtain⟨f,i⟩:=f;obtain⟨c,l,g⟩:=Ym i;have:=o c l;subst this;obtain⟨b,p,_,j⟩:=tT e g;refine⟨XP d b,λk=>?_,j⟩;rw[Sem.run_bind,(tU f g (.inr ⟨_,l⟩)).1];exact(binOp_eql f g (p k)).1
 |j9=>
  rw[a] at e;have f:(d= .eql\/d= .neq)/\WK P t x=true:=by
   unfold Vb at a;cases d<;>simp only[] at a<;>first
    |(refine⟨.inl rfl,?_⟩;split at a<;>first|(cases a;done)|(split at a<;>first|(cases a;done)|(split at a<;>first|assumption|(cases a;done))))
    |(refine⟨.inr rfl,?_⟩;split at a<;>first|(cases a;done)|(split at a<;>first|(cases a;done)|(split at a<;>first|assumption|(cases a;done))))
    |(exfalso;split at a<;>first|(cases a;done)|(split at a<;>first|(cases a;done)|(split at a<;>cases a)))
  obtain⟨f,i⟩:=f;obtain⟨c,m,g⟩:=Ym i;have:=n c m;subst this;obtain⟨b,_,q,j⟩:=tT e g;refine⟨XP d b,λk=>?_,j⟩;rw[Sem.run_bind,(tU f g (.inl ⟨_,m⟩)).2];exact(AKw f g (q k)).1
end
section
variable {P : Q1}
theorem AFW {t:Q7}{v i:J0}{K:J0->Prop}(b:pz P t v i K):PR P (Instr.indexAt t v i) K:=by
 unfold pz at b;split at b
 ·rename_i h d;split at b
  ·rename_i p len c j k l e;obtain⟨a,rfl,⟨f,g⟩,b⟩:=b;refine⟨_,λm=>?_,b⟩;simp[Instr.indexAt,asIntOf,BK d,run_sizeOf e,f,g]
  ·exact b.elim
 ·rename_i len h d;split at b
  ·rename_i p j k l e;obtain⟨a,rfl,b⟩:=At.mk b;obtain⟨⟨f,g⟩,b⟩:=b;refine⟨_,λm=>?_,b⟩;simp[Instr.indexAt,asIntOf,BK d,run_sizeOf e,f,g,Instr.sureAddr]
  ·exact b.elim
 ·exact b.elim
theorem AJj {t:Q7}{v i:J0}{K:J0->Prop}(a:pA P t v i K):PR P (Instr.index t v i) K:=by
 unfold pA at a;split at a
 ·rename_i c;split at a
  ·rename_i s g b;obtain⟨⟨d,h⟩,a⟩:=a;refine⟨_,λj=>?_,a⟩;have e:b.toNat<s.size:=by omega
   have f:s[b.toNat]? =some s[b.toNat]:=by simp[e]
   simp[Instr.index,asIntOf,BK c,d,f,du]
  ·exact a.elim
 ·exact Mx a
 ·exact a.elim
theorem Vs {x:Option J0}{d max:Nat}{K:Nat->Prop}(a:gv x d max K):
  (x=none/\K d)\/ ∃c b,x=some (.int c b)/\0<=b/\b<=(max:Int)/\K b.toNat:=by
 unfold gv at a;split at a
 ·rename_i c b;obtain⟨⟨e,f⟩,a⟩:=a;exact .inr ⟨c,b,rfl,e,f,a⟩
 ·exact .inl ⟨rfl,a⟩
 ·exact a.elim
theorem run_sliceBound {d:IntKind}{a:Int}{b:Nat}{e:BoundsCode}(f:0<=a)(g:a<=(b:Int))(c:World):
  (Instr.sliceBound (.int d a) b e).run P c= .ok a.toNat c:=by
 simp[Instr.sliceBound,asIntOf,f,g]
theorem Nc {b:Bool}{len g:Nat}{lo hi:Option J0}{K:Nat->Nat->Prop}
  (n:gv hi len g λe=>gv lo 0 e λl=>K l e): ∃l e,(∀ d,(Instr.sliceBounds b len g lo hi none).run P d= .ok (l,e,g) d)/\K l e:=by
 obtain⟨f,h⟩|⟨q,r,f,k,m,h⟩:=Vs n
 ·obtain⟨a,c⟩|⟨o,p,a,i,j,c⟩:=Vs h
  ·exact⟨_,_,λd=>by simp[Instr.sliceBounds,f,a],c⟩
  ·exact⟨_,_,λd=>by simp[Instr.sliceBounds,f,a,run_sliceBound i j],c⟩
 ·obtain⟨a,c⟩|⟨o,p,a,i,j,c⟩:=Vs h
  ·exact⟨_,_,λd=>by simp[Instr.sliceBounds,f,a,run_sliceBound k m],c⟩
  ·exact⟨_,_,λd=>by simp[Instr.sliceBounds,f,a,run_sliceBound k m,run_sliceBound i j],c⟩
theorem AJU {t:Q7}{v:J0}{lo hi:Option J0}{K:J0->Prop}(c:pB P t v lo hi K):PR P (Instr.sliceAt t v lo hi none) K:=by
 unfold pB at c;split at c
 ·rename_i d;split at c
  ·rename_i s;obtain⟨l,g,e,c⟩:=Nc (P:=P) (b:=false) c;refine⟨_,λh=>?_,c⟩;simp[Instr.sliceAt,Instr.slice,BK d,e]
  ·exact c.elim
 ·rename_i i d;split at c
  ·rename_i p len m j f;obtain⟨l,g,e,c⟩:=Nc (P:=P) (b:=true) c;refine⟨_,λh=>?_,c⟩;simp[Instr.sliceAt,Instr.slice,BK d,e,run_sizeOf f,BJ]
  ·exact c.elim
 ·rename_i n i d;split at c
  ·rename_i p j f;obtain⟨a,rfl,k⟩:=At.mk c;obtain⟨l,g,e,c⟩:=Nc (P:=P) (b:=false) k;refine⟨_,λh=>?_,c⟩;simp[Instr.sliceAt,BK d,e,run_sizeOf f,Instr.sureAddr]
  ·exact c.elim
 ·exact c.elim
theorem AII {t:Q7}{v d:J0}{lo hi:Option J0}{K:J0->Prop}(a:pC P t v lo hi d K):PR P (Instr.sliceAt t v lo hi (some d)) K:=by
 unfold pC at a;split at a
 ·rename_i n e;split at a
  ·rename_i p len o q r s b u f;obtain⟨⟨g,h⟩,⟨i,j⟩,a⟩:=a;obtain⟨c,b⟩|⟨w,x,c,k,l,b⟩:=Vs a
   ·refine⟨_,λm=>?_,b⟩;simp[Instr.sliceAt,Instr.slice,Instr.sliceBounds,BK e,run_sizeOf f,BJ,c,run_sliceBound g h,run_sliceBound i j]
   ·refine⟨_,λm=>?_,b⟩;simp[Instr.sliceAt,Instr.slice,Instr.sliceBounds,BK e,run_sizeOf f,BJ,c,run_sliceBound g h,run_sliceBound i j,run_sliceBound k l]
  ·exact a.elim
 ·exact a.elim
theorem ae.mk {b:Bool}{c d:Prop}(a:ae b c d):(b=true->c)/\(b=false->d):=by
 cases b
 ·exact⟨λa=>(by cases a),λ_=>a⟩
 ·exact⟨λ_=>a,λa=>(by cases a)⟩
theorem AKy {c:Bool}{a b:Option J0}{va vb:J0}(e: ∀v,a=some v->va=v)(f: ∀v,b=some v->vb=v){K:J0->Prop}(d:pD c a b K):
  K (if c then va else vb):=by
 unfold pD at d;split at d
 ·rename_i x g;rw[e _ rfl,f _ rfl];cases c<;>exact d
 ·rename_i x g _;rw[e _ rfl,f _ rfl];cases c<;>exact d
 ·rename_i x;rw[e _ rfl];cases c
  ·exact d.elim
  ·exact d
 ·rename_i g;rw[f _ rfl];cases c
  ·exact d
  ·exact d.elim
 ·exact d.elim
theorem SB {d:Nat}{a:Act}{b:Env}(e:Fits d a b){x:Option Operand}{K:Option J0->Prop}(c:kW b x K):K (x.map a.eval):=by
 cases x with
 |none=>exact c
 |some x=>exact BR e c
theorem Sz {e:Nat}{a:Act}{c:Env}(d:Fits e a c){t:Q7}: ∀ {l:List (Nat×Operand)} {K:List (Nat×Array J0)->Prop},kY P t c l K->K (l.map λp=>(p.1,(a.eval p.2).cells))
 | [],K,b=>b
 |(i,x)::h,K,b=>by
  unfold kY at b;split at b
  ·have f:=Ry (BR d b);have g:=Sz d f;exact g
  ·exact b.elim
theorem uX: ∀(a:List Field),placesOf P a=a.mapM (λf=>(P.info? f.type).map λi=>(f.offset,i.size))
 | []=>rfl
 |f::b=>by
  simp only[placesOf,PJ,Option.bind_eq_bind,Option.pure_def,uX b];cases P.info? f.type with
  |none=>rfl
  |some i=>simp only[Hk,R0];cases b.mapM (λf=>(P.info? f.type).map λi=>(f.offset,i.size))<;>rfl
theorem AL3 {t:Q7}{b:Array (Nat×J0)}{cells:Array J0}(a:pE P t (b.toList.map λp=>(p.1,p.2.cells))=some cells)(c:World):
  (Instr.build t b).run P c= .ok (.agg cells) c:=by
 unfold pE at a;split at a
 ·rename_i j e;split at a
  ·rename_i z f;split at a
   ·rename_i k d;split at a
    ·rename_i l g;rw[<- mK] at a;rw[uX] at g;have h:Instr.fill (λx=>l[x]?) z.cells b.toList=some cells:=by simpa using a
     simp[Instr.build,run_underlying d,typeInfo,zeroValue,e,f,Wa,run_places c _ _ g,h]
    ·cases a
   ·rename_i m n d;split at a
    ·rename_i o i;rw[<- mK] at a;simp[Instr.build,run_underlying d,sizeOf,typeInfo,zeroValue,e,f,i,a]
    ·cases a
   ·cases a
  ·cases a
 ·cases a
theorem uY {r:Nat}{a:Act}{n:Env}(e:Fits r a n){o:Oper}{K:J0->Prop}(u:JY o)(d:mL P o n K):
  ∃v,(∀ g,(execOp a.eval o).run P g= .ok (.value v) g)/\K v:=by
 have lift: ∀ {s:Sem J0},PR P s K->(execOp a.eval o=do pure (.value (<- s)))-> ∃v,(∀ g,(execOp a.eval o).run P g= .ok (.value v) g)/\K v:=by intro s ⟨v,j,w⟩ y;exact⟨v,λg=>by rw[y];exact iL (j g),w⟩
 have z:=AF4 (P:=P) e (o:=o) (K:=K) u;unfold mL at d;cases f:o.op
 case nilCheck x=>
  rw[f] at d;have d:=BR e d;unfold tP at d;cases k:a.eval x<;>rw[k] at d<;>simp only[] at d
  rename_i p;obtain⟨b,rfl,d⟩:=At.mk d;exact⟨_,λg=>by simp[execOp,f,k],d⟩
 case binOp B t x q t'=>
  rw[f] at d;have d:=BR e (BR e d);refine lift (AO3 (λc h=>by subst h;rfl) (λc h=>by subst h;rfl) d) ?_;simp[execOp,f]
 case indexAddr t x i=>
  rw[f] at d;have d:=BR e (BR e d);refine lift (AFW d) ?_;simp[execOp,f]
 case index t x i=>
  rw[f] at d;have d:=BR e (BR e d);refine lift (AJj d) ?_;simp[execOp,f]
 case slice t x lo hi A=>
  rw[f] at d;cases A with
  |some m=>
   have d:=BR e (SB e (SB e (BR e d)));refine lift (AII d) ?_;simp[execOp,f]
  |none=>
   have d:=SB e (SB e (BR e d));refine lift (AJU d) ?_;simp[execOp,f]
 case build t C=>
  rw[f] at d;have d:=Sz e d;split at d
  ·rename_i cells h;refine⟨_,λg=>?_,d⟩;simp only[execOp,f];refine iL (AL3 ?_ g);rw[<- h];congr 1;simp
  ·exact d.elim
 case pick c x q=>
  rw[f] at d;have d:=BR e d;cases h:a.eval c<;>rw[h] at d<;>simp only[] at d
  rename_i b;have d:=AKy (va:=a.eval x) (vb:=a.eval q) (λv j=>e.rdv j) (λv j=>e.rdv j) d;exact⟨_,λg=>by simp[execOp,f,h,asBool],d⟩
 case fieldAddr t x i=>
  rw[f] at d;have d:=BR e d;cases k:a.eval x<;>rw[k] at d<;>simp only[] at d
  obtain⟨b,rfl,l⟩:=At.mk d;clear d;unfold Nr at l;split at l
  ·rename_i v h;exact⟨v,λg=>by simp only[execOp,f,k];exact iL (De h g),l⟩
  ·exact l.elim
 all_goals (rw[f] at d;simp only[] at d;rw[<- f] at d;exact z d)
def NA(b:aa)(a:Q6):Nat->List J0->Prop
 |_,[]=>True
 |i,[v]=>af b (a.add i)=some v
 |i,v::c=>af b (a.add i)=some v/\NA b a (i+1) c
def loadT(P:Q1)(t:Q7)(c:aa)(a:Q6)(K:J0->(aa->Prop)->Prop):Prop:=
 match Xv P t with
 |true=>match P.info? t with
  |some i=>match Nat.beq (jt P 20 t).length i.size with
   |true=>p8 c a 0 (jt P 20 t) λd=>K (.agg d.toArray) (λb=>NA b a 0 d)
   |false=>False
  |none=>False
 |false=>match P.underlying t with
  |some _=>match jt P 20 t with
   | [s]=>s.load c a λx=>K (s.val x) (λb=>af b a=some (s.val x))
   |_=>False
  |none=>False
def mX(P:Q1)(b:Oper)(c:Env)(d:aa)(K:J0->(aa->Prop)->Prop):Prop:=
 match b.op with
 | .load t x=>rd c x λv=>match v with
  | .pointer p=>At p λa=>loadT P t d a K
  |_=>False
 |_=>False
theorem XJ {b:aa}{a:Q6}{i:Nat}{v:J0}{c:List J0}:NA b a i (v::c)↔af b (a.add i)=some v/\NA b a (i+1) c:=by
 cases c with
 |nil=>simp[NA]
 |cons u d=>simp[NA]
theorem XK {d:aa}{a:Q6}: ∀ {l:List Sc} {i:Nat} {K:List J0->Prop},p8 d a i l K-> ∃c,c.length=l.length/\NA d a i c/\K c
 | [],_,_,b=>⟨[],rfl,trivial,b⟩
 |s::l,i,K,b=>by
  obtain⟨x,e,b⟩:=Sc.c6 b;obtain⟨c,f,g,b⟩:=XK b;exact⟨s.val x::c,by simp[f],XJ.2 ⟨e,g⟩,b⟩
theorem run_loadCellsFrom {A:ao}{b:aa}{a:Q6}{n:Nat}: ∀ {c:List J0} {i:Nat} {acc:Array J0},NA b a i c->
  (loadCellsFrom a i c.length acc).run P (A.at b n)= .ok (acc++c.toArray) (A.at b n)
 | [],_,acc,_=>by simp[loadCellsFrom]
 |v::c,i,acc,d=>by
  obtain⟨e,f⟩:=XJ.1 d;have g:=run_loadCellsFrom (A:=A) (n:=n) (acc:=acc.push v) f;have h:(load (a.add i)).run P (A.at b n)= .ok v (A.at b n):=by have j:(A.at b n).cell? (a.add i)=some v:=e;simp[load,Sem.run,j]
  simp only[Ax,loadCellsFrom,Sem.run_bind,h,Result.andThen_ok,g];simp
theorem uZ {t:Q7}{b:World}(c: ∃a,P.underlying t=some a):(isAgg t).run P b= .ok (Xv P t) b:=by obtain⟨a,hd⟩:=c;unfold isAgg Xv;rw[hd];cases a<;>simp[BK hd]
theorem vd {A:ao}{t:Q7}{i:aa}{a:Q6}{K:J0->(aa->Prop)->Prop}(b:loadT P t i a K):
  ∃v st,(∀ c,st c-> ∀n,(loadVar t a).run P (A.at c n)= .ok v (A.at c n))/\st i/\K v st:=by
 unfold loadT at b;cases d:Xv P t with
 |true=>
  rw[d] at b;simp only[] at b;have f: ∃e,P.underlying t=some e:=by
   cases f:P.underlying t with
   |none=>simp[Xv,f] at d
   |some e=>exact⟨e,rfl⟩
  split at b
  ·rename_i q j;split at b
   ·rename_i g;have g:=IN g;obtain⟨r,k,l,b⟩:=XK b;refine⟨_,_,λc h n=>?_,l,b⟩;have m:=run_loadCellsFrom (P:=P) (A:=A) (n:=n) (acc:= #[]) h;simp only[loadVar,Sem.run_bind,uZ f,d,Result.andThen_ok,if_true,run_sizeOf j];rw[<- g,<-k];simp only[loadCells,m,Result.andThen_ok];simp
   ·exact b.elim
  ·exact b.elim
 |false=>
  rw[d] at b;simp only[] at b;split at b
  ·rename_i e hd;split at b
   ·rename_i s _;obtain⟨x,o,b⟩:=Sc.c6 b;refine⟨_,_,λc h n=>?_,o,b⟩;have p:(A.at c n).cell? a=some (s.val x):=h;simp[loadVar,uZ ⟨e,hd⟩,d,load,Sem.run,p]
   ·exact b.elim
  ·exact b.elim
theorem c6 {A:ao}{h:Nat}{a:Act}{e:Env}(i:Fits h a e){f:Oper}{g:aa}{K:J0->(aa->Prop)->Prop}(c:mX P f e g K):
  ∃v st,(∀ d,st d->im P A f a.eval v d)/\st g/\K v st:=by
 unfold mX at c;split at c
 ·rename_i t x j;have c:=BR i c;split at c
  ·rename_i p d;obtain⟨b,rfl,c⟩:=At.mk c;obtain⟨v,st,k,l,c⟩:=vd (A:=A) c;refine⟨v,st,λm n o=>?_,l,c⟩;have:=k m n o;simp only[execOp,j,d];refine iL ?_;simp only[Instr.loadAt,Instr.sureAddr,Sem.run_bind,Sem.run_pure,Result.andThen_ok];exact this
  ·exact c.elim
 ·exact c.elim
end
section
variable {P : Q1} {A : ao} {r : Option Nat} {ops : Array Oper} {qb : Oper -> Bool} {ord : Nat -> Nat -> Bool}
abbrev Kt:=Act->aa->List (Nat×(aa->Prop))->Prop
def Ep(P:Q1)(A:ao)(ops:Array Oper)(qb:Oper->Bool)(ord:Nat->Nat->Bool)(i:Nat)(K:Kt):Kt:=λa c d=>
 match ops[i]? with
 |none=>False
 |some b=>
  if Region.wanted b (yielded ops a.tmps)=true then
   if qb b=true then
    ∃v,im P A b a.eval v c/\K (a.put b.dst v) c ((i,im P A b a.eval v)::d)
   else
    ∀f,EV P b a.eval (A.at c f) λv g=> ∃e h,g=A.at e h/\(∀ p∈d,un ord i p.1=true->p.2 e)/\K (a.put b.dst v) e d
  else K (a.put b.dst undef) c d
def lG(K:Kt):Prop:= ∀a b c d,K a b c->(∀ p∈d,p∈c)->K a b d
theorem Ep.mono {i:Nat}{K f:Kt}(h: ∀a c d,K a c d->f a c d){a:Act}{c:aa}{d:List (Nat×(aa->Prop))}
  (b:Ep P A ops qb ord i K a c d):Ep P A ops qb ord i f a c d:=by
 unfold Ep at b ⊢;cases g:ops[i]? with
 |none=>rw[g] at b;exact b
 |some l=>
  rw[g] at b;simp only at b ⊢;split
  ·rename_i e;rw[if_pos e] at b;split
   ·grind
   ·rename_i j;rw[if_neg j] at b;intro k;refine(b k).mono ?_
    grind
  ·rename_i e;rw[if_neg e] at b;exact h _ _ _ b
theorem Ep.eV {i:Nat}{K:Kt}(c:lG K):lG (Ep P A ops qb ord i K):=by
 intro a s t u b d;unfold Ep at b ⊢;cases h:ops[i]? with
 |none=>rw[h] at b;exact b
 |some w=>
  rw[h] at b;simp only at b ⊢;split
  ·rename_i e;rw[if_pos e] at b;split
   ·rename_i f;rw[if_pos f] at b;obtain⟨v,k,g⟩:=b;refine⟨v,k,c _ _ _ _ g (λp j=>?_)⟩
    grind
   ·rename_i f;rw[if_neg f] at b;intro l;refine(b l).mono ?_;rintro v x ⟨m,n,o,q,g⟩;exact⟨m,n,o,λp j=>q p (d p j),c _ _ _ _ g d⟩
  ·rename_i e;rw[if_neg e] at b;exact c _ _ _ _ b d
theorem Ep.swap {i f:Nat}{c d:Oper}(hi:ops[i]? =some c)(g:ops[f]? =some d)(D:c.apart ops d=true)(E:JY c)(F:JY d)
  (S:un ord i f=true) (k:qb d=true) {K:Kt} (G:lG K) {a:Act} {o:aa} {q:List (Nat×(aa->Prop))}
  (b:Ep P A ops qb ord f (Ep P A ops qb ord i K) a o q):Ep P A ops qb ord i (Ep P A ops qb ord f K) a o q:=by
 obtain⟨s,H,t⟩:=Oper.apart_spec D;have T:un ord f i=true:=by unfold un at *;grind
 have w: ∀u,execOp (a.put d.dst u).eval c=execOp a.eval c:=λu=>execOp_put c E a d.dst u t
 have U: ∀u,execOp (a.put c.dst u).eval d=execOp a.eval d:=λu=>execOp_put d F a c.dst u s
 have x: ∀u,Region.wanted c (yielded ops (a.put d.dst u).tmps)=Region.wanted c (yielded ops a.tmps):=λu=>wanted_put c a d.dst u t
 have l: ∀u,Region.wanted d (yielded ops (a.put c.dst u).tmps)=Region.wanted d (yielded ops a.tmps):=λu=>wanted_put d a c.dst u s
 have y: ∀u,im P A c (a.put d.dst u).eval=im P A c a.eval:=λu=>by grind [im]
 have m: ∀u,im P A d (a.put c.dst u).eval=im P A d a.eval:=λu=>by grind [im]
 have z: ∀v u,(a.put c.dst v).put d.dst u=(a.put d.dst u).put c.dst v:=λv u=>Act.put_comm a v u H
 unfold Ep at b ⊢;rw[g] at b;rw[hi];simp only at b ⊢;by_cases e:Region.wanted d (yielded ops a.tmps)=true
 ·rw[if_pos e] at b;rw[if_pos k] at b;obtain⟨I,J,b⟩:=b;rw[hi] at b;simp only[x,y] at b;by_cases h:Region.wanted c (yielded ops a.tmps)=true
  ·rw[if_pos h] at b ⊢;by_cases j:qb c=true
   ·rw[if_pos j] at b ⊢;obtain⟨B,L,b⟩:=b;refine⟨B,L,?_⟩;rw[g];simp only[l,m];rw[if_pos e,if_pos k];refine⟨I,J,?_⟩;rw[z];exact G _ _ _ _ b λp C=>by grind
   ·rw[if_neg j] at b ⊢;intro n;have:=b n;unfold EV at this;rw[w] at this;refine EV.mono this ?_;rintro B V ⟨M,N,O,C,b⟩;refine⟨M,N,O,λp R=>C p (AI _ R),?_⟩;rw[g];simp only[l,m];rw[if_pos e,if_pos k]
    grind [List.mem_cons_self]
  ·rw[if_neg h] at b ⊢;rw[g];simp only[l,m];rw[if_pos e,if_pos k]
   grind
 ·rw[if_neg e] at b;rw[hi] at b;simp only[x,y] at b;by_cases h:Region.wanted c (yielded ops a.tmps)=true
  ·rw[if_pos h] at b ⊢;by_cases j:qb c=true
   ·rw[if_pos j] at b ⊢
    simp_all
   ·rw[if_neg j] at b ⊢;intro n;have:=b n;unfold EV at this ⊢;rw[w] at this;refine Next.dh ?_ this
    simp_all
  ·rw[if_neg h] at b ⊢;rw[g];simp only[l];rw[if_neg e,z];exact b
def Rs(ord:Nat->Nat->Bool)(l:List Nat)(i:Nat):Bool:=l.all λa=> !ord i a
def Uf(ops:Array Oper)(qb:Oper->Bool)(i:Nat):Bool:=match ops[i]? with|some a=>qb a|none=>false
def kB(ops:Array Oper)(qb:Oper->Bool)(ord:Nat->Nat->Bool)(l:List Nat):Option Nat:=l.find? λi=>Uf ops qb i&&Rs ord l i
def FT(P:Q1)(A:ao)(ops:Array Oper)(qb:Oper->Bool)(ord:Nat->Nat->Bool)(Q:Act->aa->Prop):Nat->List Nat->Kt
 |_,[]=>λa b _=>Q a b
 |0,_::_=>λ_ _ _=>False
 |k+1,x::l=>λa b c=>
  match kB ops qb ord (x::l) with
  |some i=>Ep P A ops qb ord i (FT P A ops qb ord Q k ((x::l).erase i)) a b c
  |none=> ∀i∈x::l,Rs ord (x::l) i=true->Ep P A ops qb ord i (FT P A ops qb ord Q k ((x::l).erase i)) a b c
variable {Q : Act -> aa -> Prop}
theorem FT.eV: ∀(k:Nat) (l:List Nat),lG (FT P A ops qb ord Q k l)
 |_,[]=>by intro a c _ _ b _;unfold FT at b ⊢;exact b
 |0,_::_=>by intro a c _ _ b _;unfold FT at b;exact b.elim
 |k+1,x::l=>by
  intro a c g h b d;unfold FT at b ⊢;split
  ·rename_i i hi;rw[hi] at b;exact Ep.eV (FT.eV k _) _ _ _ _ b d
  ·rename_i hi;rw[hi] at b;exact λi e f=>Ep.eV (FT.eV k _) _ _ _ _ (b i e f) d
def nJ(ops:Array Oper)(qb:Oper->Bool)(ord:Nat->Nat->Bool):Bool:=
 (ops.toList.all λe=>Jy e)&&
 (List.range ops.size).all λi=>
  match ops[i]? with
  |none=>false
  |some c=>
   (c.after.toList.all λa=> !Region.binds .any a||decide (a.on<i))&&
   (List.range ops.size).all λb=>
    match ops[b]? with
    |none=>false
    |some d=>
     if decide (b<i) then
      if ord i b then c.after.toList.any λa=>Region.binds .any a&&(a.on==b||(decide (b<a.on)&&ord a.on b))
      else(!(qb c||qb d))||(c.apart ops d&&d.apart ops c)
     else !ord i b
structure lH (ops:Array Oper) (qb:Oper->Bool) (ord:Nat->Nat->Bool):Prop where
 nd: ∀(i:Nat) (o:Oper),ops[i]? =some o->Jy o=true
 back: ∀(i:Nat) (o:Oper),ops[i]? =some o-> ∀e∈o.after,Region.binds .any e=true->e.on<i
 low: ∀i j,i<ops.size->j<ops.size->ord i j=true->j<i
 pair: ∀(i j:Nat) (oi oj:Oper),ops[i]? =some oi->ops[j]? =some oj->j<i->
   (ord i j=true/\ ∃e∈oi.after,Region.binds .any e=true/\(e.on=j\/(j<e.on/\ord e.on j=true)))\/
   (ord i j=false/\(qb oi=true\/qb oj=true->oi.apart ops oj=true/\oj.apart ops oi=true))
theorem AI4(c:nJ ops qb ord=true):lH ops qb ord:=by
 unfold nJ at c;simp only[A3,Fk,OF] at c;obtain⟨j,k⟩:=c;refine⟨λi e a=>j e (by grind),λi e a f g h=>?_,λi b hi d a=>?_,λi b p q hi d l=>?_⟩
 ·grind
 ·grind
 ·have m:i<ops.size:=(Array.getElem?_eq_some_iff.1 hi).1;have n:b<ops.size:=(Array.getElem?_eq_some_iff.1 d).1;have:=k i m;rw[hi] at this;simp only[A3,Fk,OF] at this;have:=this.2 b n;rw[d] at this;simp only at this;rw[if_pos (by simpa using l)] at this;cases a:ord i b with
  |true=>
   rw[a] at this;simp only[if_true,List.any_eq_true,A3,CH,beq_iff_eq,decide_eq_true_eq] at this;obtain⟨f,g,h,o⟩:=this;exact .inl ⟨rfl,f,by simpa using g,h,o⟩
  |false=>
   rw[a] at this;simp only[BW,if_false,A3,CH,Cd,GC] at this;refine .inr ⟨rfl,λs=>?_⟩
   grind
theorem ZB {l:List Nat}{i a:Nat}(b:Rs ord l i=true)(c:a∈l):ord i a=false:=by simp_all [Rs,Fk,Cd]
theorem R6 {l:List Nat}{i a:Nat}(b:Rs ord l i=true):Rs ord (l.erase a) i=true:=by grind [Rs,List.all_eq_true,List.mem_of_mem_erase]
theorem TF {l:List Nat}{q:Nat}(a:kB ops qb ord l=some q):q∈l/\Uf ops qb q=true/\Rs ord l q=true:=by
 unfold kB at a
 grind
theorem ALW {l:List Nat}(a:kB ops qb ord l=none){q:Nat}(b:q∈l)(c:Uf ops qb q=true):Rs ord l q=false:=by simp_all [kB,Hi,Ek]
theorem xQ {i:Nat}(b:Uf ops qb i=true): ∃a,ops[i]? =some a/\qb a=true:=by
 unfold Uf at b
 grind
theorem lH.swap(e:lH ops qb ord){i q:Nat}(p:i≠q)(hi:i<ops.size)(s:Uf ops qb q=true)(t:ord i q=false)(u:ord q i=false){K:Kt}(k:lG K){a:Act}{f:aa}
  {g:List (Nat×(aa->Prop))}:
  (Ep P A ops qb ord q (Ep P A ops qb ord i K) a f g->Ep P A ops qb ord i (Ep P A ops qb ord q K) a f g)/\
  (Uf ops qb i=true->Ep P A ops qb ord i (Ep P A ops qb ord q K) a f g->Ep P A ops qb ord q (Ep P A ops qb ord i K) a f g):=by
 obtain⟨h,c,l⟩:=xQ s;have d:ops[i]? =some ops[i]:=Fl hi;have m:=ZI (e.nd _ _ d);have n:=ZI (e.nd _ _ c);have o:(ops[i]).apart ops h=true/\h.apart ops (ops[i])=true:=by
  rcases N2 p with j|j
  ·rcases e.pair q i h _ c d j with⟨b,_⟩|⟨_,b⟩
   ·rw[u] at b;cases b
   simp_all
  ·rcases e.pair i q _ h d c j with⟨b,_⟩|⟨_,b⟩
   ·rw[t] at b;cases b
   ·exact b (.inr l)
 have v:un ord i q=true:=by grind [un,Nat.lt_or_gt_of_ne,Nat.max_eq_right,Nat.min_eq_left,Nat.max_eq_left,Nat.min_eq_right]
 have w:un ord q i=true:=by unfold un at *;grind
 exact⟨Ep.swap d c o.1 m n v l k,λx=>Ep.swap c d o.2 n m w (by grind [xQ]) k⟩
theorem FT.both(C:lH ops qb ord): ∀(f:Nat) (l:List Nat),l.length=f+1->(∀ i∈l,i<ops.size)-> ∀(i:Nat),i∈l->Rs ord l i=true->
  (∀ a b c,FT P A ops qb ord Q (f+1) l a b c->Ep P A ops qb ord i (FT P A ops qb ord Q f (l.erase i)) a b c)/\
  (Uf ops qb i=true-> ∀a b c,Ep P A ops qb ord i (FT P A ops qb ord Q f (l.erase i)) a b c->FT P A ops qb ord Q (f+1) l a b c):=by
 intro f
 induction f with
 |zero=>
  intro l y o i hi j;obtain⟨x,rfl⟩:=List.length_eq_one_iff.1 y;have:i=x:=by simpa using hi
  subst this;constructor
  ·intro a b c d;unfold FT at d;split at d
   ·rename_i q g;have:=(TF g).1;have:q=i:=by simpa using this
    subst this;exact d
   ·exact d i (by simp) j
  ·intro g a b c d;unfold FT;split
   ·rename_i q z;have:=(TF z).1;have:q=i:=by simpa using this
    subst this;exact d
   ·intro D E _;have:D=i:=by simpa using E
    subst this;exact d
 |succ f s=>
  intro l y o i hi j;obtain⟨x,e,rfl⟩: ∃x e,l=x::e:=by cases l with|nil=>cases y|cons x e=>exact⟨x,e,rfl⟩
  have t: ∀ {q},q∈x::e->((x::e).erase q).length=f+1:=λg=>by simp_all
  have u: ∀ {q},∀i∈(x::e).erase q,i<ops.size:=λi hi=>o i (A0d hi)
  have v: ∀ {p q},p∈x::e->p≠q->p∈(x::e).erase q:=λF G=>(List.mem_erase_of_ne G).2 F
  constructor
  ·intro a b c d;unfold FT at d;split at d
   ·rename_i q g;obtain⟨k,w,m⟩:=TF g;by_cases h:q=i
    ·subst h;exact d
    ·have B:=Ep.mono (λa b c=>(s ((x::e).erase q) (t k) u i (v hi (Ne.symm h)) (R6 j)).1 a b c) d;have n:=(C.swap (Ne.symm h) (o i hi) w (ZB j k) (ZB m hi) (FT.eV _ _)).1 B;rw[List.erase_comm] at n;exact Ep.mono (λa b c=>(s ((x::e).erase i) (t hi) u q (v k h) (R6 m)).2 w a b c) n
   ·exact d i hi j
  ·intro g a b c d;unfold FT;split
   ·rename_i q z;obtain⟨k,w,m⟩:=TF z;by_cases h:q=i
    ·subst h;exact d
    ·have B:=Ep.mono (λa b c=>(s ((x::e).erase i) (t hi) u q (v k h) (R6 m)).1 a b c) d;have n:=(C.swap (Ne.symm h) (o i hi) w (ZB j k) (ZB m hi) (FT.eV _ _)).2 g B;rw[List.erase_comm] at n;exact Ep.mono (λa b c=>(s ((x::e).erase q) (t k) u i (v hi (Ne.symm h)) (R6 j)).2 g a b c) n
   ·rename_i H;have:=ALW H hi g;rw[j] at this;cases this
theorem AKp {a i:Nat}{listed:Array Bool}(hi:i<a)(b:listed.size=a)(c:listed.getD i false=false):left a (listed.setIfInBounds i true)=(left a listed).erase i:=by grind [ALj,List.erase_append_right]
theorem FT.any {m:Nat}{H:Exit->Act->World->Prop}(R: ∀a e d,Q a e->H .normal a (A.at e d))(k:lH ops qb ord):
  ∀(fuel:Nat) (listed:Array Bool) (a:Act) (e:aa) (aH:List (Nat×(aa->Prop))),(left ops.size listed).length=fuel->listed.size=ops.size->
   gu ord listed->FT P A ops qb ord Q fuel (left ops.size listed) a e aH-> ∀d,wpAnyIn (Fw r) m P .any ops H fuel listed a (A.at e d):=by
 intro fuel
 induction fuel with
 |zero=>
  intro listed a e aH x y _ p d;have l:left ops.size listed= []:=CM x;refine⟨?_,?_⟩
  ·rcases I:Region.ready .any ops listed with _|⟨i,t⟩
   ·rfl
   ·exfalso;have hi:i∈Region.ready .any ops listed:=by simp_all
    obtain⟨J,al,n,_⟩:=mem_ready.1 hi;have g:i<ops.size:=(Array.getElem?_eq_some_iff.1 n).1;have:i∈left ops.size listed:=mem_left.2 ⟨g,by simp_all⟩;rw[l] at this;cases this
  ·rw[l] at p;unfold FT at p;exact R _ _ _ p
 |succ fuel z=>
  intro listed a e aH x y K p d;refine⟨λI=>?_,λi hi=>?_⟩
  ·exfalso;have S: ∀h i,i<h->i∈left ops.size listed->False:=by
    intro h
    induction h with
    |zero=>intro i hi;omega
    |succ h T=>
     intro i _ hi;obtain⟨g,J⟩:=mem_left.1 hi;have n:ops[i]? =some ops[i]:=Fl g;by_cases q: ∀f∈ops[i].after,Region.binds .any f=true->listed.getD f.on false=true
     ·have:i∈Region.ready .any ops listed:=mem_ready.2 ⟨by simp_all,_,n,q⟩;rw[I] at this;cases this
     ·simp only[Classical.not_forall] at q;obtain⟨f,l,j,B⟩:=q;have am:=k.back i _ n f l j;exact T f.on (by omega) (mem_left.2 ⟨by omega,by simpa using B⟩)
   have B:left ops.size listed≠ []:=by grind
   obtain⟨i,hi⟩:=List.exists_mem_of_ne_nil _ B;exact S (i+1) i (by omega) hi
  ·obtain⟨J,u,o,q⟩:=mem_ready.1 hi;have g:i<ops.size:=(Array.getElem?_eq_some_iff.1 o).1;have L:listed.getD i false=false:=by simp_all
   have U: ∀b,b<i->listed.getD b false=false->ord i b=false:=by
    intro b s w;have V:ops[b]? =some ops[b]:=Fl (by omega);rcases k.pair i b u _ o V s with⟨_,f,l,j,C⟩|⟨C,_⟩
    ·exfalso;have M:=q f l j;rcases C with rfl|⟨W,X⟩
     ·rw[M] at w;cases w
     ·have:=K f.on b M W X;rw[this] at w;cases w
    ·exact C
   have Y:i∈left ops.size listed:=mem_left.2 ⟨g,L⟩;have Z:Rs ord (left ops.size listed) i=true:=by
    unfold Rs;simp only[Fk,Cd];intro b s;obtain⟨ab,ac⟩:=mem_left.1 s;cases j:ord i b with
    |false=>rfl
    |true=>rw[U b (k.low i b g ab j) ac] at j;cases j
   have c:=(FT.both (Q:=Q) (P:=P) (A:=A) k fuel _ x (λb s=>(mem_left.1 s).1) i Y Z).1 a e aH p;have D:gu ord (listed.setIfInBounds i true):=by
    intro h b N ae n;by_cases af:b=i
    ·simp_all
    ·rw[getD_set_ne false (Ne.symm af)];by_cases ag:h=i
     ·grind
     ·rw[getD_set_ne false (Ne.symm ag)] at N;exact K h b N ae n
   have ah:=AKp g y L;have E:(left ops.size (listed.setIfInBounds i true)).length=fuel:=by simp_all
   have F:(listed.setIfInBounds i true).size=ops.size:=by simp[y]
   rw[<- ah] at c;unfold Ep at c;rw[o] at c;unfold wpOpIn;simp only[o];split
   ·rename_i G;simp only[G,if_true] at c;by_cases O:qb u=true
    ·rw[if_pos O] at c;obtain⟨v,ai,c⟩:=c;refine EV.wpIn (k.nd i u o) ?_;unfold EV;rw[ai d];exact z _ _ _ _ E F D c d
    ·rw[if_neg O] at c;refine EV.wpIn (k.nd i u o) ((c d).mono ?_);rintro v an ⟨ao,aj,rfl,_,ak⟩;exact z _ _ _ _ E F D ak aj
   ·rename_i G;simp only at c;rw[if_neg G] at c;exact⟨λ_ _=>trivial,z _ _ _ _ E F D c d⟩
theorem AA5 {id m:Nat}{d:Exit->Act->World->Prop}(f: ∀a b c,Q a b->d .normal a (A.at b c))(g:P.follows .mixedOrders=true)
  (h:nJ ops qb ord=true) {a:Act} {b:aa} {c:Nat} (i:FT P A ops qb ord Q ops.size (List.range ops.size) a b []):(Code.region id ops true).wpIn (Fw r) m P d a (A.at b c):=by
 refine wpIn_region_any g ?_;have e:=AQP ops.size;refine FT.any (Q:=Q) (ord:=ord) (qb:=qb) (aH:= []) f (AI4 h) _ _ _ b (by rw[e];simp) (by simp) ?_ (by rw[e];exact i) (c+1);intro j l k;exfalso;by_cases b:j<ops.size<;>simp[b] at k
end
inductive Cls where
 |pure|load|eT
def cls(P:Q1)(b:Oper):Cls:=
 match b.op with
 | .load _ _=> .load
 | .binOp d t x e _=>match Vb P d t x e with| .no=> .eT|_=> .pure
 | .convert s a _=>match P.underlying s with
  |some (.int _)=>(match P.underlying a with|some (.int _)=> .pure|_=> .eT)
  |some .string=>(match P.underlying a with|some .string=> .pure|_=> .eT)
  |_=> .eT
 | .call c=>match c.callee with
  | .builtin .min=>(match c.argTypes[0]? with
   |some t=>(match P.underlying t with|some (.float _)=> .eT|_=> .pure)
   |none=> .pure)
  | .builtin .max=>(match c.argTypes[0]? with
   |some t=>(match P.underlying t with|some (.float _)=> .eT|_=> .pure)
   |none=> .pure)
  | .builtin .cap=> .pure
  | .builtin .len=>(match c.argTypes[0]? with
   |some t=>(match P.underlying t with|some (.map _ _)=> .eT|_=> .pure)
   |none=> .eT)
  |_=> .eT
 | .move _| .assign _| .pick .. | .build .. | .nilCheck _| .unOp .. | .makeInterface .. | .makeFunc .. | .fieldAddr .. | .field .. | .indexAddr .. | .index .. | .slice .. | .extract .. => .pure
 |_=> .eT
def YN(A:ao)(P:Q1)(m:Sem Unit)(b:aa)(K:aa->Prop):Prop:= ∀c,∃a d,m.run P (A.at b c)= .ok () (A.at a d)/\K a
def Jm(a:Env)(l:Array Operand):Array J0:=(l.toList.map (ρof a)).toArray
def ATP(P:Q1)(f:Q8):Bool:=match P.funcs[f]? with|some fn=>(match fn.body with|none=>true|some _=>false)|none=>false
def mY(A:ao)(P:Q1)(f:Q8)(args:Array J0)(b:aa)(K:A30):Prop:= ∀c,∃v a d,(callFunc f args).run P (A.at b c)= .ok (.value v) (A.at a d)/\K v a
def qa(A:ao)(P:Q1)(d:Oper)(c:Call)(e:Env)(g:aa)(K:A30):Prop:=
 match c.callee with
 | .value (.func f)=>known e c.args.toList (match ATP P f with
  |true=>mY A P f (Jm e c.args) g λv a=>Pq P d.type v λv=>K v a
  |false=>Nr P (callFunc f (Jm e c.args)) λx=>match x with
   | .enter h i=>AA A P h i g λv a=>Pq P d.type v λv=>K v a
   |_=>False)
 | .value x=>rd e x λfv=>known e c.args.toList (Er A P fv (Jm e c.args) g λv a=>Pq P d.type v λv=>K v a)
 | .builtin b=>known e c.args.toList (match b with
  | .append=>Af A P (Builtin.append_ c.argTypes d.type (Jm e c.args)) g λv a=>Pq P d.type v λv=>K v a
  | .copy=>Af A P (Builtin.copy_ c.argTypes d.type (Jm e c.args)) g λv a=>Pq P d.type v λv=>K v a
  | .delete=>Af A P (Builtin.delete_ c.argTypes d.type (Jm e c.args)) g λv a=>Pq P d.type v λv=>K v a
  | .clear=>Af A P (Builtin.clear_ c.argTypes d.type (Jm e c.args)) g λv a=>Pq P d.type v λv=>K v a
  | .len=>Af A P (Builtin.len_ c.argTypes d.type (Jm e c.args)) g λv a=>Pq P d.type v λv=>K v a
  | .real=>Af A P (Builtin.real_ c.argTypes d.type (Jm e c.args)) g λv a=>Pq P d.type v λv=>K v a
  | .imag=>Af A P (Builtin.imag_ c.argTypes d.type (Jm e c.args)) g λv a=>Pq P d.type v λv=>K v a
  | .complex=>Af A P (Builtin.complex_ c.argTypes d.type (Jm e c.args)) g λv a=>Pq P d.type v λv=>K v a
  | .min=>Af A P (Builtin.min_ c.argTypes d.type (Jm e c.args)) g λv a=>Pq P d.type v λv=>K v a
  | .max=>Af A P (Builtin.max_ c.argTypes d.type (Jm e c.args)) g λv a=>Pq P d.type v λv=>K v a
  |_=>False)
 | .invoke x name=>rd e x λj=>known e c.args.toList (tw A P j name (Jm e c.args) g λv a=>Pq P d.type v λv=>K v a)
def V9(a:Q6):aa->Nat->List J0->(aa->Prop)->Prop
 |h,_,[],K=>K h
 |h,i,v::b,K=>YP (MH v) (ab h (a.add i) v λc=>V9 a c (i+1) b K)
def qc(P:Q1)(t:Q7)(c v:J0)(d:aa)(K:aa->Prop):Prop:=
 match c with
 | .pointer p=>At p λa=>match P.info? t with
  |some i=>kX P t v λb=>match Nat.beq b.size i.size with
   |true=>V9 a d 0 b.toList K
   |false=>False
  |none=>False
 |_=>False
def AV2(P:Q1)(t:Q7)(v:J0)(a:aa)(K:A30):Prop:=
 kX P t v λc=>aj a (.cells c t) λb d=>K (.pointer (some ⟨b,0,none⟩)) d
def rowOf(P:Q1)(b:Q7)(len:Nat)(c:List (Nat×Array J0)):Option (Array J0):=
 match P.info? b with
 |some a=>match a.zero with
  |some z=>match Nat.ble (len*a.size) (2^24) with
   |true=>ka (λi=>some (i*a.size,a.size)) ((Array.range (len*a.size)).map (z.cells[· % z.cells.size]!)) c
   |false=>none
  |none=>none
 |none=>none
def vg(P:Q1)(t:Q7)(len:Nat)(c:Array (Nat×Operand))(d:Env)(e:aa)(K:A30):Prop:=
 match P.underlying t with
 |some (.slice a)=>kY P t d c.toList λl=>match rowOf P a len l with
  |some cells=>aj e (.cells cells a) λb f=>K (.slice (some ⟨b,0,none⟩) len len) f
  |none=>False
 |_=>False
def Sk(ops:List Oper)(b:Option Tmp)(a:Nat):Option Q7:=
 match b with
 |none=>none
 |some t=>match ops with
  | []=>none
  |o::r=>match o.op with
   | .extract (.tmp t') c=>(match Nat.beq t' t with|true=>(match Nat.beq c a with|true=>some o.type|false=>Sk r (some t) a)|false=>Sk r (some t) a)
   |_=>Sk r (some t) a
def jz(P:Q1)(t:Option Q7)(v:J0)(K:J0->Prop):Prop:=
 match t with
 |none=>K v
 |some t=>Pq P t v K
theorem MV {P:Q1}{t:Option Q7}{v:J0}{K:J0->Prop}(a:jz P t v K):K v:=by
 cases t with
 |none=>exact a
 |some t=>exact MX a
def jA(A:ao)(P:Q1)(ops:Array Oper)(f:Oper)(d:Env)(g:aa)(K:A30):Prop:=
 match f.op with
 | .call c=>qa A P f c d g K
 | .makeSlice t l c=>rd d l λl=>rd d c λc=>Af A P (Instr.makeSlice t l c) g λv a=>Pq P f.type v λv=>K v a
 | .lookup t x i ok=>rd d x λx=>rd d i λi=>Af A P (Instr.lookup t x i ok) g λv a=>Pq P f.type v λv=>K v a
 | .mapUpdate t m e x=>rd d m λm=>rd d e λe=>rd d x λx=>YN A P (Instr.mapUpdate t m e x) g λa=>K undef a
 | .mapEntry t m e=>rd d m λm=>rd d e λe=>Af A P (Instr.mapEntry t m e) g λv a=> ∃e u:J0,v= .tuple #[e,u]/\jz P (Sk ops.toList f.dst 0) e λe=>jz P (Sk ops.toList f.dst 1) u λu=>K (.tuple #[e,u]) a
 | .entryStore t m s x=>rd d m λm=>rd d s λs=>rd d x λx=>YN A P (Instr.entryStore t m s x) g λa=>K undef a
 | .convert s k x=>rd d x λx=>Af A P (convert s k x) g λv a=>Pq P f.type v λv=>K v a
 | .binOp j t x h _=>rd d x λv=>rd d h λu=>Af A P (do eqGuard j t x h v u;binOp j t v u) g λv a=>Pq P f.type v λv=>K v a
 | .typeAssert x t u ok=>rd d x λx=>Af A P (Instr.typeAssert x t u ok) g λv a=>Pq P f.type v λv=>K v a
 | .store t x h=>rd d x λn=>rd d h λv=>qc P t n v g λa=>K undef a
 | .box t x=>rd d x λv=>AV2 P t v g K
 | .buildSlice t len o=>vg P t len o d g K
 | .range t x=>rd d x λx=>Af A P (Instr.range t x) g λv a=> ∃b:Nat,v= .pointer (some ⟨b,0,none⟩)/\K (.pointer (some ⟨b,0,none⟩)) a
 | .next x s=>rd d x λx=>Af A P (Instr.next x s f.type) g λv a=>(v= .tuple #[.bool false]/\K (.tuple #[.bool false]) a)\/(∃ e u:J0,v= .tuple #[.bool true,e,u]/\jz P (Sk ops.toList f.dst 1) e λe=>jz P (Sk ops.toList f.dst 2) u λu=>K (.tuple #[.bool true,e,u]) a)
 | .entry x=>rd d x λx=>Af A P (Instr.entry x) g λv a=> ∃e u:J0,v= .tuple #[e,u]/\jz P (Sk ops.toList f.dst 0) e λe=>jz P (Sk ops.toList f.dst 1) u λu=>K (.tuple #[e,u]) a
 | .alloc .. | .makeMap .. =>known d f.op.operands.toList (Sem.vc P (execOp (ρof d) f) g λx a=>match x with
  | .value v=>K v a
  | .skip=>K undef a
  |_=>False)
 |_=>False
theorem Vp {N:Nat}{a:Act}{b:Env}(d:Fits N a b){l:Array Operand}(c: ∀x∈l.toList,ρof b x=a.eval x):Jm b l=l.map a.eval:=by unfold Jm;rw[GS c];apply Array.toList_inj.1;rw[Array.toList_map]
section
variable {P : Q1} {A : ao}
theorem Hy {b:Oper}{e:Operand->J0}{s:Sem J0}{f:aa}{K:A30}(g:execOp e b=do pure (.value (<- s)))
  (h:Af A P s f λv a=>Pq P b.type v λv=>K v a): ∀c,EV P b e (A.at f c) λv i=> ∃a d,i=A.at a d/\K v a:=by
 intro c;obtain⟨v,a,d,j,hd⟩:=h c;unfold EV;rw[g,iL j];exact⟨a,d,rfl,MX hd⟩
theorem Yc {d:Oper}{e:Operand->J0}{s:Sem J0}{f:aa}{K g:A30}(h:execOp e d=do pure (.value (<- s)))
  (i:Af A P s f g) (j: ∀v a,g v a->K v a): ∀b,EV P d e (A.at f b) λv k=> ∃a c,k=A.at a c/\K v a:=by
 intro b;obtain⟨v,a,c,l,hd⟩:=i b;unfold EV;rw[h,iL l];exact⟨a,c,rfl,j _ _ hd⟩
theorem qd {d:Oper}{e:Operand->J0}{s:Sem Unit}{f:aa}{K:A30}(g:execOp e d=do s;pure .skip)
  (h:YN A P s f λa=>K undef a): ∀b,EV P d e (A.at f b) λv i=> ∃a c,i=A.at a c/\K v a:=by
 intro b;obtain⟨a,c,j,hd⟩:=h b;unfold EV;rw[g,AVh j];exact⟨a,c,rfl,hd⟩
theorem AKg {N:Nat}{a:Act}{u:Env}(k:Fits N a u){l:Oper}{c:Call}(h:l.op= .call c){n:aa}{K:A30}(d:qa A P l c u n K):
  ∀g,EV P l a.eval (A.at n g) λv q=> ∃i j,q=A.at i j/\K v i:=by
 have y: ∀ {fv:J0} {s:A30} {x:Operand},c.callee= .value x->a.eval x=fv->Er A P fv (c.args.map a.eval) n s->
   ∀g,EV P l a.eval (A.at n g) λv q=> ∃i j,q=A.at i j/\s v i:=by
  intro fv s x e t z g;have:=z g;unfold EV;have o:execOp a.eval l=(do let w <-Deferred.ofValue fv (c.args.map a.eval);invoke w.target w.args:Sem Next):=by simp only[execOp,h,resolve,e,t]
  rw[o];exact this
 unfold qa at d;split at d
 ·rename_i f e;obtain⟨p,d⟩:=I9 k d;rw[Vp k p] at d;split at d
  ·intro g;obtain⟨v,i,j,B,hd⟩:=d g;have o:(execOp a.eval l).run P (A.at n g)= .ok (.value v) (A.at i j):=by simp only[execOp,h,resolve,e,Act.eval,Deferred.ofValue];simp only[Sem.run_bind,Sem.run_pure,Result.andThen_ok,invoke];simpa using B
   unfold EV;rw[o];exact⟨i,j,rfl,MX hd⟩
  ·obtain⟨x,t,d⟩:=Mx d;split at d
   ·rename_i C D;intro g;have o:(execOp a.eval l).run P (A.at n g)= .ok (.enter C D) (A.at n g):=by simp only[execOp,h,resolve,e,Act.eval,Deferred.ofValue];simp only[Sem.run_bind,Sem.run_pure,Result.andThen_ok,invoke];have:=t (A.at n g);simpa using this
    unfold EV;rw[o];refine Calls.mono (d g) ?_;rintro F q ⟨v,rfl,i,j,rfl,hd⟩;exact⟨v,rfl,i,j,rfl,MX hd⟩
   ·exact d.elim
 ·rename_i x e;have d:=BR k d;obtain⟨p,d⟩:=I9 k d;rw[Vp k p] at d;intro g;refine EV.mono (y e rfl d g) ?_;rintro v q ⟨i,j,rfl,hd⟩;exact⟨i,j,rfl,MX hd⟩
 ·rename_i b e;obtain⟨p,d⟩:=I9 k d;rw[Vp k p] at d;split at d
  ·exact Hy (by simp only[execOp,h,resolve,e];rfl) d
  ·exact Hy (by simp only[execOp,h,resolve,e];rfl) d
  ·exact Hy (by simp only[execOp,h,resolve,e];rfl) d
  ·exact Hy (by simp only[execOp,h,resolve,e];rfl) d
  ·exact Hy (by simp only[execOp,h,resolve,e];rfl) d
  ·exact Hy (by simp only[execOp,h,resolve,e];rfl) d
  ·exact Hy (by simp only[execOp,h,resolve,e];rfl) d
  ·exact Hy (by simp only[execOp,h,resolve,e];rfl) d
  ·exact Hy (by simp only[execOp,h,resolve,e];rfl) d
  ·exact Hy (by simp only[execOp,h,resolve,e];rfl) d
  ·exact d.elim
 ·rename_i x name e;have d:=BR k d;obtain⟨p,d⟩:=I9 k d;rw[Vp k p] at d;intro g;have o:execOp a.eval l=(callMethod (a.eval x) name (c.args.map a.eval):Sem Next):=by
   simp only[execOp,h,resolve,e];have E:(#[a.eval x]++Array.map a.eval c.args)[0]? =some (a.eval x):=by rw[Kx (by simp)];rfl
   simp[invoke];rw[E];show callMethod (a.eval x) name ((Array.map a.eval c.args).extract 0 c.args.size)=_;rw[show c.args.size=(Array.map a.eval c.args).size by simp,Array.extract_size]
  unfold EV;rw[o];refine Next.dh ?_ (d g);rintro v q ⟨i,j,rfl,hd⟩;exact⟨i,j,rfl,MX hd⟩
theorem ZM {A:ao}{a:Q6}: ∀ {l:List J0} {b:aa} {i:Nat} {K:aa->Prop},V9 a b i l K-> ∀n,∃d,(storeCells a l i).run P (A.at b n)= .ok () (A.at d n)/\K d
 | [],b,i,K,c,n=>⟨b,rfl,c⟩
 |v::s,b,i,K,c,n=>by
  unfold V9 at c;cases e:MH v with
  |false=>rw[e] at c;exact c.elim
  |true=>
   rw[e] at c;obtain⟨⟨u,g⟩,h,j⟩:=c;obtain⟨d,k,o⟩:=ZM j n;refine⟨d,?_,o⟩;have p:=tx (A:=A) (P:=P) (m:= .plain) (f:=(.pure ():Sem Unit)) (n:=n) e g h;simp only[storeCells,Sem.run_bind];have q:(store (a.add i) v).run P (A.at b n)= .ok () (A.at (cS b (a.add i) v) n):=p;rw[q];exact k
theorem AJJ {A:ao}{t:Q7}{f v:J0}{g:aa}{K:aa->Prop}(b:qc P t f v g K):YN A P (Instr.storeAt t f v) g K:=by
 intro h;unfold qc at b;split at b
 ·rename_i p;obtain⟨a,rfl,c⟩:=At.mk b;split at c
  ·rename_i l hi;have d:=Ry c;split at d
   ·rename_i e;have e:=IN e;obtain⟨i,j,k⟩:=ZM (P:=P) (A:=A) d h;refine⟨i,h,?_,k⟩;simp[Instr.storeAt,Instr.sureAddr,storeVar,run_sizeOf hi,e,j]
   ·exact d.elim
  ·exact c.elim
 ·exact b.elim
theorem ATg {A:ao}{t:Q7}{v:J0}{a:aa}{b:Nat}:(Instr.box t v).run P (A.at a b)= .ok (.pointer (some ⟨a.size,0,none⟩)) (A.at (a.push (.cells v.cells t)) b):=rfl
theorem ASj {A:ao}{t c:Q7}(j:P.underlying t=some (.slice c)){len:Nat}{d:Array (Nat×J0)}{cells:Array J0}{h:aa}{n:Nat}
  (a:rowOf P c len (d.toList.map λp=>(p.1,p.2.cells))=some cells):
  (Instr.buildSlice t len d).run P (A.at h n)= .ok (.slice (some ⟨h.size,0,none⟩) len len) (A.at (h.push (.cells cells c)) n):=by
 unfold rowOf at a;split at a
 ·rename_i b f;split at a
  ·rename_i z k;split at a
   ·rename_i g;have g:=Wb g;rw[<- mK] at a;have l: ¬(len*b.size>2^24):=by omega
    unfold Instr.buildSlice;simp only[Sem.run_bind,BK j,Result.andThen_ok,run_sizeOf f,if_neg l];by_cases e:len*b.size=0
    ·have o:Instr.fill (λi=>some (i*b.size,b.size)) ((Array.range (len*b.size)).map ((#[]:Array J0)[· % (#[]:Array J0).size]!)) d.toList=some cells:=by rw[<- a];congr 1;simp[e]
     rw[if_pos e];simp only[Sem.run_bind,Sem.run_pure,Result.andThen_ok,o];rfl
    ·rw[if_neg e];have q:(zeroValue c).run P (A.at h n)= .ok z (A.at h n):=by simp[zeroValue,tQ f,k]
     simp only[Sem.run_bind,q,Sem.run_pure,Result.andThen_ok,a];rfl
   ·cases a
  ·cases a
 ·cases a
theorem vm {N:Nat}{a:Act}{q:Env}(f:Fits N a q){ops:Array Oper}{j:Oper}{h:aa}{K:A30}(e:jA A P ops j q h K):
  ∀n,EV P j a.eval (A.at h n) λv y=> ∃g o,y=A.at g o/\K v g:=by
 have z:JY j->known q j.op.operands.toList (Sem.vc P (execOp (ρof q) j) h λx g=>match x with
   | .value v=>K v g
   | .skip=>K undef g
   |_=>False)-> ∀n,EV P j a.eval (A.at h n) λv y=> ∃g o,y=A.at g o/\K v g:=by
  intro C e n;obtain⟨D,e⟩:=I9 f e;obtain⟨x,g,o,B,e⟩:=AQD (A:=A) e n;rw[execOp_congr j C (λx E=>D x (by simpa using E))] at B;unfold EV;rw[B];split at e
  ·exact⟨g,o,rfl,e⟩
  ·exact⟨g,o,rfl,e⟩
  ·exact e.elim
 unfold jA at e;split at e
 ·rename_i c d;exact AKg f d e
 ·rename_i t l c d;exact Hy (by simp only[execOp,d]) (BR f (BR f e))
 ·rename_i t x i ok d;exact Hy (by simp only[execOp,d]) (BR f (BR f e))
 ·rename_i t m w x d;exact qd (by simp only[execOp,d]) (BR f (BR f (BR f e)))
 ·rename_i t m w d;refine Yc (by simp only[execOp,d]) (BR f (BR f e)) ?_;rintro v g ⟨w,u,rfl,h⟩;exact MV (MV h)
 ·rename_i t m s x d;exact qd (by simp only[execOp,d]) (BR f (BR f (BR f e)))
 ·rename_i s I x d;exact Hy (by simp only[execOp,d]) (BR f e)
 ·rename_i J t x F _ d;exact Hy (by simp only[execOp,d]) (BR f (BR f e))
 ·rename_i x t u ok d;exact Hy (by simp only[execOp,d]) (BR f e)
 ·rename_i t x F d;exact qd (by simp only[execOp,d]) (AJJ (BR f (BR f e)))
 ·rename_i t x d;intro n;have p:=Ry (BR f e);unfold EV;simp only[execOp,d];rw[iL ATg];exact⟨_,_,rfl,p⟩
 ·rename_i t len L d;intro n;unfold vg at e;split at e
  ·rename_i M G;have p:=Sz f e;split at p
   ·rename_i cells k;unfold EV;simp only[execOp,d];rw[iL (ASj (A:=A) (n:=n) (h:=h) G (cells:=cells) (by rw[<- k];congr 1;simp))];exact⟨_,_,rfl,p⟩
   ·exact p.elim
  ·exact e.elim
 ·rename_i t x d;refine Yc (by simp only[execOp,d]) (BR f e) ?_;rintro v g ⟨b,rfl,h⟩;exact h
 ·rename_i x s d;refine Yc (by simp only[execOp,d]) (BR f e) ?_;rintro v g (⟨rfl,h⟩|⟨w,u,rfl,h⟩)
  ·exact h
  ·exact MV (MV h)
 ·rename_i x d;refine Yc (by simp only[execOp,d]) (BR f e) ?_;rintro v g ⟨w,u,rfl,h⟩;exact MV (MV h)
 ·rename_i d;exact z (λH b k=>by rw[d] at k;cases k) e
 ·rename_i d;exact z (λH b k=>by rw[d] at k;cases k) e
 ·exact e.elim
end
def qe:List Prop->Prop->Prop
 | [],K=>K
 |p::l,K=>p/\qe l K
theorem vo: ∀ {l:List Prop} {K:Prop},qe l K->(∀ p∈l,p)/\K
 | [],_,a=>⟨λ_ b=>(by cases b),a⟩
 |p::l,_,⟨b,a⟩=>by
  obtain⟨d,e⟩:=vo a;refine⟨λq c=>?_,e⟩;rcases List.mem_cons.1 c with rfl|c
  ·exact b
  ·exact d q c
def ASa(ord:Nat->Nat->Bool)(i:Nat)(a:aa)(b:List (Nat×(aa->Prop))):List Prop:=(b.filter λp=>un ord i p.1).map λp=>p.2 a
def mZ(ops:Array Oper)(e:Oper)(a:Env)(c d:Env->Prop):Prop:=
 match e.guard with
 |none=>c a
 |some (f,h)=>match ops[f]? with
  |some i=>match i.dst with
   |some b=>match a.get b with
    |some (.bool g)=>match h with
     |true=>ae g (c (a.set b (.bool true))) (d (a.set b (.bool false)))
     |false=>ae g (d (a.set b (.bool true))) (c (a.set b (.bool false)))
    |some _=>d a
    |none=>False
   |none=>False
  |none=>False
def VE(A:ao)(P:Q1)(N:Nat)(ops:Array Oper):List Oper->Env->aa->(Env->aa->Prop)->Prop
 | [],a,b,c=>c a b
 |o::rest,a,b,c=>
  match mG N o.dst with
  |false=>False
  |true=>mZ ops o a
   (λa=>match cls P o with
    | .pure=>mL P o a λv=>VE A P N ops rest (a.put o.dst v) b c
    | .load=>mX P o a b λv _=>VE A P N ops rest (a.put o.dst v) b c
    | .eT=>jA A P ops o a b λv d=>VE A P N ops rest (a.put o.dst v) d c)
   (λa=>VE A P N ops rest (a.put o.dst undef) b c)
theorem vq {ops:Array Oper}{k:Oper}{N:Nat}{a:Act}{e:Env}(f:Fits N a e){q s:Env->Prop}(b:mZ ops k e q s):
  (Region.wanted k (yielded ops a.tmps)=true/\ ∃h,Fits N a h/\q h)\/(Region.wanted k (yielded ops a.tmps)=false/\ ∃h,Fits N a h/\s h):=by
 unfold mZ at b;split at b
 ·rename_i c;exact .inl ⟨by simp[Region.wanted,c],e,f,b⟩
 ·rename_i t x c;split at b
  ·rename_i y u;split at b
   ·rename_i l hd;split at b
    ·rename_i g n;have i:=f.get l _ n;have d:yielded ops a.tmps t=some g:=by simp[yielded,u,hd,i]
     have j:Fits N a (e.set l (.bool g)):=f.oN i;split at b
     ·obtain⟨o,p⟩:=ae.mk b;cases g with
      |true=>exact .inl ⟨by simp[Region.wanted,c,d],_,j,o rfl⟩
      |false=>exact .inr ⟨by simp[Region.wanted,c,d],_,j,p rfl⟩
     ·obtain⟨o,p⟩:=ae.mk b;cases g with
      |true=>exact .inr ⟨by simp[Region.wanted,c,d],_,j,o rfl⟩
      |false=>exact .inl ⟨by simp[Region.wanted,c,d],_,j,p rfl⟩
    ·rename_i v w n;have i:=f.get l _ n;refine .inr ⟨?_,e,f,b⟩;have d:yielded ops a.tmps t=none:=by simp only[yielded,u,hd,i,R0];cases v<;>first|rfl|exact absurd rfl (w _)
     simp[Region.wanted,c,d]
    ·exact b.elim
   ·exact b.elim
  ·exact b.elim
structure Qn (W:List Nat) (a a':Act):Prop where
 get: ∀t,t∉W->a'.tmps[t]? =a.tmps[t]?
 ds:a'.defers=a.defers
theorem Qn.refl(W:List Nat)(a:Act):Qn W a a:=⟨λ_ _=>rfl,rfl⟩
theorem Qn.put {W:List Nat}{a d:Act}(c:Qn W a d){b:Option Tmp}{v:J0}(hd: ∀t,b=some t->t∈W):Qn W a (d.put b v):=by
 cases b with
 |none=>exact c
 |some b=>
  refine⟨λt e=>?_,c.ds⟩;have:b≠t:=λf=>e (f▸hd b rfl)
  simp only[Act.put];rw[Ds this];exact c.get t e
def dstsOf(l:List Oper):List Nat:=l.filterMap (·.dst)
theorem vt {l:List Oper}{a:Oper}(c:a∈l){b:Nat}(hd:a.dst=some b):b∈dstsOf l:=List.mem_filterMap.2 ⟨a,c,hd⟩
section
variable {P : Q1} {A : ao} {r : Option Nat} {m N : Nat} {ops : Array Oper} {ord : Nat -> Nat -> Bool}
theorem Xe {a:Oper}(c:cls P a≠ .eT):JY a:=λe b d=>c (by simp[cls,d])
theorem ZV {b:Oper}(c:cls P b≠ .eT):Jy b=true:=by
 unfold Jy;split
 ·rename_i a;exact absurd (by simp[cls,a]) c
 ·rename_i a;exact absurd (by simp[cls,a]) c
 ·rfl
theorem AHz {ops:Array Oper}{b:Oper}{d:Env}{e:aa}{K:A30}(c:jA A P ops b d e K):Jy b=true:=by
 unfold Jy;split
 ·rename_i a;simp[jA,a] at c
 ·rename_i a;simp[jA,a] at c
 ·rfl
theorem vu {n:Env->aa->Prop}{p:Exit->Act->World->Prop}: ∀(l:List Oper) (i:Env) (e:aa) (a:Act) (f:Nat),VE A P N ops l i e n->Fits N a i->
  (∀ q c g h,Fits N q c->Qn (dstsOf l) a q->n c g->p .normal q (A.at g h))->wpListIn (Fw r) m P ops p l a (A.at e f)
 | [],i,e,a,f,b,s,u=>u a i e f s (Qn.refl _ _) b
 |o::rest,i,e,a,f,b,s,u=>by
  unfold VE at b;split at b
  ·exact b.elim
  ·rename_i hd;have next: ∀(v:J0) (c:Env) (g:aa) (h:Nat),Fits N a c->VE A P N ops rest (c.put o.dst v) g n->wpListIn (Fw r) m P ops p rest (a.put o.dst v) (A.at g h):=by
    intro v c g h d w;refine vu rest _ g _ h w (d.put hd) ?_;intro C D E F G B H;refine u C D E F G ⟨λt j=>?_,B.ds.trans ?_⟩ H
    ·have I:t∉dstsOf rest:=λK=>j (by simp only[dstsOf,Wc];split<;>simp_all [dstsOf])
     rw[B.get t I];exact(Qn.put (W:=dstsOf (o::rest)) (Qn.refl _ a) (λt j=>vt B8 j)).get t j
    ·cases o.dst<;>rfl
   unfold wpListIn;rcases vq s b with⟨y,c,d,b⟩|⟨y,c,d,b⟩
   ·rw[if_pos y];split at b
    ·rename_i k;have w:JY o:=Xe (P:=P) (by rw[k];intro x;cases x);obtain⟨v,z,b⟩:=uY d w b;refine EV.wpIn (ZV (P:=P) (by rw[k];intro x;cases x)) ?_;unfold EV;rw[z];exact next v c e f d b
    ·rename_i k;obtain⟨v,st,z,J,b⟩:=c6 (A:=A) d b;refine EV.wpIn (ZV (P:=P) (by rw[k];intro x;cases x)) ?_;unfold EV;rw[z e J f];exact next v c e f d b
    ·refine EV.wpIn (AHz b) ((vm d b f).mono ?_);rintro v L ⟨g,h,rfl,b⟩;exact next v c g h d b
   ·rw[if_neg (by rw[y];simp)];exact⟨λ_ _=>trivial,next undef c e f d b⟩
def gA(P:Q1)(a:Oper):Bool:=match cls P a with| .eT=>false|_=>true
abbrev Ke:=Env->aa->List (Nat×(aa->Prop))->Prop
def na(A:ao)(P:Q1)(N:Nat)(ops:Array Oper)(ord:Nat->Nat->Bool)(i:Nat)(K:Ke):Ke:=λa c d=>
 match ops[i]? with
 |none=>False
 |some b=>match mG N b.dst with
  |false=>False
  |true=>mZ ops b a
   (λa=>match cls P b with
    | .pure=>mL P b a λv=>K (a.put b.dst v) c d
    | .load=>mX P b a c λv st=>K (a.put b.dst v) c ((i,st)::d)
    | .eT=>jA A P ops b a c λv e=>qe (ASa ord i e d) (K (a.put b.dst v) e d))
   (λa=>K (a.put b.dst undef) c d)
def qf(a:Nat->Prop):List Nat->Prop
 | []=>True
 | [i]=>a i
 |i::l=>a i/\qf a l
theorem vv {b:Nat->Prop}: ∀ {l:List Nat},qf b l-> ∀i∈l,b i
 | [],_,_,a=>by cases a
 | [j],a,i,hi=>by
  have:i=j:=by simpa using hi
  subst this;exact a
 |j::x::l,a,i,hi=>by
  rcases List.mem_cons.1 hi with rfl|hi
  ·exact a.1
  ·exact vv a.2 i hi
def jB(A:ao)(P:Q1)(N:Nat)(ops:Array Oper)(ord:Nat->Nat->Bool)(c:Env->aa->Prop):Nat->List Nat->Ke
 |_,[]=>λa b _=>c a b
 |0,_::_=>λ_ _ _=>False
 |f+1,x::l=>λa b d=>
  match kB ops (gA P) ord (x::l) with
  |some i=>na A P N ops ord i (jB A P N ops ord c f ((x::l).erase i)) a b d
  |none=>qf (λi=>na A P N ops ord i (jB A P N ops ord c f ((x::l).erase i)) a b d) ((x::l).filter (Rs ord (x::l)))
def qg(c d:List (Nat×(aa->Prop))):Prop:= ∀b∈d,(∀ a,b.2 a)\/ ∃p∈c,p.1=b.1/\ ∀a,p.2 a->b.2 a
theorem vx {y:Act}{i:Nat}{K:Ke}{F:Kt}
  (u: ∀j e a k l,K j e k->Fits N a j->Qn (dstsOf ops.toList) y a->qg k l->F a e l)
  {j:Env} {e:aa} {a:Act} {k:List (Nat×(aa->Prop))} {l:List (Nat×(aa->Prop))}
  (b:na A P N ops ord i K j e k) (H:Fits N a j) (I:Qn (dstsOf ops.toList) y a) (n:qg k l):Ep P A ops (gA P) ord i F a e l:=by
 unfold na at b;unfold Ep;split at b
 ·exact b.elim
 ·rename_i g G;have J:g∈ops.toList:=by rw[Array.mem_toList_iff];exact Wf G
  try rw[G]
  try simp only
  split at b
  ·exact b.elim
  ·rename_i hd;have w: ∀v,Qn (dstsOf ops.toList) y (a.put g.dst v):=λv=>I.put (λt L=>vt J L)
   rcases vq H b with⟨z,M,d,b⟩|⟨z,M,d,b⟩
   ·rw[if_pos z];split at b
    ·rename_i h;have o:gA P g=true:=by simp[gA,h]
     rw[if_pos o];have O:JY g:=Xe (P:=P) (by rw[h];intro x;cases x);obtain⟨v,q,b⟩:=uY d O b;refine⟨v,λB=>q _,?_⟩;refine u _ _ _ _ _ b (d.put hd) (w v) ?_;intro s c;rcases List.mem_cons.1 c with rfl|c
     ·exact .inl λe B=>q _
     ·exact n s c
    ·rename_i h;have o:gA P g=true:=by simp[gA,h]
     rw[if_pos o];obtain⟨v,st,q,Q,b⟩:=c6 (A:=A) d b;refine⟨v,q e Q,?_⟩;refine u _ _ _ _ _ b (d.put hd) (w v) ?_;intro s c;rcases List.mem_cons.1 c with rfl|c
     ·exact .inr ⟨(i,st),B8,rfl,q⟩
     ·rcases n s c with f|⟨p,C,f,D⟩
      ·exact .inl f
      ·exact .inr ⟨p,AI _ C,f,D⟩
    ·rename_i h;have o: ¬gA P g=true:=by simp[gA,h]
     rw[if_neg o];intro B;refine(vm d b B).mono ?_;rintro v U ⟨E,R,rfl,b⟩;obtain⟨S,b⟩:=vo b;refine⟨E,R,rfl,?_,?_⟩
     ·intro s c T;rcases n s c with f|⟨p,C,f,D⟩
      ·exact f E
      ·exact D E (S _ (List.mem_map.2 ⟨p,List.mem_filter.2 ⟨C,by rw[f];exact T⟩,rfl⟩))
     ·exact u _ _ _ _ _ b (d.put hd) (w v) n
   ·rw[if_neg (by rw[z];simp)];exact u _ _ _ _ _ b (d.put hd) (w undef) n
theorem qh {p:Env->aa->Prop}{a0:Act}{Q:Act->aa->Prop}(n: ∀o q s,Fits N o q->Qn (dstsOf ops.toList) a0 o->p q s->Q o s):
  ∀(f:Nat) (l:List Nat) (c:Env) (d:aa) (a:Act) (e:List (Nat×(aa->Prop))) (g:List (Nat×(aa->Prop))),
   jB A P N ops ord p f l c d e->Fits N a c->Qn (dstsOf ops.toList) a0 a->qg e g->FT P A ops (gA P) ord Q f l a d g
 |_,[],c,d,a,e,g,b,h,j,_=>by
  unfold jB at b;unfold FT;exact n a c d h j b
 |0,_::_,c,d,a,e,g,b,_,_,_=>by
  unfold jB at b;exact b.elim
 |f+1,x::l,c,d,a,e,g,b,h,j,k=>by
  unfold jB at b;unfold FT;split
  ·rename_i i hi;rw[hi] at b;exact vx (λc d a e g b h j k=>qh n f _ c d a e g b h j k) b h j k
  ·rename_i hi;rw[hi] at b;intro i t u;exact vx (λc d a e g b h j k=>qh n f _ c d a e g b h j k) (vv b i (List.mem_filter.2 ⟨t,u⟩)) h j k
def la(A:ao)(P:Q1)(N:Nat)(ops:Array Oper)(d:Bool)(a:Env)(b:aa)(c:Env->aa->Prop):Prop:=
 match d with
 |false=>VE A P N ops ops.toList a b c
 |true=>match nJ ops (gA P) (p7 ops) with
  |true=>jB A P N ops (p7 ops) c ops.size (List.range ops.size) a b []
  |false=>False
theorem AHM {id:Nat}{g:Bool}{h:Env}{i:aa}{f:Env->aa->Prop}{a:Act}{q:Nat}{Q:Exit->Act->World->Prop}(s:P.follows .mixedOrders=true)
  (e:la A P N ops g h i f) (o:Fits N a h) (p: ∀b c d j,Fits N b c->Qn (dstsOf ops.toList) a b->f c d->Q .normal b (A.at d j)):
  (Code.region id ops g).wpIn (Fw r) m P Q a (A.at i q):=by
 unfold la at e;cases g with
 |false=>exact wpIn_region_list (vu _ _ _ _ _ e o p)
 |true=>
  simp only[] at e;split at e
  ·rename_i t;refine AA5 (qb:=gA P) (ord:=p7 ops) (Q:=λb d=> ∃c,Fits N b c/\Qn (dstsOf ops.toList) a b/\f c d) ?_ s t ?_
   ·rintro b d j ⟨c,k,l,n⟩;exact p b c d j k l n
   ·exact qh (Q:=λb d=> ∃c,Fits N b c/\Qn (dstsOf ops.toList) a b/\f c d) (a0:=a) (λb c d k l n=>⟨c,k,l,n⟩) _ _ h i a [] []
     e o (Qn.refl _ _) (λ_ u=>by cases u)
  ·exact e.elim
end
inductive Lv where
 |one (s:Sc)
 |agg (l:List Sc)
def lq:List Sc->Type
 | []=>Unit
 |s::l=>s.Ty×lq l
def dE:(l:List Sc)->lq l->List J0
 | [],_=> []
 |s::l,x=>s.val x.1::dE l x.2
def Lv.Ty:Lv->Type
 | .one s=>s.Ty
 | .agg l=>lq l
def Lv.val:(v:Lv)->v.Ty->J0
 | .one s,x=>s.val x
 | .agg l,x=> .agg (dE l x).toArray
def Sc.un(v:J0):(s:Sc)->(s.Ty->Prop)->Prop
 | .int a,K=>match v with| .int d e=>(match decide (d=a) with|true=>K e|false=>False)|_=>False
 | .bool,K=>match v with| .bool b=>K b|_=>False
 | .str,K=>match v with| .string s=>K s|_=>False
 | .ptr,K=>match v with| .pointer p=>K p|_=>False
 | .sl,K=>match v with| .slice p l c=>K ⟨p,l,c⟩|_=>False
 | .map,K=>match v with| .map f=>K f|_=>False
 | .any,K=>K v
 | .j7 a,K=>match v with| .float d e=>(match decide (d=a) with|true=>K e|false=>False)|_=>False
 | .hF a,K=>match v with| .complex d e m=>(match decide (d=a) with|true=>K (e,m)|false=>False)|_=>False
theorem Sc.di {v:J0}: ∀ {s:Sc} {K:s.Ty->Prop},s.un v K-> ∃x,v=s.val x/\K x
 | .int c,K,a=>by
  cases v<;>simp only[Sc.un] at a
  rename_i d b;split at a
  ·rename_i hd;have hd:=of_decide_eq_true hd;subst hd;exact⟨b,rfl,a⟩
  ·exact a.elim
 | .bool,K,a=>by cases v<;>simp only[Sc.un] at a;exact⟨_,rfl,a⟩
 | .str,K,a=>by cases v<;>simp only[Sc.un] at a;exact⟨_,rfl,a⟩
 | .ptr,K,a=>by cases v<;>simp only[Sc.un] at a;exact⟨_,rfl,a⟩
 | .sl,K,a=>by cases v<;>simp only[Sc.un] at a;exact⟨_,rfl,a⟩
 | .map,K,a=>by cases v<;>simp only[Sc.un] at a;exact⟨_,rfl,a⟩
 | .any,K,a=>⟨v,rfl,a⟩
 | .j7 c,K,a=>by
  cases v<;>simp only[Sc.un] at a
  rename_i d b;split at a
  ·rename_i hd;have hd:=of_decide_eq_true hd;subst hd;exact⟨b,rfl,a⟩
  ·exact a.elim
 | .hF c,K,a=>by
  cases v<;>simp only[Sc.un] at a
  rename_i d b m;split at a
  ·rename_i hd;have hd:=of_decide_eq_true hd;subst hd;exact⟨(b,m),rfl,a⟩
  ·exact a.elim
def qv:(l:List Sc)->List J0->(lq l->Prop)->Prop
 | [],[],K=>K ()
 |s::l,v::a,K=>s.un v λx=>qv l a λb=>K (x,b)
 | [],_::_,_=>False
 |_::_,[],_=>False
theorem wE: ∀ {l:List Sc} {c:List J0} {K:lq l->Prop},qv l c K-> ∃b,c=dE l b/\K b
 | [],[],_,a=>⟨(),rfl,a⟩
 |s::l,v::c,K,a=>by
  obtain⟨x,d,e⟩:=Sc.di a;obtain⟨b,f,g⟩:=wE e;exact⟨(x,b),by rw[d,f];rfl,g⟩
 | [],_::_,_,a=>a.elim
 |_::_,[],_,a=>a.elim
def Lv.un(v:J0):(a:Lv)->(a.Ty->Prop)->Prop
 | .one s,K=>s.un v K
 | .agg l,K=>match v with| .agg b=>qv l b.toList K|_=>False
theorem Lv.di {v:J0}: ∀ {b:Lv} {K:b.Ty->Prop},b.un v K-> ∃x,v=b.val x/\K x
 | .one s,K,a=>Sc.di a
 | .agg l,K,a=>by
  cases v<;>simp only[Lv.un] at a
  rename_i e;obtain⟨c,d,a⟩:=wE a;refine⟨c,?_,a⟩;simp only[Lv.val];rw[<- d]
abbrev Live:=List (Nat×Lv)
def gC:Live->Type
 | []=>Unit
 |x::a=>x.2.Ty×gC a
def NW:(b:Live)->Env->(gC b->Prop)->Prop
 | [],_,K=>K ()
 |x::c,a,K=>match a.get x.1 with|some v=>x.2.un v λd=>NW c a λe=>K (d,e)|none=>False
def Ll:(b:Live)->gC b->Nat->Option J0
 | [],_,_=>none
 |x::c,a,t=>bif Nat.beq t x.1 then some (x.2.val a.1) else Ll c a.2 t
def iQ(t:Nat):List Nat->Bool
 | []=>false
 |x::a=>bif Nat.beq t x then true else iQ t a
def GQ(a:Live)(c:List Nat)(b:Env)(d:gC a):Env:=
 {get:=λt=>match Ll a d t with|some v=>some v|none=>bif iQ t c then b.get t else none,ds:=b.ds}
def Nf(b a:List Nat):Bool:=match b with| []=>true|x::c=>bif iQ x a then false else Nf c a
theorem Zr {t:Nat}: ∀ {l:List Nat},iQ t l=true↔t∈l
 | []=>by simp[iQ]
 |x::b=>by
  unfold iQ;by_cases a:t=x
  ·subst a;simp
  ·rw[Uj a];simp only[cond_false,GB,a,false_or];exact Zr
theorem VU {c:List Nat}: ∀ {e:List Nat},Nf e c=true-> ∀t∈e,t∉c
 | [],_,_,f=>by cases f
 |x::h,a,t,d=>by
  unfold Nf at a;cases b:iQ x c with
  |true=>rw[b] at a;cases a
  |false=>
   rw[b] at a;rcases List.mem_cons.1 d with rfl|d
   ·intro g;rw[Zr.2 g] at b;cases b
   ·exact VU a t d
theorem JL {e:Env}: ∀ {d:Live} {K:gC d->Prop},NW d e K-> ∃c,(∀ t v,Ll d c t=some v->e.get t=some v)/\K c
 | [],K,b=>⟨(),λ_ _ a=>(by cases a),b⟩
 |(f,h)::i,K,b=>by
  unfold NW at b;split at b
  ·rename_i v j;obtain⟨x,k,l⟩:=Lv.di b;obtain⟨c,m,n⟩:=JL l;refine⟨(x,c),λt v a=>?_,n⟩;change (bif Nat.beq t f then some (h.val x) else Ll i c t)=some v at a;by_cases g:t=f
   ·subst g;have o:Nat.beq t t=true:=by simp
    rw[o] at a;rw[<- a,cond_true,<-k];exact j
   ·rw[Uj g] at a;exact m t v a
  ·exact b.elim
theorem wF {b:Live}{c:List Nat}{g:Env}{d:gC b}{t:Nat}{v:J0}(a:(GQ b c g d).get t=some v):
  Ll b d t=some v\/(Ll b d t=none/\t∈c/\g.get t=some v):=by
 unfold GQ at a;simp only at a;split at a
 ·rename_i u e;rw[e];exact .inl a
 ·rename_i e;cases f:iQ t c with
  |false=>rw[f] at a;cases a
  |true=>rw[f] at a;exact .inr ⟨e,Zr.1 f,a⟩
theorem AH7 {a:Live}{d e:gC a}{t:Nat}(b:Ll a d t=none):Ll a e t=none:=by
 induction a with
 |nil=>rfl
 |cons x g f=>
  unfold Ll at b ⊢;by_cases c:t=x.1
  ·subst c;simp at b
  ·rw[Uj c] at b ⊢;exact f b
structure FY (W:List Nat) (nd:Bool) (a a':Act):Prop where
 get: ∀t,t∉W->a'.tmps[t]? =a.tmps[t]?
 ds:nd=true->a'.defers=a.defers
theorem FY.refl {W:List Nat}{b:Bool}{a:Act}:FY W b a a:=⟨λ_ _=>rfl,λ_=>rfl⟩
theorem FY.trans {e f V:List Nat}{g h i:Bool}{a b c:Act}(j:FY e g a b)(k:FY f h b c)(n: ∀t∈e,t∈V)(o: ∀t∈f,t∈V)(l:i=true->g=true/\h=true):FY V i a c:=
 ⟨λt m=>(k.get t λd=>m (o t d)).trans (j.get t λd=>m (n t d)),λd=>(k.ds (l d).2).trans (j.ds (l d).1)⟩
theorem FY.ak {d V:List Nat}{e f:Bool}{a b:Act}(g:FY d e a b)(h: ∀t∈d,t∈V)(i:f=true->e=true):FY V f a b:=
 ⟨λt j=>g.get t λc=>j (h t c),λc=>g.ds (i c)⟩
theorem Fits.join {b:Nat}{a c:Act}{f g:Env}(h:Fits b a f)(i:Fits b c g){j:List Nat}{k:Bool}(o:k=true)(l:FY j k a c){d:Live}{m:List Nat}(p:Nf m j=true){n:gC d}
  (q: ∀t v,Ll d n t=some v->g.get t=some v):Fits b c (GQ d m f n):=by
 refine⟨i.size,λt v r=>?_,(l.ds o).trans h.ds⟩;rcases wF r with e|⟨_,s,e⟩
 ·exact i.get t v (q t v e)
 ·rw[l.get t (VU p t s)];exact h.get t v e
theorem Fits.again {c:Nat}{a d:Act}{g h:Env}{b:Live}{e:List Nat}{p i:gC b}(j:Fits c a (GQ b e g p))(k:Fits c d h){l:List Nat}{m:Bool}(q:m=true)(n:FY l m a d)
  (r:Nf e l=true) (s: ∀t v,Ll b i t=some v->h.get t=some v):Fits c d (GQ b e g i):=by
 refine⟨k.size,λt v u=>?_,(n.ds q).trans j.ds⟩;rcases wF u with f|⟨w,o,f⟩
 ·exact k.get t v (s t v f)
 ·rw[n.get t (VU r t o)];refine j.get t v ?_;unfold GQ;simp only;rw[AH7 w,Zr.2 o];exact f
inductive bJ where
 |none
 |aV (L:Live) (kept:List Nat)
 |seq (x y:bJ)
 |bd (L:Live) (kept:List Nat) (x y:bJ)
 |cond (x y:bJ)
 |block (x:bJ)
 |aN (L:Live) (kept:List Nat) (x:bJ)
 |loop (L:Live) (kept:List Nat) (x:bJ)
 |range (ps:List Lv) (x y:bJ)
 |scope (L:Live) (kept:List Nat) (x y z:bJ)
def writes:Code->List Nat
 | .region _ c _=>dstsOf c.toList
 | .seq a b=>writes a++writes b
 | .cond _ a b=>writes a++writes b
 | .block _ a=>writes a
 | .loop a=>writes a
 | .scope a=>writes a
 |_=> []
def GH:Code->Bool
 | .rangeFunc .. =>false
 | .seq a b=>GH a&&GH b
 | .cond _ a b=>GH a&&GH b
 | .block _ a=>GH a
 | .loop a=>GH a
 | .scope a=>GH a
 |_=>true
inductive iq where
 |ag (i:Nat)
 |eA (l:Nat)
def kp:Option Nat->Code
 |none=> .ret
 |some id=> .exit id
def ir:List Lv->Type
 | []=>Unit
 |lv::l=>lv.Ty×ir l
def kq:(l:List Lv)->ir l->List J0
 | [],_=> []
 |lv::l,x=>lv.val x.1::kq l x.2
theorem ZK: ∀(l:List Lv) (x:ir l),(kq l x).length=l.length
 | [],_=>rfl
 |_::l,x=>by simp[kq,ZK l x.2]
def jD:Env->List Tmp->List J0->Env
 |e,p::ps,v::a=>jD (e.set p v) ps a
 |e,_,_=>e
def YB(k:ao)(P:Q1)(fv:J0)(e:List Lv)(body:ir e->Nat->aa->(aa->Prop)->(Option Nat->aa->Prop)->Prop)(a:aa)(n:aa->Prop)(o:Option Nat->aa->Prop):Prop:=
 ∀(rec:Go.Loop),rec.state= .ready->rec.pending=none->rec.params.size=e.length->
  (∀ (x:ir e) (h:aa) (i:A30),h[a.size+1]? =some (.loop rec)->
   body x (a.size+1) h
    (λc=> ∃d,c[a.size+1]? =some (.loop d)/\i (.bool true) (c.setIfInBounds (a.size+1) (.loop {d with state:= .ready,pending:=none})))
    (λg c=> ∃d,c[a.size+1]? =some (.loop d)/\i (.bool false) (c.setIfInBounds (a.size+1) (.loop {d with state:= .done,pending:=some (kp g)})))->
   Er k P (.func (.yield (a.size+1)) #[] #[]) (kq e x).toArray h i)->
  ∃f l,Nr P (do let m <-Deferred.ofValue fv #[.func (.yield (a.size+1)) #[] #[]];invoke m.target m.args:Sem Next) (λx=>x= .enter f l)/\
   AA k P f l ((a.push (.deferred (some []))).push (.loop rec)) λ_ j=>
    ∃b,j[a.size+1]? =some (.loop b)/\b.state≠ .busy/\
     ((b.pending=none/\n (j.setIfInBounds (a.size+1) (.loop {b with state:= .exhausted})))\/
     ∃g,b.pending=some (kp g)/\o g (j.setIfInBounds (a.size+1) (.loop {b with state:= .exhausted})))
def Fj(n:ao)(P:Q1)(o:Nat)(t:Bool):Code->bJ->Env->aa->(Env->aa->Prop)->(iq->Env->aa->Prop)->(Env->aa->Prop)->Prop
 | .skip,_,d,e,k,_,_=>k d e
 | .exit id,_,d,e,_,kb,_=>kb (.ag id) d e
 | .ret,_,d,e,_,_,m=>m d e
 | .label _,_,d,e,k,_,_=>k d e
 | .goto l,_,d,e,_,kb,_=>kb (.eA l) d e
 | .region _ B z,u,d,e,k,_,_=>match u with
  | .aV r s=>match Nf s (dstsOf B.toList) with
   |true=>ah (λj e=>k (GQ r s d j) e) λK=>la n P o B z d e λh g=>NW r h λj=>K j g
   |false=>False
  |_=>la n P o B z d e k
 | .seq a b,u,d,e,k,kb,m=>match u with
  | .seq x y=>Fj n P o t a x d e (λd e=>Fj n P o t b y d e k kb m) kb m
  | .bd r s x y=>match Nf s (writes a)&&GH a with
   |true=>ah (λj e=>Fj n P o t b y (GQ r s d j) e k kb m) λK=>Fj n P o t a x d e (λh g=>NW r h λj=>K j g) kb m
   |false=>False
  |_=>False
 | .cond c p q,u,d,e,k,kb,m=>match u with
  | .cond x y=>rd d c λv=>match v with| .bool b=>ae b (Fj n P o t p x d e k kb m) (Fj n P o t q y d e k kb m)|_=>False
  |_=>False
 | .block id c,u,d,e,k,kb,m=>match u with
  | .block x=>Fj n P o t c x d e k (λw h g=>match w with| .ag i=>(match Nat.beq i id with|true=>k h g|false=>kb (.ag i) h g)| .eA l=>kb (.eA l) h g) m
  | .aN r s x=>match Nf s (writes c)&&GH c with
   |true=>ah (λj e=>k (GQ r s d j) e) λK=>
     Fj n P o t c x d e (λh g=>NW r h λj=>K j g) (λw h g=>match w with| .ag i=>(match Nat.beq i id with|true=>NW r h λj=>K j g|false=>kb (.ag i) h g)| .eA l=>kb (.eA l) h g) m
   |false=>False
  |_=>False
 | .loop c,u,d,e,_,kb,m=>match u with
  | .loop r s x=>match Nf s (writes c)&&GH c with
   |true=>NW r d λj=>Loop (λK j e=>Fj n P o t c x (GQ r s d j) e (λh g=>NW r h λj=>K j g) kb m) j e
   |false=>False
  |_=>False
 | .rangeFunc f ps F c,u,d,e,k,kb,m=>match u with
  | .range C x y=>match (!t)&&Nat.beq C.length ps.size&&ps.toList.all λp=>Nat.blt p o with
   |true=>rd d f λfv=>YB n P fv C
     (λargs l G H E=>Fj n P o true F x (jD {get:=d.get,ds:= []} ps.toList (kq C args)) G
      (λh g=> ∃D,g[l]? =some (.loop D)/\D.state= .ready/\
       Fj n P o true c y h (g.setIfInBounds l (.loop {D with state:= .busy})) (λ_ A=>H A) (λw _ A=>match w with| .ag i=>E (some i) A| .eA _=>False) (λ_ A=>E none A))
      (λ_ _ _=>False) (λ_ _=>False))
     e
     (λg=>k {get:=d.get,ds:=e.size::d.ds} g)
     (λw g=>match w with|none=>m {get:=d.get,ds:=e.size::d.ds} g|some i=>kb (.ag i) {get:=d.get,ds:=e.size::d.ds} g)
   |false=>False
  |_=>False
 | .scope (.seq b (.seq c (.seq (.label l) z))),u,d,e,k,kb,m=>match u with
  | .scope r s I x y=>match ((findLabel b l).isNone&&(findLabel c l).isNone)&&(Nf s (writes c++writes z)&&(GH b&&(GH c&&GH z))) with
   |true=>Fj n P o t b I d e (λd e=>Fj n P o t c x d e
     (λh g=>NW r h λj=>Loop (λK j e=>Fj n P o t z y (GQ r s d j) e k
      (λw h g=>match w with| .ag i=>kb (.ag i) h g| .eA J=>match Nat.beq J l with|true=>NW r h λj=>K j g|false=>False) m) j g)
     (λw h g=>match w with| .ag i=>kb (.ag i) h g| .eA _=>False) m) (λw h g=>match w with| .ag i=>kb (.ag i) h g| .eA _=>False) m
   |false=>False
  |_=>False
 |_,_,_,_,_,_,_=>False
def dc(d:ao)(e:Nat)(f:List Nat)(g:Bool)(h:Act)(i:Env->aa->Prop)(kb:iq->Env->aa->Prop)(j:Env->aa->Prop):Exit->Act->World->Prop:=
 λx a k=> ∃b c m,k=d.at c m/\Fits e a b/\FY f g h a/\(match x with
  | .normal=>i b c
  | .exit id=>kb (.ag id) b c
  | .goto l=>kb (.eA l) b c
  | .ret=>j b c
  |_=>False)
theorem dc.mono {e:ao}{f:Nat}{g V:List Nat}{h j:Bool}{k:Act}{l m:Env->aa->Prop}{kb n:iq->Env->aa->Prop}{o p:Env->aa->Prop}
  (s: ∀t∈g,t∈V) (u:j=true->h=true) (v: ∀b c,l b c->m b c) (q: ∀i b c,kb i b c->n i b c) (w: ∀b c,o b c->p b c) {x:Exit} {a:Act} {r:World}
  (y:dc e f g h k l kb o x a r):dc e f V j k m n p x a r:=by
 obtain⟨b,c,z,A,B,C,d⟩:=y;refine⟨b,c,z,A,B,C.ak s u,?_⟩;cases x<;>simp only at d ⊢
 ·exact v _ _ d
 ·exact q _ _ _ d
 ·exact q _ _ _ d
 ·exact w _ _ d
section
variable {F : Fence} {n : Nat} {P : Q1} {c : Code} {Q : Exit -> Act -> World -> Prop} {a : Act} {w : World}
def lr(F:Fence)(n:Nat)(P:Q1)(c:Code)(Q:Exit->Act->World->Prop)(a:Act)(w:World):Prop:=
 ∀(b:Frame) (e:List Item) (d:List Frame),b.roundOf=F.round->F.fn b.fn->F.room (d.length+1+n)->
  ∃f g h,Q f g h/\ArrivesIn (Machine.fenced P F) P (lone (b.atR a (.inLoop c::e)) d w) b e d f g h
theorem wG(r:c.wpIn F n P (Exit.then (lr F n P c Q) Q) a w)(b:Frame)(i:List Item)(f:List Frame)(k:b.roundOf=F.round)(m:F.fn b.fn)(o:F.room (f.length+1+n)):
  ∃j p q,Q j p q/\ArrivesIn (Machine.fenced P F) P (lone (b.atR a (.code c:: .inLoop c::i)) f w) b i f j p q:=by
 obtain⟨j,g,h,d,e⟩:=r b (.inLoop c::i) f k m o;cases j with
 |normal=>
  obtain⟨s,t,u,v,y⟩:=d b i f k m o;exact⟨s,t,u,v,.of_steps e y⟩
 |exit id=>exact⟨_,g,h,d,.pass (x:= .inLoop c) rfl (λ_ _=> .inl (by simp)) e⟩
 |goto l=>exact⟨_,g,h,d,.pass (x:= .inLoop c) rfl (λ_ _=> .inl (by simp)) e⟩
 |ret=>exact⟨_,g,h,d,.pass (x:= .inLoop c) rfl (λ_ _=> .inl (by simp)) e⟩
 |panic z=>exact⟨_,g,h,d,.pass (x:= .inLoop c) rfl (λ_ _=> .inl (by simp)) e⟩
 |outgrown=>exact⟨_,g,h,d,.pass (x:= .inLoop c) rfl (λ_ _=> .inl (by simp)) e⟩
theorem AI8(f:c.wpIn F n P (Exit.then (lr F n P c Q) Q) a w):lr F n P c Q a w:=λb g h i d e=>
 let ⟨j,k,l,m,o⟩:=wG f b g h i d e
 ⟨j,k,l,m,.of_steps (.one (fenced_calm d e rfl) stepR_inLoop) o⟩
theorem AHN(f:c.wpIn F n P (Exit.then (lr F n P c Q) Q) a w):(Code.loop c).wpIn F n P Q a w:=λb g h i d e=>
 let ⟨j,k,l,m,o⟩:=wG f b g h i d e
 ⟨j,k,l,m,.of_steps (.one (fenced_calm d e rfl) stepR_loop) o⟩
end
def Yn(F:Fence)(n:Nat)(P:Q1)(c rest:Code)(Q:Exit->Act->World->Prop)(a:Act)(w:World):Prop:=
 ∀(b:Frame) (e:List Item) (d:List Frame),b.roundOf=F.round->F.fn b.fn->F.room (d.length+1+n)->
  ∃f g h,Q f g h/\ArrivesIn (Machine.fenced P F) P (lone (b.atR a (.code rest:: .inScope c::e)) d w) b e d f g h
def nv(l:Nat)(b:Act->World->Prop)(Q:Exit->Act->World->Prop):Exit->Act->World->Prop
 | .goto d,a,w=>d=l/\b a w
 |e,a,w=>Q e a w
section
variable {F : Fence} {n : Nat} {P : Q1} {Q : Exit -> Act -> World -> Prop} {a : Act} {w : World}
theorem AFQ {P:Q1}{b:Frame}{a:Act}{d:List Item}{e:List Frame}{w:World}{c:Code}:step P (lone (b.atR a (.inScope c::d)) e w)= .next (lone (b.atR a d) e w):=
 step_lone_go (by simp[stepG,stepG.exec,Frame.atR])
theorem AI1 {P:Q1}{b:Frame}{a:Act}{d:List Item}{e:List Frame}{w:World}{c:Code}:step P (lone (b.atR a (.code (.scope c)::d)) e w)= .next (lone (b.atR a (.code c:: .inScope c::d)) e w):=
 step_lone_go (by simp[stepG,stepG.exec,Frame.atR])
theorem wH {c rest x:Code}{l:Nat}(q:findLabel c l=some rest)(r:x.wpIn F n P (nv l (Yn F n P c rest Q) Q) a w):Yn F n P c x Q a w:=by
 intro b e m o i j;have s:gotoIn l (.inScope c::e)=some (.code rest:: .inScope c::e):=by simp[gotoIn,q]
 obtain⟨t,g,h,f,d⟩:=r b (.inScope c::e) m o i j;cases t with
 |normal=>exact⟨.normal,g,h,f,StepsIn.trans d (.one (fenced_calm i j rfl) AFQ)⟩
 |exit id=>
  have p:exitTo id (.inScope c::e)=exitTo id e:=by simp[exitTo]
  exact⟨.exit id,g,h,f,λu k=>d.1 u (by rw[p];exact k),λv k=>d.2 v (by rw[p];exact k)⟩
 |goto E=>
  obtain⟨rfl,y⟩:=f;obtain⟨z,A,B,C,D⟩:=y b e m o i j;exact⟨z,A,B,C,.of_steps (d.1 _ s) D⟩
 |ret=>exact⟨_,g,h,f,d⟩
 |panic G=>exact⟨_,g,h,f,d⟩
 |outgrown=>exact⟨_,g,h,f,d⟩
theorem AFa {c rest:Code}{l:Nat}(f:findLabel c l=some rest)(g:c.wpIn F n P (nv l (Yn F n P c rest Q) Q) a w):(Code.scope c).wpIn F n P Q a w:=λb h i j d e=>
 let ⟨k,m,o,p,q⟩:=wH f g b h i j d e
 ⟨k,m,o,p,.of_steps (.one (fenced_calm d e rfl) AI1) q⟩
end
theorem Qn.g {b:List Nat}{nd:Bool}{a d:Act}(e:Qn b a d):FY b nd a d:=⟨e.get,λ_=>e.ds⟩
theorem ATZ(d:ao)(b:aa)(n:Nat):(d.at b n).heap=b:=rfl
theorem run_getLoop {P:Q1}{d:ao}{b:aa}{n l:Nat}{rec:Go.Loop}(e:b[l]? =some (.loop rec)):(Instr.getLoop l).run P (d.at b n)= .ok rec (d.at b n):=by simp[Instr.getLoop,Sem.run_bind,getObj,Sem.run,ATZ,e]
theorem X7 {P:Q1}{d:ao}{b:aa}{n l:Nat}{rec:Go.Loop}{e:Obj}(f:b[l]? =some (.loop rec)):(setObj l e).run P (d.at b n)= .ok () (d.at (b.setIfInBounds l e) n):=by simp[setObj,Sem.run,f,ao.at]
theorem run_beginRound {P:Q1}{d:ao}{b:aa}{n l:Nat}{rec:Go.Loop}(e:b[l]? =some (.loop rec))(f:rec.state= .ready):
  (Instr.beginRound l).run P (d.at b n)= .ok () (d.at (b.setIfInBounds l (.loop {rec with state:= .busy})) n):=by
 simp[Instr.beginRound,Sem.run_bind,run_getLoop e,X7 e,f]
theorem run_endRound {P:Q1}{e:ao}{d:aa}{n l:Nat}{rec:Go.Loop}{b:Option Code}(f:d[l]? =some (.loop rec)):
  (Instr.endRound l b).run P (e.at d n)= .ok (.bool b.isNone) (e.at (d.setIfInBounds l (.loop {rec with state:=if b.isNone then .ready else .done,pending:=b})) n):=by
 simp[Instr.endRound,Sem.run_bind,run_getLoop f,X7 f]
theorem run_endLoop {P:Q1}{d:ao}{b:aa}{n l:Nat}{rec:Go.Loop}(e:b[l]? =some (.loop rec))(f:rec.state≠ .busy):
  (Instr.endLoop l).run P (d.at b n)= .ok rec.pending (d.at (b.setIfInBounds l (.loop {rec with state:= .exhausted})) n):=by
 simp_all [Instr.endLoop,Sem.run_bind,run_getLoop,X7,absurd]
theorem AF9 {P:Q1}{d:ao}{b:aa}{n:Nat}{fn:Q8}{tmps:Array J0}{ps:Array Tmp}{e body:Code}:
  (Instr.enterLoop fn tmps ps e body none).run P (d.at b n)=
   .ok (b.size+1,[jW b.size]) (d.at ((b.push (.deferred (some []))).push (.loop {state:= .ready,pending:=none,fn,tmps,params:=ps,assign:=e,body,defers:=b.size})) n):=by
 simp[Instr.enterLoop,Sem.run_bind,newObj,Sem.run,ao.at,jW];rfl
theorem wI {f:Nat}: ∀(ps:List Tmp) (d:List J0) (e:Env) (tmps:Array J0),(∀ p∈ps,p<f)->Fits f {tmps:=tmps,defers:= []} e->
  Fits f {tmps:=(ps.zip d).foldl (λtmps (t,a)=>tmps.setIfInBounds t a) tmps,defers:= []} (jD e ps d)
 | [],_,_,_,_,b=>by simpa [jD] using b
 |_::_,[],_,_,_,b=>by simpa [jD] using b
 |p::ps,v::d,e,tmps,g,b=>by
  have h:=b.set (v:=v) (g p B8);exact wI ps d (e.set p v) (tmps.setIfInBounds p v) (λq i=>g q (AI _ i)) h
def ZE(P:Q1)(b:ao)(d:Nat)(c:Code):Prop:= ∀(m:Nat) (e:Bool) (f:Option Nat) (k:bJ) (g:Env) (h:aa) (i:Env->aa->Prop) (kb:iq->Env->aa->Prop) (j:Env->aa->Prop) (a:Act) (n:Nat),
  (e=false->f=none)->Fj b P d e c k g h i kb j->Fits d a g->c.wpIn (Fw f) m P (dc b d (writes c) (GH c) a i kb j) a (b.at h n)
theorem AKi {P:Q1}{h:ao}{j:Nat}{c b body:Code}{l:Nat}(am:ZE P h j c)(an:ZE P h j b){m:Nat}{r:Bool}{k:Option Nat}{s:Live}{B:List Nat}{U V:bJ}{u:Env}{d:aa}{W:Env->aa->Prop}{kb:iq->Env->aa->Prop}{v:Env->aa->Prop}{X a:Act}{n:Nat}{Y:List Nat}{Z:Bool}{Q:Exit->Act->World->Prop}{C:Act->World->Prop}
  (ab:r=false->k=none) (ap:findLabel body l=some (.seq .skip b)) (ac:Nf B (writes c++writes b)=true) (aq:GH c=true) (ar:GH b=true)
  (au:Fj h P j r c U u d
     (λo p=>NW s o λe=>Loop (λK e d=>Fj h P j r b V (GQ s B u e) d W
      (λD o p=>match D with| .ag i=>kb (.ag i) o p| .eA E=>match Nat.beq E l with|true=>NW s o λe=>K e p|false=>False) v) e p)
     (λD o p=>match D with| .ag i=>kb (.ag i) o p| .eA _=>False) v)
  (ae:Fits j a u) (af: ∀f,FY (writes c++writes b) true a f->FY Y Z X f) (x:dc h j Y Z X W kb v=Q) (av:C=Yn (Fw k) m P body (.seq .skip b) Q):(Code.seq c (.seq (.label l) b)).wpIn (Fw k) m P (nv l C Q) a (h.at d n):=by
 have aw: ∀t∈writes c,t∈writes c++writes b:=λt G=>List.mem_append.2 (.inl G)
 have ax: ∀t∈writes b,t∈writes c++writes b:=λt G=>List.mem_append.2 (.inr G)
 let ay:gC s->aa->Prop:=λe H=> ∀f I,Fits j f (GQ s B u e)->FY (writes c++writes b) true a f->b.wpIn (Fw k) m P (nv l C Q) f (h.at H I)
 refine wpIn_seq (wpIn_mono (am m r k U u d _ _ v a n ab au ae) ?_);rintro J L aM ⟨ag,ah,M,rfl,N,az,q⟩;have O:FY (writes c++writes b) true a L:=az.ak aw (λ_=>aq);have ai:=af L O;cases J with
 |normal=>
  obtain⟨e,aA,aC⟩:=JL q;refine wpIn_seq (wpIn_label ?_);have aD:=aC ay ?_
  ·exact aD L M (ae.join N rfl O ac aA) O
  ·intro e H aE f I aj aF;refine wpIn_mono (an m r k V _ H _ _ v f I ab aE aj) ?_;rintro J y aN ⟨R,S,z,rfl,A,aG,g⟩;have ak:FY (writes c++writes b) true f y:=aG.ak ax (λ_=>ar);have al:FY (writes c++writes b) true a y:=aF.trans ak (λ_ d=>d) (λ_ d=>d) (λ_=>⟨rfl,rfl⟩);have T:=af y al;cases J with
   |normal=>rw[<- x];exact⟨R,S,z,rfl,A,T,g⟩
   |exit i=>rw[<- x];exact⟨R,S,z,rfl,A,T,g⟩
   |goto E=>
    simp only at g;split at g
    ·rename_i aH;have aI:=IN aH;subst aI;obtain⟨aO,aJ,aK⟩:=JL g;refine⟨rfl,?_⟩;have hd:=aK y z (aj.again A rfl ak ac aJ) al;rw[av] at hd ⊢;exact wH ap (wpIn_seq (wpIn_skip hd))
    ·exact g.elim
   |ret=>rw[<- x];exact⟨R,S,z,rfl,A,T,g⟩
   |panic aL=>exact g.elim
   |outgrown=>exact g.elim
 |exit i=>rw[<- x];exact⟨ag,ah,M,rfl,N,ai,q⟩
 |goto E=>exact q.elim
 |ret=>rw[<- x];exact⟨ag,ah,M,rfl,N,ai,q⟩
 |panic aL=>exact q.elim
 |outgrown=>exact q.elim
theorem AKc {P:Q1}{e:ao}{f:Nat}{b c d:Code}{l:Nat}(S:ZE P e f b)(T:ZE P e f c)(U:ZE P e f d){m:Nat}{q:Bool}{u:Option Nat}{v:Live}{B:List Nat}{C V W:bJ}{k:Env}{g:aa}{x:Env->aa->Prop}{kb:iq->Env->aa->Prop}{o:Env->aa->Prop}{a:Act}{n:Nat}
  (D:q=false->u=none) (X:(findLabel b l).isNone=true) (Y:(findLabel c l).isNone=true) (Z:Nf B (writes c++writes d)=true) (ab:GH b=true) (ac:GH c=true) (ae:GH d=true)
  (af:Fj e P f q b C k g (λk g=>Fj e P f q c V k g
     (λh j=>NW v h λr=>Loop (λK r g=>Fj e P f q d W (GQ v B k r) g x
      (λs h j=>match s with| .ag i=>kb (.ag i) h j| .eA E=>match Nat.beq E l with|true=>NW v h λr=>K r j|false=>False) o) r j)
     (λs h j=>match s with| .ag i=>kb (.ag i) h j| .eA _=>False) o) (λs h j=>match s with| .ag i=>kb (.ag i) h j| .eA _=>False) o)
  (ag:Fits f a k):(Code.scope (.seq b (.seq c (.seq (.label l) d)))).wpIn (Fw u) m P (dc e f (writes (.scope (.seq b (.seq c (.seq (.label l) d))))) (GH (.scope (.seq b (.seq c (.seq (.label l) d))))) a x kb o) a (e.at g n):=by
 have ah:findLabel b l=none:=by simpa using X
 have ai:findLabel c l=none:=by simpa using Y
 have G:findLabel (.seq b (.seq c (.seq (.label l) d))) l=some (.seq .skip d):=by simp[findLabel,ah,ai]
 have aj:GH (.scope (.seq b (.seq c (.seq (.label l) d))))=true:=by grind [GH]
 have H: ∀t∈writes b,t∈writes (.scope (.seq b (.seq c (.seq (.label l) d)))):=λt ak=>by simp_all [writes,MA]
 have I: ∀t∈writes c++writes d,t∈writes (.scope (.seq b (.seq c (.seq (.label l) d)))):=λt ak=>by
  simp_all [MA,writes]
 generalize aq:writes (.scope (.seq b (.seq c (.seq (.label l) d))))=J at H I ⊢;rw[aj];generalize y:dc e f J true a x kb o=Q;obtain⟨L,M⟩: ∃L:Act->World->Prop,L=Yn (Fw u) m P (.seq b (.seq c (.seq (.label l) d))) (.seq .skip d) Q:=⟨_,rfl⟩;refine AFa G ?_;rw[<- M];refine wpIn_seq (wpIn_mono (S m q u C k g _ _ o a n D af ag) ?_);rintro al am ar ⟨N,O,R,rfl,z,an,p⟩;have A:FY J true a am:=an.ak H λ_=>ab
 cases al with
 |normal=>exact AKi T U D G Z ac ae p z (λau ap=>A.trans ap (λ_ g=>g) I λ_=>⟨rfl,rfl⟩) y M
 |exit i=>rw[<- y];exact⟨N,O,R,rfl,z,A,p⟩
 |goto E=>exact p.elim
 |ret=>rw[<- y];exact⟨N,O,R,rfl,z,A,p⟩
 |panic av=>exact p.elim
 |outgrown=>exact p.elim
theorem AJ6 {P:Q1}{A:ao}{s:Nat}(a8:P.follows .mixedOrders=true): ∀(aE:Nat) (c:Code),SizeOf.sizeOf c<aE-> ∀(m:Nat) (D:Bool) (B:Option Nat) (H:bJ) (k:Env) (d:aa) (q:Env->aa->Prop) (kb:iq->Env->aa->Prop) (r:Env->aa->Prop) (a:Act) (n:Nat),
  (D=false->B=none)->Fj A P s D c H k d q kb r->Fits s a k->c.wpIn (Fw B) m P (dc A s (writes c) (GH c) a q kb r) a (A.at d n):=by
 intro aE
 induction aE with
 |zero=>intro c Y;omega
 |succ aE S=>
  intro c Y;cases c with
  |skip=>intro m D B H k d q kb r a n _ e o;exact wpIn_skip ⟨k,d,n,rfl,o,FY.refl,e⟩
  |exit id=>intro m D B H k d q kb r a n _ e o;exact wpIn_exit ⟨k,d,n,rfl,o,FY.refl,e⟩
  |ret=>intro m D B H k d q kb r a n _ e o;exact wpIn_ret ⟨k,d,n,rfl,o,FY.refl,e⟩
  |label l=>intro m D B H k d q kb r a n _ e o;exact wpIn_label ⟨k,d,n,rfl,o,FY.refl,e⟩
  |goto l=>intro m D B H k d q kb r a n _ e o;exact wpIn_goto ⟨k,d,n,rfl,o,FY.refl,e⟩
  |refuse R=>intro m D B H k d q kb r a n _ e o;simp only[Fj] at e
  |region id ai U=>
   intro m D B H k d q kb r a n _ e o;have plain: ∀V,(∀ av aj ac aw,Fits s av aj->Qn (dstsOf ai.toList) a av->V aj ac->dc A s (writes (.region id ai U)) (GH (.region id ai U)) a q kb r .normal av (A.at ac aw))->
     la A P s ai U k d V->(Code.region id ai U).wpIn (Fw B) m P (dc A s (writes (.region id ai U)) (GH (.region id ai U)) a q kb r) a (A.at d n):=
    λV a9 ba=>AHM a8 ba o a9
   cases H with
   |aV af ak=>
    simp only[Fj] at e;split at e
    ·rename_i I;have e:=e _ (λ_ _ d=>d);refine plain _ ?_ e;intro av aj ac aw aM ap J;obtain⟨ag,u,N⟩:=JL J;exact⟨_,ac,aw,rfl,o.join aM rfl (ap.g (nd:=true)) I u,ap.g,N⟩
    ·exact e.elim
   |_=>exact plain q (λav aj ac aw aM ap J=>⟨aj,ac,aw,rfl,aM,ap.g,J⟩) e
  |seq x R=>
   have ax:=S x (by simp at Y;omega);have aO:=S R (by simp at Y;omega);intro m D B H k d q kb r a n X e o;have tail: ∀(V:Env->aa->Prop) (aP aQ:bJ),Fj A P s D x aP k d V kb r->
     (∀ h g j,Fits s h g->FY (writes x) (GH x) a h->V g j-> ∃E,Fits s h E/\Fj A P s D R aQ E j q kb r)->
     (Code.seq x R).wpIn (Fw B) m P (dc A s (writes (.seq x R)) (GH (.seq x R)) a q kb r) a (A.at d n):=by
    intro V aP aQ J al;refine wpIn_seq (wpIn_mono (ax m D B aP k d V kb r a n X J o) ?_);intro am h aF G;have aq: ∀t∈writes x,t∈writes (.seq x R):=λt aR=>by grind [writes]
    have bb: ∀t∈writes R,t∈writes (.seq x R):=λt aR=>by grind [writes]
    have ar:GH (.seq x R)=true->GH x=true/\GH R=true:=λd=>by simpa [GH] using d
    cases am with
    |normal=>
     obtain⟨g,j,T,rfl,y,C,u⟩:=G;obtain⟨E,Z,aS⟩:=al h g j y C u;refine wpIn_mono (aO m D B aQ E j q kb r h T X aS Z) ?_;rintro a0 aG a1 ⟨bc,aT,be,rfl,bf,bg,bh⟩;exact⟨bc,aT,be,rfl,bf,C.trans bg aq bb ar,bh⟩
    |exit id=>obtain⟨g,j,T,rfl,y,C,u⟩:=G;exact⟨g,j,T,rfl,y,C.ak aq (λd=>(ar d).1),u⟩
    |ret=>obtain⟨g,j,T,rfl,y,C,u⟩:=G;exact⟨g,j,T,rfl,y,C.ak aq (λd=>(ar d).1),u⟩
    |goto l=>obtain⟨g,j,T,rfl,y,C,u⟩:=G;exact⟨g,j,T,rfl,y,C.ak aq (λd=>(ar d).1),u⟩
    |panic a2=>obtain⟨_,_,_,_,_,_,u⟩:=G;exact u.elim
    |outgrown=>obtain⟨_,_,_,_,_,_,u⟩:=G;exact u.elim
   cases H with
   |seq L ah=>
    simp only[Fj] at e;exact tail _ L ah e (λh g j y _ J=>⟨g,y,J⟩)
   |bd af ak L ah=>
    simp only[Fj] at e;split at e
    ·rename_i I;simp only[A3] at I;have e:=e _ (λ_ _ d=>d);refine tail _ L ah e ?_;intro h g j y C J;obtain⟨ag,u,N⟩:=JL J;exact⟨_,o.join y I.2 C I.1 u,N⟩
    ·exact e.elim
   |_=>simp only[Fj] at e
  |cond v x R=>
   have ax:=S x (by simp at Y;omega);have aO:=S R (by simp at Y;omega);intro m D B H k d q kb r a n X e o;cases H with
   |cond L ah=>
    simp only[Fj] at e;have e:=BR o e;cases aH:a.eval v<;>rw[aH] at e<;>simp only[] at e
    rename_i b;obtain⟨j,M⟩:=ae.mk e;refine wpIn_cond aH ?_;cases b with
    |true=>exact wpIn_mono (ax m D B L k d q kb r a n X (j rfl) o) (λ_ _ _ G=>G.mono (λt aR=>by grind [writes]) (λd=>by grind [GH]) (λ_ _ d=>d) (λ_ _ _ d=>d) (λ_ _ d=>d))
    |false=>exact wpIn_mono (aO m D B ah k d q kb r a n X (M rfl) o) (λ_ _ _ G=>G.mono (λt aR=>by grind [writes]) (λd=>by grind [GH]) (λ_ _ d=>d) (λ_ _ _ d=>d) (λ_ _ d=>d))
   |_=>simp only[Fj] at e
  |block id x=>
   have S:=S x (by simp at Y;omega);intro m D B H k d q kb r a n X e o;have tail: ∀(V:Env->aa->Prop) (ay:iq->Env->aa->Prop) (L:bJ),Fj A P s D x L k d V ay r->
     (∀ h g j,Fits s h g->FY (writes x) (GH x) a h->V g j-> ∃E,Fits s h E/\q E j)->
     (∀ i h g j,Fits s h g->FY (writes x) (GH x) a h->ay (.ag i) g j->(i=id/\ ∃E,Fits s h E/\q E j)\/(i≠id/\kb (.ag i) g j))->(∀ l g j,ay (.eA l) g j->kb (.eA l) g j)->
     (Code.block id x).wpIn (Fw B) m P (dc A s (writes (.block id x)) (GH (.block id x)) a q kb r) a (A.at d n):=by
    intro V ay L J j M aT;refine wpIn_block (wpIn_mono (S m D B L k d V ay r a n X J o) ?_);intro am h aF G;obtain⟨g,O,T,rfl,y,C,u⟩:=G;cases am with
    |normal=>obtain⟨E,Z,al⟩:=j h g O y C u;exact⟨E,O,T,rfl,Z,C,al⟩
    |exit i=>
     simp only[Exit.inBlock];rcases M i h g O y C u with⟨hi,E,Z,al⟩|⟨hi,al⟩
     ·rw[if_pos hi];exact⟨E,O,T,rfl,Z,C,al⟩
     ·rw[if_neg hi];exact⟨g,O,T,rfl,y,C,al⟩
    |ret=>exact⟨g,O,T,rfl,y,C,u⟩
    |goto l=>exact⟨g,O,T,rfl,y,C,aT l _ _ u⟩
    |panic a2=>exact u.elim
    |outgrown=>exact u.elim
   cases H with
   |block L=>
    simp only[Fj] at e;refine tail _ _ L e (λh g j y _ J=>⟨g,y,J⟩) ?_ (λ_ _ _ d=>d);intro i h g j y _ J;by_cases hi:i=id
    ·subst hi;simp only[Nat.beq_refl] at J
     grind
    grind [Uj]
   |aN af ak L=>
    simp only[Fj] at e;split at e
    ·rename_i I;simp only[A3] at I;have e:=e _ (λ_ _ d=>d);have fin: ∀h g j,Fits s h g->FY (writes x) (GH x) a h->NW af g (λag=>q (GQ af ak k ag) j)-> ∃E,Fits s h E/\q E j:=by intro h g j y C J;obtain⟨ag,u,N⟩:=JL J;exact⟨_,o.join y I.2 C I.1 u,N⟩
     refine tail _ _ L e fin ?_ (λ_ _ _ d=>d);intro i h g j y C J;by_cases hi:i=id
     ·subst hi;simp only[Nat.beq_refl] at J;exact .inl ⟨rfl,fin h g j y C J⟩
     grind [Uj]
    ·exact e.elim
   |_=>simp only[Fj] at e
  |loop x=>
   have S:=S x (by simp at Y;omega);intro m D B H k d q kb r a n X e o;cases H with
   |loop af ak L=>
    simp only[Fj] at e;split at e
    ·rename_i I;simp only[A3] at I;obtain⟨ag,u,e⟩:=JL e;have bi:Fits s a (GQ af ak k ag):=o.join o I.2 (FY.refl (W:=writes x)) I.1 u
     let K:gC af->aa->Prop:=λag d=> ∀h n,Fits s h (GQ af ak k ag)->FY (writes x) (GH x) a h->
      x.wpIn (Fw B) m P (Exit.then (lr (Fw B) m P x (dc A s (writes x) (GH x) a q kb r)) (dc A s (writes x) (GH x) a q kb r)) h (A.at d n)
     have ap:=e K ?_
     ·exact AHN (ap a n bi FY.refl)
     ·intro ag d bj h n y C;refine wpIn_mono (S m D B L _ d _ kb r h n X bj y) ?_;intro am aG a1 G;obtain⟨E,M,au,rfl,Z,aU,N⟩:=G;have aI:FY (writes x) (GH x) a aG:=C.trans aU (λ_ d=>d) (λ_ d=>d) (λd=>⟨d,d⟩);cases am with
      |normal=>
       obtain⟨bV,bk,aS⟩:=JL N;exact AI8 (aS aG au (y.again Z I.2 aU I.1 bk) aI)
      |exit i=>exact⟨E,M,au,rfl,Z,aI,N⟩
      |ret=>exact⟨E,M,au,rfl,Z,aI,N⟩
      |goto l=>exact⟨E,M,au,rfl,Z,aI,N⟩
      |panic a2=>exact N.elim
      |outgrown=>exact N.elim
    ·exact e.elim
   |_=>simp only[Fj] at e
  |rangeFunc f ps aJ x=>
   have bm:=S aJ (by simp at Y;omega);have ax:=S x (by simp at Y;omega);intro m D B H k d q kb r a n X e o;cases H with
   |range a3 L ah=>
    simp only[Fj] at e;split at e
    ·rename_i a4;simp only[A3,Cd,Fk] at a4;obtain⟨⟨bn,aK⟩,bo⟩:=a4;have aK:=IN aK;have bp:=X bn;subst bp;have e:=BR o e;refine wpIn_rangeFunc λfn _=>?_
     let az:Go.Loop:= {state:= .ready,pending:=none,fn,tmps:=a.tmps,params:=ps,assign:=aJ,body:=x,defers:=d.size}
     have bq: ∀args:List J0,args.length=ps.size-> ∀(O:aa) (an:A30),O[d.size+1]? =some (.loop az)->
       Fj A P s true aJ L (jD {get:=k.get,ds:= []} ps.toList args) O
        (λaj ac=> ∃aL,ac[d.size+1]? =some (.loop aL)/\aL.state= .ready/\
         Fj A P s true x ah aj (ac.setIfInBounds (d.size+1) (.loop {aL with state:= .busy}))
          (λ_ M=> ∃ab,M[d.size+1]? =some (.loop ab)/\an (.bool true) (M.setIfInBounds (d.size+1) (.loop {ab with state:= .ready,pending:=none})))
          (λaW _ M=>match aW with| .ag i=>(∃ ab,M[d.size+1]? =some (.loop ab)/\an (.bool false) (M.setIfInBounds (d.size+1) (.loop {ab with state:= .done,pending:=some (kp (some i))})))| .eA _=>False)
          (λ_ M=> ∃ab,M[d.size+1]? =some (.loop ab)/\an (.bool false) (M.setIfInBounds (d.size+1) (.loop {ab with state:= .done,pending:=some (kp none)}))))
        (λ_ _ _=>False) (λ_ _=>False)->
       Er A P (.func (.yield (d.size+1)) #[] #[]) args.toArray O an:=by
      intro args br O an aX aY n;have bs:(do let U <-Deferred.ofValue (.func (.yield (d.size+1)) #[] #[]) args.toArray;invoke U.target U.args:Sem Next).run P (A.at O n)=
        .ok (.round (d.size+1) fn ((ps.zip args.toArray).foldl (λtmps (t,a)=>tmps.setIfInBounds t a) a.tmps) aJ x) (A.at O n):=by
       have bt: ¬(args.toArray).size≠ps.size:=by simp[br]
       simp only[Deferred.ofValue,Sem.run_bind,Sem.run_pure,Result.andThen_ok,invoke,Instr.yield,run_getLoop aX,Array.empty_append];show Sem.run P (if(args.toArray).size≠ps.size then _ else _) _=_;rw[if_neg bt];rfl
      rw[bs];simp only[Next.out];have bu:Fits s {tmps:=(ps.zip args.toArray).foldl (λtmps (t,a)=>tmps.setIfInBounds t a) a.tmps,defers:= []} (jD {get:=k.get,ds:= []} ps.toList args):=by have bv:Fits s {tmps:=a.tmps,defers:= []} {get:=k.get,ds:= []}:=⟨o.size,o.get,rfl⟩;have:=wI ps.toList args _ a.tmps (λp G=>by simpa using bo p G) bv;rw[<- Array.foldl_toList,Array.toList_zip];exact this
      refine roundIn_of_wpIn trivial (wpIn_mono (bm 0 true (some (d.size+1)) L _ O _ _ _ _ n (λd=>by cases d) aY bu) ?_);intro am h aF G;obtain⟨g,j,T,rfl,y,C,u⟩:=G;cases am<;>simp only at u
      obtain⟨aL,bw,bx,bz⟩:=u;refine⟨_,run_beginRound bw bx,?_⟩;refine wpIn_mono (ax 0 true (some (d.size+1)) ah _ _ _ _ _ h T (λd=>by cases d) bz y) ?_;intro a0 aG a1 bA;obtain⟨E,M,au,rfl,Z,aU,N⟩:=bA;cases a0<;>simp only at N
      ·obtain⟨ab,aA,aC⟩:=N;exact⟨_,_,run_endRound aA,_,rfl,_,_,rfl,aC⟩
      ·obtain⟨ab,aA,aC⟩:=N;exact⟨_,_,run_endRound aA,_,rfl,_,_,rfl,aC⟩
      ·obtain⟨ab,aA,aC⟩:=N;exact⟨_,_,run_endRound aA,_,rfl,_,_,rfl,aC⟩
     obtain⟨bB,bC,bD,bE⟩:=e az rfl rfl aK.symm (λx O an aX aY=>bq (kq a3 x) ((ZK a3 x).trans aK) O an aX aY);obtain⟨nx,bF,rfl⟩:=Mx bD;have aD:=bF (A.at ((d.push (.deferred (some []))).push (.loop az)) n);rw[Sem.run_bind] at aD;have bG:(resolve a.eval (rangeCall f (d.size+1)) 0)=Deferred.ofValue (a.eval f) #[.func (.yield (d.size+1)) #[] #[]]:=by simp[resolve,Act.eval]
     cases hd:(Deferred.ofValue (a.eval f) #[.func (.yield (d.size+1)) #[] #[]]).run P (A.at ((d.push (.deferred (some []))).push (.loop az)) n) with
     |halt R w=>rw[hd] at aD;cases aD
     |ok U aF=>
      rw[hd] at aD;have aq:aF=A.at ((d.push (.deferred (some []))).push (.loop az)) n:=by cases aH:a.eval f<;>rw[aH] at hd<;>simp[Deferred.ofValue] at hd<;>first|exact hd.2.symm|(cases hd)
      subst aq;refine⟨d.size+1,[jW d.size],_,U,_,bB,bC,_,AF9,by rw[bG];exact hd,λ_ _=>trivial,aD,λar=>by simp at ar,Xk.2 (Calls.mono (bE n) ?_)⟩;rintro bW bX ⟨v,rfl,M,au,rfl,a5,bH,bI,a6⟩;have aZ:Fits s {a with defers:= [jW d.size]++a.defers} {get:=k.get,ds:=d.size::k.ds}:=⟨o.size,o.get,by simp[o.ds]⟩;refine⟨a5.pending,_,run_endLoop bH bI,?_⟩;generalize M.setIfInBounds (d.size+1) (.loop {a5 with state:= .exhausted})=bY at a6 ⊢;rcases a6 with⟨G,bK⟩|⟨aW,G,a7⟩
      ·rw[G];exact⟨_,_,_,rfl,aZ,⟨λ_ _=>rfl,λd=>by simp[GH] at d⟩,bK⟩
      ·rw[G];cases aW with
       |none=>exact wpIn_ret ⟨_,_,_,rfl,aZ,⟨λ_ _=>rfl,λd=>by simp[GH] at d⟩,a7⟩
       |some i=>exact wpIn_exit ⟨_,_,_,rfl,aZ,⟨λ_ _=>rfl,λd=>by simp[GH] at d⟩,a7⟩
    ·exact e.elim
   |_=>simp only[Fj] at e
  |scope b=>
   intro m D B H k d q kb r a n X e o;cases b with
   |seq bL bM=>
    cases bM with
    |seq c R=>
     cases R with
     |seq z U=>
      cases z with
      |label l=>
       cases H with
       |scope af ak bZ L ah=>
        simp only[Fj] at e;split at e
        ·rename_i I;simp only[A3] at I;obtain⟨⟨bN,bO⟩,I,bP,bQ,bR⟩:=I;have bS:=S bL (by simp at Y;omega);have bT:=S c (by simp at Y;omega);have bU:=S U (by simp at Y;omega);exact AKc bS bT bU X bN bO I bP bQ bR e o
        ·exact e.elim
       |_=>simp only[Fj] at e
      |_=>simp only[Fj] at e
     |_=>simp only[Fj] at e
    |_=>simp only[Fj] at e
   |_=>simp only[Fj] at e
theorem ALJ {P:Q1}{b:ao}{d:Nat}(l:P.follows .mixedOrders=true)(c:Code)(m:Nat)(e:Bool)(f:Option Nat)(k:bJ)(g:Env)(h:aa)(i:Env->aa->Prop)(kb:iq->Env->aa->Prop)(j:Env->aa->Prop)(a:Act)(n:Nat)
  (o:e=false->f=none) (p:Fj b P d e c k g h i kb j) (q:Fits d a g):c.wpIn (Fw f) m P (dc b d (writes c) (GH c) a i kb j) a (b.at h n):=
 AJ6 l (SizeOf.sizeOf c+1) c (Ks _) m e f k g h i kb j a n o p q
def ku(P:Q1):List ResultVar->Env->aa->(List J0->Prop)->Prop
 | [],_,_,K=>K []
 | .tmp t::d,b,c,K=>match b.get t with|some v=>ku P d b c λe=>K (v::e)|none=>False
 | .cell a t::d,b,c,K=>match b.get a with
  |some v=>(match v with| .pointer p=>At p λad=>loadT P t c ad λv _=>ku P d b c λe=>K (v::e)|_=>False)
  |none=>False
def oneOf(a:List J0)(K:J0->Prop):Prop:=match a with| [v]=>K v|a=>K (.tuple a.toArray)
def wJ(P:Q1)(l:List ResultVar)(a:Env)(b:aa)(K:J0->Prop):Prop:=ku P l a b λc=>oneOf c K
def qw:List Nat->aa->(aa->Prop)->Prop
 | [],a,K=>K a
 |r::b,a,K=>a[r]? =some (.deferred (some []))/\qw b (a.setIfInBounds r (.deferred none)) K
def lx:Nat->List J0->Nat->Option J0
 |_,[],_=>none
 |i,v::a,t=>bif Nat.beq t i then some v else lx (i+1) a t
def qx(P:Q1)(fn:Func)(c:A30)(a:Env)(d:aa):Prop:=qw a.ds d λb=>wJ P fn.results.toList a b λv=>c v b
def qy(A:ao)(P:Q1)(f:Q8)(b:bJ)(args:List J0)(d:aa)(a:A30):Prop:=
 match P.funcs[f]? with
 |none=>False
 |some fn=>match fn.body with
  |none=>False
  |some c=>match Nat.ble args.length fn.ntmps with
   |true=>Fj A P fn.ntmps false c b {get:=lx 0 args,ds:= []} d (qx P fn a) (λ_ _ _=>False) (qx P fn a)
   |false=>False
theorem wK: ∀ {l:List J0} {i t:Nat} {v:J0},lx i l t=some v->i<=t/\l[t-i]? =some v
 | [],_,_,_,a=>by cases a
 |u::e,i,t,v,a=>by
  unfold lx at a;by_cases b:t=i
  ·subst b;have c:Nat.beq t t=true:=by simp
   rw[c,cond_true] at a;exact⟨A0 _,by simpa using a⟩
  ·rw[Uj b,cond_false] at a;obtain⟨f,d⟩:=wK a;refine⟨by omega,?_⟩;have:t-i=(t-(i+1))+1:=by omega
   rw[this,Wk];exact d
section
variable {P : Q1} {A : ao}
def nw(tmps:Array J0):ResultVar->Sem J0
 | .tmp t=>pure (tmps.getD t undef)
 | .cell x t=>do loadVar t (<- asAddr (tmps.getD x undef))
theorem AL9(fn:Func)(tmps:Array J0):results fn tmps=(do let a <-fn.results.mapM (nw tmps);pure (if b:a.size=1 then a[0] else .tuple a)):=rfl
theorem R3 {k:Nat}{a:Act}{j:Env}(d:Fits k a j){e:aa}{n:Nat}: ∀ {l:List ResultVar} {K:List J0->Prop},ku P l j e K->
  ∃c,(l.mapM (nw a.tmps)).run P (A.at e n)= .ok c (A.at e n)/\K c
 | [],K,b=>⟨[],rfl,b⟩
 | .tmp t::m,K,b=>by
  unfold ku at b;split at b
  ·rename_i v f;obtain⟨c,g,h⟩:=R3 (n:=n) d b;refine⟨v::c,?_,h⟩;have i:a.tmps.getD t undef=v:=by have:=d.get t v f;simp[this]
   rw[PJ];simp only[Sem.run_bind,Sem.run_pure,Result.andThen_ok,nw,g,i]
  ·exact b.elim
 | .cell x t::m,K,b=>by
  unfold ku at b;split at b
  ·rename_i v f;split at b
   ·rename_i p;obtain⟨ad,rfl,o⟩:=At.mk b;obtain⟨u,st,q,r,h⟩:=vd (A:=A) o;obtain⟨c,g,s⟩:=R3 (n:=n) d h;refine⟨u::c,?_,s⟩;have i:a.tmps.getD x undef= .pointer (some ad):=by have:=d.get x _ f;simp[this]
    rw[PJ];simp only[Sem.run_bind,Sem.run_pure,Result.andThen_ok,nw,i,asAddr,q e r n,g]
   ·exact b.elim
  ·exact b.elim
theorem AMJ {f:Nat}{a:Act}{e:Env}(g:Fits f a e){fn:Func}{c:aa}{n:Nat}{K:J0->Prop}(b:wJ P fn.results.toList e c K):
  ∃v,(results fn a.tmps).run P (A.at c n)= .ok v (A.at c n)/\K v:=by
 obtain⟨d,h,b⟩:=R3 (A:=A) g (n:=n) b;have i:(results fn a.tmps).run P (A.at c n)= .ok (if j:d.toArray.size=1 then d.toArray[0] else .tuple d.toArray) (A.at c n):=by rw[AL9,Wa];simp only[Sem.run_bind,Sem.run_map,h,Result.andThen_ok,Sem.run_pure]
 refine⟨_,i,?_⟩
 match d,b with
 | [],b=>exact b
 | [v],b=>exact b
 |u::v::k,b=>simpa [oneOf] using b
theorem wL {fn:Func}{tmps:Array J0}{d:Ending->World->Prop}{K:aa->Prop}(e: ∀a b,K a->LeavesInM (Fw none) 0 P fn tmps d [] .returning (A.at a b)):
  ∀(l:List Nat) (a:aa) (b:Nat),qw l a K->LeavesInM (Fw none) 0 P fn tmps d (l.map jW) .returning (A.at a b)
 | [],a,b,c=>e a b c
 |r::f,a,b,⟨g,c⟩=>by
  refine⟨by simp,.inl ⟨r,_,rfl,run_takeDeferred (w:=A.at a b) g,?_⟩⟩;exact wL e f _ b c
theorem AIW(r:P.follows .mixedOrders=true){f:Q8}{m:bJ}{args:List J0}{j:aa}{e:A30}(b:qy A P f m args j e):
  AA A P f args.toArray j e:=by
 intro n;unfold qy at b;split at b
 ·exact b.elim
 ·rename_i fn s;split at b
  ·exact b.elim
  ·rename_i c u;split at b
   ·rename_i o;have o:=Wb o;refine Xk.1 (callsIn_of_wp_marks (F:=Fw none) (n:=0) s u trivial ?_);have w:Fits fn.ntmps {tmps:=args.toArray++Array.replicate (fn.ntmps-args.toArray.size) undef,defers:= []} {get:=lx 0 args,ds:= []}:=by refine⟨by simp;omega,λt v k=>?_,rfl⟩;obtain⟨_,g⟩:=wK k;have x:t<args.length:=(List.getElem?_eq_some_iff.1 (by simpa using g)).1;rw[Kx (by simpa using x)];simpa using g
    refine wpIn_mono (ALJ r c 0 false none m _ j _ _ _ _ n (λ_=>rfl) b w) ?_;intro y a G z;obtain⟨h,d,i,rfl,p,_,l⟩:=z;have fin:qx P fn e h d->LeavesInM (Fw none) 0 P fn a.tmps (λh B=> ∃v,h= .returned v/\ ∃d i,B=A.at d i/\e v d) a.defers .returning (A.at d i):=by intro C;rw[p.ds];refine wL ?_ h.ds d i C;intro g q D;obtain⟨v,k,E⟩:=AMJ (A:=A) p (n:=q) D;exact⟨v,k,v,rfl,g,q,rfl,E⟩
    cases y<;>simp only at l
    ·exact fin l
    ·exact fin l
   ·exact b.elim
end
def Ec(c:IntKind)(a b:Int):Int:=c.wrap ((BitVec.ofInt c.bits a &&& BitVec.ofInt c.bits b).toNat:Int)
def dK(c:IntKind)(a b:Int):Int:=c.wrap ((BitVec.ofInt c.bits a ||| BitVec.ofInt c.bits b).toNat:Int)
def Mr(c:IntKind)(a b:Int):Int:=c.wrap ((BitVec.ofInt c.bits a ^^^ BitVec.ofInt c.bits b).toNat:Int)
end Go.Lf
namespace Go.Lf.G
noncomputable abbrev P:Q1:=Go.Proofs.Tryz.prog
def JM:Q8:=3
def Jj:Q8:=5
def QX:Q8:=6
def Ex:Q8:=7
def Gv:Q8:=8
def Fs:Q8:=9
def FC:Q8:=10
def Gu:Q8:=11
def KZ:Q8:=16
def CU:Q8:=17
def JP:Q8:=18
def La:Q8:=26
def IC:Q8:=27
def VH:Q8:=28
def Vz:Q8:=29
def Oq:Q8:=30
def KV:Q8:=31
def Jl:Q8:=32
def KR:Q8:=33
def QS:Q8:=34
def SV:Q8:=35
def Cm:Q8:=36
def IL:Q8:=37
def GY:Q8:=38
def Fu:Q8:=39
def BZ:Q8:=40
def Ey:Q8:=41
def Gz:Q8:=42
def Cb:Q8:=49
def QR:Q8:=50
def Fy:Q8:=54
def TH:Q8:=55
def XX:Q8:=56
def Gw:Q8:=57
def Bl:Q8:=58
def Lg:Q8:=59
def Du:Q8:=60
def LC:Q8:=61
def Nb:Q8:=62
def JF:Q8:=63
def Pw:Q8:=64
def HY:Q8:=65
def FP:Q8:=66
def IJ:Q8:=67
def Qd:Q8:=68
def Kr:Q8:=69
def Fq:Q8:=70
def Me:Q8:=73
def Ay:Q8:=74
def CF:Q8:=75
def IA:Q8:=77
def Ag:Q8:=81
def Br:Q8:=82
def Ju:Q8:=83
def Cc:Q8:=84
def Yp:Q8:=85
def AAz:Q8:=86
def OH:Q8:=87
def Jd:Q8:=88
def AFI:Q8:=89
def OW:Q8:=90
def OE:Q8:=91
def GL:Q8:=92
def Jp:Q8:=93
def UG:Q8:=94
def Il:Q8:=95
def Sy:Q8:=96
def GG:Q8:=97
def CB:Q8:=98
def O9:Q8:=99
def Je:Q8:=100
def YI:Q8:=102
def KM:Q8:=103
def Jc:Q8:=104
def Hu:Q8:=105
def OO:Q8:=106
def WH:Q8:=107
def F6:Q8:=108
def OZ:Q8:=109
def Le:Q8:=110
def Eu:Q8:=111
def QG:Q8:=112
def PL:Q8:=113
def OU:Q8:=114
def OQ:Q8:=115
def QK:Q8:=116
def Sw:Q8:=117
def Iw:Q8:=118
def H7:Q8:=119
def Jv:Q8:=120
def Fg:Q8:=121
def CY:Q8:=122
def Da:Q8:=123
def El:Q8:=124
def QI:Q8:=125
def Jt:Q8:=126
def SG:Q8:=127
def NY:Q8:=128
def Cu:Q8:=129
def G6:Q8:=130
def BQ:Q8:=131
def GX:Q8:=132
def EH:Q8:=133
def EF:Q8:=134
def NR:Q8:=135
def EX:Q8:=137
def Ja:Q8:=138
def Md:Q8:=139
def Qg:Q8:=140
def GK:Q8:=141
def Mi:Q8:=142
def ALh:Q8:=143
def ADO:Q8:=144
def Gs:Q8:=145
def AHQ:Q8:=146
def Ci:Q8:=147
def Na:Q8:=148
def OC:Q8:=149
def LY:Q8:=150
def FH:Q8:=151
def JH:Q8:=152
def KG:Q8:=153
def Jo:Q8:=154
def PM:Q8:=155
def FR:Q8:=159
def KH:Q8:=160
def N8:Q8:=161
def DC:Q8:=162
def JU:Q8:=163
def Dt:Q8:=164
def G7:Q8:=165
def BO:Q8:=166
def DI:Q8:=167
def Jz:Q8:=168
def Q3:Q8:=169
def JR:Q8:=170
def IE:Q8:=171
def OG:Q8:=172
def Py:Q8:=173
def Hq:Q8:=174
def JK:Q8:=175
def R4:Q8:=177
def I7:Q8:=178
def OT:Q8:=179
def Iu:Q8:=180
def AFp:Q8:=181
def KJ:Q8:=182
def PI:Q8:=183
def Nh:Q8:=184
def LM:Q8:=185
def JZ:Q8:=186
def UO:Q8:=187
def LX:Q8:=188
def Gm:Q8:=189
def SQ:Q8:=190
def SS:Q8:=191
def GU:Q8:=192
def PD:Q8:=193
def Mc:Q8:=194
def OA:Q8:=195
def PP:Q8:=196
def Qc:Q8:=197
def Vg:Q8:=198
def QV:Q8:=199
def Ma:Q8:=200
def GR:Q8:=201
def I1:Q8:=202
def ACe:Q8:=205
def FJ:Q8:=207
def Pz:Q8:=210
def KC:Q8:=211
def Dy:Q8:=212
def DT:Q8:=213
def Dj:Q8:=214
def MZ:Q8:=215
def AHy:Q8:=216
def AFw:Q8:=217
def Sv:Q8:=218
def Qi:Q8:=223
def Jf:Q8:=224
def LU:Q8:=225
def DD:Q8:=226
def KW:Q8:=227
def F4:Q8:=228
def EM:Q8:=229
def FW:Q8:=230
def Gj:Q8:=231
def Ip:Q8:=232
def Qf:Q8:=233
def LP:Q8:=234
def KY:Q8:=235
def JB:Q8:=236
def Gr:Q8:=237
def KA:Q8:=238
def PT:Q8:=239
def Qu:Q8:=240
def Gl:Q8:=241
def Hr:Q8:=242
def OX:Q8:=247
def QM:Q8:=248
def TC:Q8:=249
def LZ:Q8:=250
def AEk:Q8:=251
def ME:Q8:=252
def Jg:Q8:=253
def Sm:Q8:=254
def Li:Q8:=255
def TE:Q8:=256
def Gt:Q8:=257
def KL:Q8:=258
def OY:Q8:=259
def Ow:Q8:=266
def JG:Q8:=267
def IW:Q8:=268
def Ig:Q8:=273
def LV:Q8:=274
def Dh:Q8:=286
def OP:Q8:=287
def Dp:Q8:=288
def OV:Q8:=289
def Gd:Q8:=290
def Un:Q8:=291
def Su:Q8:=294
def I8:Q8:=295
def RL:Q8:=296
def Qb:Q8:=297
def Io:Q8:=298
def LF:Q8:=299
def Cj:Q8:=307
def DU:Q8:=315
def Nj:Q8:=319
def Nz:Q8:=320
def DL:Q8:=333
def t_:Q7:=0
def BL:Q7:=3
def Ux:Q7:=4
def EL:Q7:=5
def A9:Q7:=9
def Ap:Q7:=22
def AO2:Q7:=28
def Gi:Q7:=35
def EA:Q7:=37
def Gf:Q7:=40
def FQ:Q7:=45
def Ba:Q7:=46
def A8:Q7:=48
def GV:Q7:=64
def Cs:Q7:=66
def Ib:Q7:=68
def BX:Q7:=70
def JA:Q7:=72
def nC:Q7:=89
def CV:Q7:=94
def qH:Q7:=96
def AKu:Q7:=99
def Fe:Q7:=105
def Eh:Q7:=106
def SY:Q7:=108
def ER:Q7:=109
def AU:Q7:=119
def AR:Q7:=122
def lC:Q7:=123
def Df:Q7:=131
def N9:Q7:=149
def LQ:Q7:=150
def BN:Q7:=152
def wZ:Q7:=164
def YK:Q7:=166
def xf:Q7:=169
def AAS:Q7:=173
def Ai:Q7:=178
def Cv:Q7:=185
def Dc:Q7:=186
def XT:Q7:=193
def JN:Q7:=195
def Bq:Q7:=197
def BI:Q7:=205
def Tc:Q7:=237
def EK:Q7:=238
def BD:Q7:=240
def AFe:Q7:=247
def Au:Q7:=248
def KF:Q7:=250
def Bd:Q7:=253
def Bn:Q7:=258
def BC:Q7:=263
def NT:Q7:=290
def qI:Q7:=294
def VF:Q7:=300
def EB:Q7:=314
def Rz:Q7:=316
def xk:Q7:=318
def Mq:Q7:=322
def xl:Q7:=325
def Mh:Q7:=333
def JS:Q7:=336
def nD:Q7:=348
def ET:Q7:=380
def Ue:Q7:=389
def EU:Q7:=435
def Ew:Q7:=437
theorem mixed:P.follows .mixedOrders=true:=by decide +kernel
end Go.Lf.G
