/-
 LIFT, part A: worlds as heaps beside a fixed rest; one operation's outcome at the level of values; a region that draws its order, walked in the text's order.
-/
import Derived.WalkKit
import Derived.OrdersIn
import Derived.RangeFuncIn
import Derived.RangeFuncLeaves
import Derived.RangeFuncCalls
import Derived.TacticsInMore
import Derived.RangeFuncRecord
import Derived.Test.YtgpmoonnachoaaaGreatDoorProg
set_option maxRecDepth 100000
set_option linter.unusedVariables false
set_option linter.unusedSimpArgs false
open Go.IntKind renaming i64→J9,wrap→J8
open Go.Value renaming string→J7,int→J6,pointer→J5,slice→J4,bool→J3,tuple→J1
open Go.Obj renaming cells→J2
open Go renaming Value→J0,Addr→Q6,TypeId→Q7,FuncId→Q8,Program→Q1
open Go.Addr renaming add→Q9,mk→Q5
namespace Go.Lf
abbrev Q2:=Option Q6
abbrev A2P:=ByteArray
abbrev A0:=@Nat.le_refl
abbrev A1:=@List.length_append
abbrev A2:=@List.getElem?_eq_getElem
abbrev A3:=@List.append_assoc
abbrev A4:=@Bool.and_eq_true
abbrev A5:=@List.length_cons
abbrev A6:=@Int.toNat_natCast
abbrev An:=@Nat.zero_le
abbrev As:=@Nat.mod_eq_of_lt
abbrev Ax:=@List.length_take
abbrev AD:=@List.take_add_one
abbrev AE:=@Nat.le_trans
abbrev AF:=@List.mem_cons_of_mem
abbrev AG:=@List.take_of_length_le
abbrev AH:=@List.flatMap_cons
abbrev AI:=@Nat.zero_add
abbrev AK:=@List.append_nil
abbrev AM:=@List.mem_of_getElem?
abbrev AN:=@Nat.mul_le_mul_right
abbrev AS:=@List.filter_cons
abbrev AT:=@List.map_map
abbrev AW:=@List.getElem_mem
abbrev B9:=@List.map_cons
abbrev Bk:=@Nat.mul_one
abbrev Bm:=@List.map_append
abbrev Bs:=@List.length_map
abbrev By:=@Nat.add_mul
abbrev BE:=@Option.some.injEq
abbrev BT:=@List.take_length
abbrev BW:=@Nat.le_succ
abbrev BY:=@Option.some.inj
abbrev C2:=@List.getElem?_map
abbrev C5:=@List.getElem?_drop
abbrev Cd:=@List.length_singleton
abbrev Cl:=@List.mem_cons_self
abbrev Cp:=@Bool.false_eq_true
abbrev CA:=@Nat.mod_lt
abbrev CC:=@List.eq_nil_of_length_eq_zero
abbrev CD:=@List.map_congr_left
abbrev CH:=@Nat.mul_comm
abbrev CI:=@Bool.not_eq_true'
abbrev CM:=@Iff.rfl
abbrev CN:=@List.take_append_drop
abbrev CT:=@List.nil_append
abbrev Dd:=@List.cons_append
abbrev Ds:=@List.getElem_of_mem
abbrev DA:=@Bool.or_eq_true
abbrev DB:=@Option.toList_some
abbrev DE:=@List.find?_cons
abbrev DG:=@List.length_drop
abbrev DH:=@Nat.pow_succ
abbrev DM:=@List.mem_of_mem_take
abbrev DO:=@Array.getElem?_setIfInBounds_ne
abbrev DP:=@List.drop_eq_getElem_cons
abbrev DQ:=@Array.length_toList
abbrev DS:=@Array.toList_setIfInBounds
abbrev E0:=@List.getElem?_of_mem
abbrev Ek:=@List.getElem?_take
abbrev F0:=@List.getElem?_append_right
abbrev F2:=@Nat.lt_of_lt_of_le
abbrev Fc:=@Bool.eq_iff_iff
abbrev Fk:=@Nat.min_eq_left
abbrev Fl:=@List.all_eq_true
abbrev Fm:=@Array.getElem?_eq_getElem
abbrev Fo:=@Nat.lt_or_ge
abbrev Ft:=@Nat.mul_assoc
abbrev FA:=@Function.comp_def
abbrev FF:=@List.Perm.refl
abbrev FG:=@Bool.true_and
abbrev G0:=@Nat.add_zero
abbrev G3:=@List.cons.injEq
abbrev G4:=@Bool.false_and
abbrev Ge:=@List.flatMap_append
abbrev Gk:=@List.filter_sublist
abbrev GB:=@List.mem_cons
abbrev GC:=@List.getElem?_append_left
abbrev GF:=@Array.getElem?_modify
abbrev GO:=@List.length_nil
abbrev GP:=@List.sum_cons
abbrev GS:=@Int.le_refl
abbrev GW:=@Nat.pow_add
abbrev Hb:=@List.find?_eq_none
abbrev Hc:=@List.mem_append_left
abbrev Hh:=@List.perm_middle
abbrev Hi:=@List.foldl_append
abbrev Hj:=@Nat.lt_succ_self
abbrev Hk:=@Bool.or_eq_false_iff
abbrev Hn:=@Array.toList_modify
abbrev Hv:=@List.getElem?_cons_zero
abbrev HA:=@Nat.sub_zero
abbrev HD:=@List.drop_of_length_le
abbrev HE:=@Nat.two_pow_pos
abbrev HG:=@List.filter_congr
abbrev HI:=@Option.getD_some
abbrev HJ:=@Nat.add_assoc
abbrev HK:=@Nat.lt_trichotomy
abbrev HL:=@List.mem_singleton
abbrev HM:=@List.set_append_right
abbrev HN:=@List.getElem?_set_self
abbrev HP:=@Option.map_some
abbrev HS:=@List.mem_append
abbrev HT:=@Nat.zero_mul
abbrev HU:=@List.drop_succ_cons
abbrev HW:=@List.drop_drop
abbrev HX:=@List.mem_of_mem_drop
abbrev I0:=@List.take_succ_cons
abbrev I2:=@List.foldl_cons
abbrev I3:=@List.take_zero
abbrev Is:=@Int.mul_assoc
abbrev It:=@Int.pow_add
abbrev Iv:=@Nat.le_add_right
abbrev Ix:=@Nat.eq_of_beq_eq_true
abbrev ID:=@List.mem_append_right
abbrev IF:=@Bool.or_true
abbrev IH:=@List.not_mem_nil
abbrev IN:=@List.mem_map_of_mem
abbrev IS:=@Nat.one_mul
abbrev IT:=@List.drop_zero
abbrev Jx:=@List.getElem?_set_ne
abbrev JT:=@ByteArray.data_append
abbrev Kd:=@List.append_cancel_left
abbrev Kf:=@ByteArray.size_append
abbrev Kp:=@Nat.or_lt_two_pow
abbrev Ks:=@List.map_id
abbrev Kx:=@List.take_append
abbrev KB:=@Nat.shiftLeft_zero
abbrev KK:=@Nat.xor_lt_two_pow
abbrev Lk:=@Nat.add_le_add_left
abbrev Ln:=@List.map_flatMap
abbrev Lo:=@Bool.not_false
abbrev Lq:=@Bool.not_true
abbrev Ly:=@List.mem_range
abbrev Lz:=@List.mem_of_find?_eq_some
abbrev LI:=@List.getElem_inj
abbrev LN:=@Option.none_or
abbrev LO:=@Prod.mk.injEq
abbrev LR:=@List.getElem?_eq_none
abbrev LS:=@Nat.min_eq_right
abbrev Mb:=@List.drop_length
abbrev Mn:=@Nat.sub_self
abbrev Mu:=@Array.getElem?_append_left
abbrev My:=@ByteArray.ext_iff
abbrev Mz:=@List.takeWhile_cons
abbrev MA:=@List.getElem?_set
abbrev MD:=@List.getElem?_toArray
abbrev MT:=@List.toList_toArray
abbrev MY:=@Nat.lt_or_gt_of_ne
abbrev N2:=@Nat.add_sub_cancel
abbrev N3:=@List.foldl_nil
abbrev N4:=@List.all_cons
abbrev N5:=@Array.toList_append
abbrev N6:=@List.range_succ
abbrev Nd:=@List.flatten_append
abbrev No:=@List.pairwise_map
abbrev Nx:=@List.take_append_of_le_length
abbrev NO:=@Array.ext'
abbrev NX:=@Nat.shiftLeft_eq
abbrev Of:=@Nat.log2_lt
abbrev On:=@Int.natAbs_natCast
abbrev OF:=@Bool.and_false
abbrev OK:=@List.filter_append
abbrev ON:=@List.filter_map
abbrev OR:=@List.set_getElem_self
abbrev OS:=@Int.toNat_of_nonneg
abbrev P0:=@List.pairwise_singleton
abbrev P2:=@List.lt_irrefl
abbrev P3:=@List.map_take
abbrev P4:=@List.drop_eq_nil_of_le
abbrev Pa:=@List.getElem?_append
abbrev Pc:=@List.getElem?_singleton
abbrev Pl:=@List.nodup_nil
abbrev PA:=@List.mapM_cons
abbrev PB:=@Option.bind_some
abbrev PC:=@Array.getElem?_push_lt
abbrev PF:=@Array.getElem?_push_size
abbrev PJ:=@List.drop_append
abbrev R0:=@Array.size_setIfInBounds
abbrev R1:=@List.map_set
abbrev R2:=@List.length_set
abbrev Rg:=@List.find?_some
abbrev Rr:=@List.findSome?_cons
abbrev RC:=@List.findSome?_eq_none_iff
abbrev RE:=@Nat.pow_le_pow_right
abbrev RK:=@List.pairwise_cons
abbrev RM:=@Nat.lt_of_le_of_lt
abbrev RR:=@Nat.div_le_self
abbrev RT:=@Array.toList_push
abbrev RW:=@List.map_nil
abbrev Se:=@List.take_take
abbrev Sf:=@Nat.le_log2
abbrev Sh:=@Nat.mul_lt_mul_of_pos_right
abbrev Sp:=@List.reverse_cons
abbrev Ss:=@Nat.pow_pos
abbrev SD:=@Nat.le_of_not_lt
abbrev SJ:=@ByteArray.ext
abbrev SM:=@ByteArray.data_extract
abbrev SO:=@Array.toList_extract
abbrev SP:=@Bool.eq_false_iff
abbrev SR:=@Bool.false_or
abbrev SU:=@List.nodup_iff_pairwise_ne
abbrev SW:=@List.getLast?_concat
abbrev SZ:=@List.mem_of_getLast?
abbrev T4:=@List.range_eq_range'
abbrev Tr:=@Nat.add_sub_cancel_left
abbrev Ts:=@List.length_eq_zero_iff
abbrev TO:=@List.append_eq_nil_iff
abbrev TX:=@List.mem_or_eq_of_mem_set
abbrev V0:=@Nat.div_div_eq_div_mul
abbrev Vc:=@Int.fdiv_eq_ediv_of_nonneg
abbrev Wa:=@List.setIfInBounds_toArray
abbrev Wc:=@Array.mapM_eq_mapM_toList
abbrev Wf:=@Nat.le_of_ble_eq_true
abbrev Wg:=@List.filterMap_cons
abbrev Wk:=@Array.mem_of_getElem?
abbrev WD:=@List.getElem?_cons_succ
abbrev Ys:=@List.takeWhile_sublist
abbrev ZD:=@List.set_append_left
abbrev A03:=@List.set_eq_take_append_cons_drop
abbrev A07:=@Bool.and_eq_false_iff
abbrev A08:=@List.getElem?_concat_length
abbrev A09:=@List.getElem?_take_of_lt
abbrev A0b:=@List.exists_of_findSome?_eq_some
abbrev A0d:=@List.mem_of_mem_erase
abbrev A0f:=@List.cons_lt_cons_iff
abbrev A0i:=@Array.toList_eraseIdx
abbrev A0r:=@List.drop_append_of_le_length
abbrev A0s:=@List.length_filter_le
abbrev A0u:=@Array.getElem?_toList
abbrev A0v:=@List.length_eraseIdx_le
abbrev A0I:=@Nat.two_pow_add_eq_or_of_lt
abbrev A0M:=@List.length_mergeSort
abbrev A0N:=@ByteArray.size_extract
structure ar where
 tape:Nat->Question->Nat
 os:Os
 output:Array (Nat×A2P)
abbrev aa:=Array Obj
abbrev A2O:=J0->aa->Prop
def ar.at(A:ar)(a:aa)(b:Nat):World:= {heap:=a,tape:=A.tape,drawn:=b,os:=A.os,output:=A.output}
abbrev Fw(r:Option Nat):Fence:= {fn:=λ_=>True,depth:=none,alive:=false,round:=r}
theorem AQx(r:Option Nat)(a:Nat):(Fw r).room a:=λ_ b=>by simp at b
theorem We {r:Option Nat}{c:Nat}{P:Q1}{f:Q8}{args:Array J0}{a:World}{b:Ending->World->Prop}:
  CallsIn (Fw r) c P f args a b↔Calls P f args a b:=callsIn_wide
def lC(P:Q1)(l:Nat)(f:Q8)(tmps:Array J0)(assign body:Code)(a:World)(b:J0->World->Prop):Prop:=
 RoundIn (Fw none) 0 P l f tmps assign body a (λc d=> ∃v,c= .returned v/\b v d)
theorem lC.mono {P:Q1}{l:Nat}{f:Q8}{tmps:Array J0}{assign body:Code}{a:World}{b c:J0->World->Prop}
  (e:lC P l f tmps assign body a b) (g: ∀v d,b v d->c v d):lC P l f tmps assign body a c:=
 RoundIn.mono e λ_ _ ⟨v,h,i⟩=>⟨v,h,g _ _ i⟩
theorem AKK {r:Option Nat}{d:Nat}{P:Q1}{l:Nat}{f:Q8}{tmps:Array J0}{assign body:Code}{a:World}{b:Ending->World->Prop}
  (e:RoundIn (Fw none) 0 P l f tmps assign body a b):RoundIn (Fw r) d P l f tmps assign body a b:=
 ⟨trivial,λc g _=>e.2 c g (AQx none _)⟩
def Next.out(P:Q1)(K:J0->World->Prop):Result Next->Prop
 | .ok (.value v) a=>K v a
 | .ok .skip a=>K undef a
 | .ok (.enter f args) a=>Calls P f args a (λb c=> ∃v,b= .returned v/\K v c)
 | .ok (.round l f tmps assign body) a=>lC P l f tmps assign body a K
 |_=>False
def EV(P:Q1)(a:Oper)(b:Operand->J0)(c:World)(K:J0->World->Prop):Prop:=Next.out P K ((execOp b a).run P c)
theorem Next.dL {P:Q1}{K d:J0->World->Prop}(c: ∀v b,K v b->d v b){x:Result Next}(a:Next.out P K x):Next.out P d x:=by
 cases x with
 |ok e b=>
  cases e<;>simp only[Next.out] at a ⊢ <;>
   first
    |exact c _ _ a
    |exact Calls.mono a λ_ _ ⟨v,f,g⟩=>⟨v,f,c _ _ g⟩
    |exact lC.mono a c
 |halt x b=>simp only[Next.out] at a
theorem EV.mono {P:Q1}{b:Oper}{c:Operand->J0}{a:World}{K d:J0->World->Prop}(e:EV P b c a K)(f: ∀v a,K v a->d v a):EV P b c a d:=Next.dL f e
def Jr(a:Oper):Bool:=match a.op with| .defer _=>false| .select .. =>false|_=>true
theorem EV.wpIn {r:Option Nat}{m:Nat}{P:Q1}{b:Oper}{a:Act}{e:World}{K:Act->World->Prop}{j:Exit->Act->World->Prop}
  (hd:Jr b=true) (d:EV P b a.eval e λv g=>K (a.put b.dst v) g):b.wpIn (Fw r) m P a e K j:=by
 refine⟨λ_ _=>trivial,?_⟩;have n:Oper.semAt r a.eval b=execOp a.eval b:=Oper.semAt_eq r a.eval b (λc o=>by simp[Jr,o] at hd);show b.uponIn (Fw r) m P a K j ((Oper.semAt r a.eval b).run P e);rw[n];unfold EV at d;generalize (execOp a.eval b).run P e=x at d;cases x with
 |ok k g=>
  cases k<;>simp only[Next.out] at d<;>simp only[Oper.uponIn]
  case value v=>exact d
  case skip=>exact d
  case enter f args=>
   refine⟨λh=>by simp at h,We.2 (Calls.mono d ?_)⟩;rintro p q ⟨v,rfl,i⟩;exact i
  case round l f tmps assign body=>
   refine⟨λh=>by simp at h,AKK (RoundIn.mono d ?_)⟩;rintro p q ⟨v,rfl,i⟩;exact i
 |halt k g=>simp only[Next.out] at d
section
variable {P : Q1} {A : ar} {r : Option Nat} {ops : Array Oper}
def iE(P:Q1)(A:ar)(c:Oper)(d:Operand->J0)(v:J0)(a:aa):Prop:= ∀b,(execOp d c).run P (A.at a b)= .ok (.value v) (A.at a b)
def un(b:Nat->Nat->Bool)(i a:Nat):Bool:= !(b (max i a) (min i a))
def JU(a:Oper):Prop:= ∀c b,a.op≠ .select c b
def pg(ops:Array Oper):Nat->Nat->Bool:=
 let b:=Region.before ops
 λi a=>(b.getD i 0).testBit a
end
section
variable {P : Q1} {A : ar} {r : Option Nat} {ops : Array Oper} {qb : Oper -> Bool} {ord : Nat -> Nat -> Bool}
def left(a:Nat)(listed:Array Bool):List Nat:=(List.range a).filter λi=> !listed.getD i false
theorem mem_left {a:Nat}{listed:Array Bool}{i:Nat}:i∈left a listed↔i<a/\listed.getD i false=false:=by simp[left]
theorem range_split {n i:Nat}(c:i<n):List.range n=List.range i++i::(List.range' (i+1) (n-i-1)):=by
 rw[T4,T4];have a:List.range' 0 n=List.range' 0 i++List.range' i (n-i):=by have:=List.range'_append_1 (s:=0) (m:=i) (n:=n-i);rw[AI] at this;rw[this];congr 1;omega
 rw[a];congr 1;have b:n-i=(n-i-1)+1:=by omega
 rw[b,List.range'_succ];simp
theorem AKb {c i:Nat}{listed:Array Bool}(e:i<c)(j:listed.size=c)(g:listed.getD i false=false):
  ∃d f,left c listed=d++i::f/\left c (listed.setIfInBounds i true)=d++f/\ ∀a∈d,a<i/\listed.getD a false=false:=by
 refine⟨(List.range i).filter λa=> !listed.getD a false,(List.range' (i+1) (c-i-1)).filter λa=> !listed.getD a false,?_,?_,?_⟩
 ·unfold left;rw[range_split e,OK,AS];simp only[g,Lo,if_true]
 ·unfold left;have h:(listed.setIfInBounds i true).getD i false=true:=by
   have:i<listed.size:=by omega
   simp[this]
  rw[range_split e,OK,AS];simp only[h,Lq,Cp,if_false];congr 1
  ·refine HG λa b=>?_
   have:=List.mem_range.1 b;rw[getD_set_ne false (by omega)]
  ·refine HG λa b=>?_
   have:=(List.mem_range'_1.1 b).1;rw[getD_set_ne false (by omega)]
 ·intro a b;simp only[List.mem_filter,Ly,CI] at b;exact b
def gK(ord:Nat->Nat->Bool)(listed:Array Bool):Prop:= ∀a b,listed.getD a false=true->b<a->ord a b=true->listed.getD b false=true
theorem YA {a:Oper}(c:Jr a=true):JU a:=λe b d=>by simp[Jr,d] at c
theorem AOy(a:Nat):left a (Array.replicate a false)=List.range a:=by unfold left;rw[List.filter_eq_self];intro i _;by_cases b:i<a<;>simp[b]
end
def ah(b:aa)(a:Q6):Option J0:=
 match b[a.block]? with
 |some (.cells c _ _)=>if a.spot.isSome then none else c[a.off]?
 |_=>none
def fZ(b:aa)(a:Q6):Bool:=
 match b[a.block]? with
 |some (.cells _ _ (c,d))=>c<=a.off&&a.off<d
 |_=>false
def dh(b:aa)(a:Q6)(v:J0):aa:=
 b.modify a.block λ
  | .cells c d frozen=> .cells (if a.spot.isSome then c else c.setIfInBounds a.off v) d frozen
  |o=>o
theorem AQu(c:ar)(b:aa)(d:Nat)(a:Q6):(c.at b d).cell? a=ah b a:=rfl
theorem fE(b:ar)(c:aa)(d:Nat)(a:Q6)(v:J0):(b.at c d).setCell a v=b.at (dh c a v) d:=rfl
def At(p:Q2)(K:Q6->Prop):Prop:=match p with|some a=>K a|none=>False
def ag(b:Bool)(a c:Prop):Prop:=match b with|true=>a|false=>c
def ao(a:aa)(b:Obj)(K:Nat->aa->Prop):Prop:=K a.size (a.push b)
def SI(b:aa)(a:Q6)(K:J0->Prop):Prop:= ∃v,ah b a=some v/\K v
def AC(c:IntKind)(d:aa)(a:Q6)(K:Int->Prop):Prop:= ∃b,ah d a=some (.int c b)/\K b
def Ac(c:aa)(a:Q6)(K:Bool->Prop):Prop:= ∃b,ah c a=some (.bool b)/\K b
def AJ(b:aa)(a:Q6)(K:A2P->Prop):Prop:= ∃s,ah b a=some (.string s)/\K s
def AY(b:aa)(a:Q6)(K:Q2->Prop):Prop:= ∃p,ah b a=some (.pointer p)/\K p
structure Sl where
 p:Q2
 len:Nat
 cap:Nat
def Sl.v(s:Sl):J0:= .slice s.p s.len s.cap
def AZ(b:aa)(a:Q6)(K:Sl->Prop):Prop:= ∃s:Sl,ah b a=some (.slice s.p s.len s.cap)/\K s
def ATd(c:FloatKind)(d:aa)(a:Q6)(K:Nat->Prop):Prop:= ∃b,ah d a=some (.float c b)/\K b
def ATm(c:FloatKind)(d:aa)(a:Q6)(K:Nat×Nat->Prop):Prop:= ∃b:Nat×Nat,ah d a=some (.complex c b.1 b.2)/\K b
def FV(c:aa)(a:Q6)(K:Option Nat->Prop):Prop:= ∃b,ah c a=some (.map b)/\K b
def af(b:aa)(a:Q6)(v:J0)(K:aa->Prop):Prop:=(∃ u,ah b a=some u)/\fZ b a=false/\K (dh b a v)
def bJ(p:Q2)(len:Nat)(i:Int)(K:Q6->Prop):Prop:= ∃a,p=some a/\(0<=i/\i<len)/\K a
def aI(c K:Prop):Prop:=c/\K
def aj {a:Type}(c:a->aa->Prop)(body:(a->aa->Prop)->Prop):Prop:= ∀K:a->aa->Prop,(∀ x b,c x b->K x b)->body K
def Loop {a:Type}(c:(a->aa->Prop)->a->aa->Prop)(x:a)(b:aa):Prop:= ∀K:a->aa->Prop,(∀ x b,c K x b->K x b)->K x b
def BI(a:ar)(P:Q1)(m:Sem J0)(c:aa)(K:A2O):Prop:= ∀d,∃v b e,m.run P (a.at c d)= .ok v (a.at b e)/\K v b
def AA(a:ar)(P:Q1)(f:Q8)(args:Array J0)(c:aa)(d:A2O):Prop:=
 ∀e,Calls P f args (a.at c e) λg h=> ∃v,g= .returned v/\ ∃b i,h=a.at b i/\d v b
theorem AA.mono {b:ar}{P:Q1}{f:Q8}{args:Array J0}{a:aa}{c d:A2O}(e:AA b P f args a c)(g: ∀v a,c v a->d v a):AA b P f args a d:=
 λh=>Calls.mono (e h) λ_ _ ⟨v,i,j,k,l,m⟩=>⟨v,i,j,k,l,g _ _ m⟩
def Eb(a:ar)(P:Q1)(fv:J0)(args:Array J0)(d:aa)(e:A2O):Prop:=
 ∀f,Next.out P (λv g=> ∃b h,g=a.at b h/\e v b) ((do let c <-Deferred.ofValue fv args;invoke c.target c.args:Sem Next).run P (a.at d f))
theorem Eb.mono {b:ar}{P:Q1}{fv:J0}{args:Array J0}{a:aa}{c d:A2O}(e:Eb b P fv args a c)(f: ∀v a,c v a->d v a):Eb b P fv args a d:=
 λg=>Next.dL (λ_ _ ⟨h,i,j,k⟩=>⟨h,i,j,f _ _ k⟩) (e g)
theorem Tm {a b:Nat}(c:a≠b):Nat.beq a b=false:=by
 cases d:Nat.beq a b with
 |false=>rfl
 |true=>exact absurd (Ix d) c
structure Env where
 get:Nat->Option J0
 ds:List Nat
def kI(a:Nat):Deferred:= {target:= .collected a,args:= #[]}
structure Fits (N:Nat) (a:Act) (e:Env):Prop where
 size:a.tmps.size=N
 get: ∀t v,e.get t=some v->a.tmps[t]? =some v
 ds:a.defers=e.ds.map kI
def Env.set(a:Env)(b:Nat)(v:J0):Env:= {get:=λt=>bif Nat.beq t b then some v else a.get t,ds:=a.ds}
def Env.put(b:Env)(a:Option Tmp)(v:J0):Env:=match a with|none=>b|some a=>b.set a v
def nc(N:Nat)(a:Option Tmp):Bool:=match a with|none=>true|some a=>Nat.blt a N
theorem Fits.set {N:Nat}{a:Act}{f:Env}(d:Fits N a f){c:Nat}{v:J0}(hd:c<N):Fits N (a.put (some c) v) (f.set c v):=by
 refine⟨by simp[Act.put,d.size],?_,d.ds⟩;intro t u b;unfold Env.set at b;simp only at b;by_cases e:t=c
 ·subst e;have:Nat.beq t t=true:=by simp
  rw[this] at b;simp only[cond_true,BE] at b;subst b;simp[Act.put,d.size,hd]
 ·have:Nat.beq t c=false:=Tm e;rw[this] at b;simp only[cond_false] at b;have:=d.get t u b;simp only[Act.put];rw[DO (Ne.symm e)];exact this
theorem Fits.put {N:Nat}{a:Act}{c:Env}(d:Fits N a c){b:Option Tmp}{v:J0}(hd:nc N b=true):Fits N (a.put b v) (c.put b v):=by
 cases b with
 |none=>exact d
 |some b=>exact d.set (by simpa [nc] using hd)
theorem Fits.oS {N:Nat}{a:Act}{e:Env}(d:Fits N a e){c:Nat}{v:J0}(g:a.tmps[c]? =some v):Fits N a (e.set c v):=by
 refine⟨d.size,?_,d.ds⟩;intro t u b;unfold Env.set at b;simp only at b;by_cases f:t=c
 ·subst f;have:Nat.beq t t=true:=by simp
  rw[this] at b;simp only[cond_true,BE] at b;rw[<- b];exact g
 ·have:Nat.beq t c=false:=Tm f;rw[this] at b;exact d.get t u b
def rdv(a:Env)(x:Operand):Option J0:=
 match x with
 | .tmp t=>a.get t
 | .const v=>some v
 | .global g=>some (.pointer (some ⟨g,0,none⟩))
 | .func f=>some (.func (.func f) #[] #[])
theorem Fits.rdv {N:Nat}{a:Act}{c:Env}(d:Fits N a c){x:Operand}{v:J0}(b:rdv c x=some v):a.eval x=v:=by
 cases x with
 |tmp t=>
  have:=d.get t v b;simp only[Act.eval];simp[this]
 |const u=>simpa [Lf.rdv,Act.eval] using b
 |global g=>simpa [Lf.rdv,Act.eval] using b
 |func f=>simpa [Lf.rdv,Act.eval] using b
def rd(a:Env)(x:Operand)(K:J0->Prop):Prop:=match rdv a x with|some v=>K v|none=>False
theorem BX {N:Nat}{a:Act}{c:Env}(e:Fits N a c){x:Operand}{K:J0->Prop}(b:rd c x K):K (a.eval x):=by
 unfold rd at b;cases d:rdv c x with
 |none=>rw[d] at b;exact b.elim
 |some v=>rw[d] at b;rw[e.rdv d];exact b
def ρof(a:Env)(x:Operand):J0:=match rdv a x with|some v=>v|none=>undef
def known(a:Env)(l:List Operand)(K:Prop):Prop:=match l with| []=>K|x::b=>(match rdv a x with|some _=>known a b K|none=>False)
theorem KS {N:Nat}{a:Act}{c:Env}(f:Fits N a c){K:Prop}: ∀ {l:List Operand},known c l K->(∀ x∈l,ρof c x=a.eval x)/\K
 | [],b=>⟨λ_ b=>(by cases b),b⟩
 |x::j,b=>by
  unfold known at b;cases d:rdv c x with
  |none=>rw[d] at b;exact b.elim
  |some v=>
   rw[d] at b;obtain⟨g,h⟩:=KS f b;refine⟨λi e=>?_,h⟩;rcases List.mem_cons.1 e with rfl|e
   ·unfold ρof;rw[d,f.rdv d]
   ·exact g i e
end Go.Lf
namespace Go
open Lf
def Sem.calc {b:Type}(P:Q1):Sem b->Option b
 | .pure a=>some a
 | .program f=>(f P).calc P
 |_=>none
end Go
namespace Go.Lf
theorem Df {e:Type}{P:Q1}{s:Sem e}: ∀ {a:e},s.calc P=some a-> ∀d,s.run P d= .ok a d:=by
 induction s with
 |pure a=>intro b c d;simp only[Sem.calc,BE] at c;subst c;rfl
 |program f g=>intro b c d;exact g P c d
 |_=>intro b c;simp only[Sem.calc] at c;cases c
def SV {b:Type}(P:Q1)(s:Sem b)(K:b->Prop):Prop:=match s.calc P with|some a=>K a|none=>False
theorem Mm {d:Type}{P:Q1}{s:Sem d}{K:d->Prop}(b:SV P s K): ∃a,(∀ e,s.run P e= .ok a e)/\K a:=by
 unfold SV at b;cases c:s.calc P with
 |none=>rw[c] at b;exact b.elim
 |some a=>rw[c] at b;exact⟨a,Df c,b⟩
def MC:J0->Bool
 | .agg _| .tuple _=>false
 |_=>true
end Go.Lf
namespace Go
open Lf
def Sem.vc {e:Type}(P:Q1):Sem e->aa->(e->aa->Prop)->Prop
 | .pure a,c,K=>K a c
 | .program f,c,K=>(f P).vc P c K
 | .new g f,c,K=>ao c g λb d=>(f b).vc P d K
 | .load _ a f,c,K=>SI c a λv=>(f v).vc P c K
 | .store _ a v f,c,K=>match MC v with|true=>af c a v λd=>f.vc P d K|false=>False
 | .mark _ f,c,K=>f.vc P c K
 |_,_,_=>False
end Go
namespace Go.Lf
theorem sG {c:Type}{A:ar}{P:Q1}{m:Mode}{a:Q6}{v u:J0}{f:Sem c}{b:aa}{n:Nat}(d:MC v=true)(e:ah b a=some u)(g:fZ b a=false):
  (Sem.store m a v f).run P (A.at b n)=f.run P (A.at (dh b a v) n):=by
 have h:(A.at b n).cell? a=some u:=e;have i:(A.at b n).frozen? a=false:=g;cases v<;>first|(simp[MC] at d;done)|(simp[Sem.run,h,i,fE])
theorem AOq {o:Type}{A:ar}{P:Q1}{s:Sem o}: ∀ {d:aa} {K:o->aa->Prop},s.vc P d K-> ∀e,∃v h i,s.run P (A.at d e)= .ok v (A.at h i)/\K v h:=by
 induction s with
 |pure a=>intro d K b e;exact⟨a,d,e,rfl,b⟩
 |program f g=>intro d K b e;exact g P b e
 |mark m f g=>intro d K b e;exact g b e
 |new q f g=>intro d K b e;exact g _ b e
 |load m a f g=>
  intro d K b e;obtain⟨v,r,b⟩:=b;obtain⟨j,h,i,k,l⟩:=g v b e;refine⟨j,h,i,?_,l⟩;simp only[Sem.run,AQu,r];exact k
 |store m a v f g=>
  intro d K b e;unfold Sem.vc at b;cases n:MC v with
  |false=>rw[n] at b;exact b.elim
  |true=>
   rw[n] at b;obtain⟨⟨u,t⟩,w,b⟩:=b;obtain⟨j,h,i,k,l⟩:=g b e;refine⟨j,h,i,?_,l⟩;rw[sG n t w];exact k
 |shape p f _=>intro d K b;exact b.elim
 |freeze a e f _=>intro d K b;exact b.elim
 |frozen a f _=>intro d K b;exact b.elim
 |getObj p f _=>intro d K b;exact b.elim
 |setObj p q f _=>intro d K b;exact b.elim
 |choose y f _=>intro d K b;exact b.elim
 |sys c f _=>intro d K b;exact b.elim
 |halt x=>intro d K b;exact b.elim
inductive Sc where
 |int (k:IntKind)|bool|str|ptr|sl|map|any|jk (k:FloatKind)|jl (k:FloatKind)
def Sc.Ty:Sc->Type
 | .int _=>Int
 | .bool=>Bool
 | .str=>A2P
 | .ptr=>Q2
 | .sl=>Sl
 | .map=>Option Nat
 | .any=>J0
 | .jk _=>Nat
 | .jl _=>Nat×Nat
def Sc.val:(s:Sc)->s.Ty->J0
 | .int c,(a:Int)=> .int c a
 | .bool,(b:Bool)=> .bool b
 | .str,(s:A2P)=> .string s
 | .ptr,(p:Q2)=> .pointer p
 | .sl,(s:Sl)=> .slice s.p s.len s.cap
 | .map,(d:Option Nat)=> .map d
 | .any,(v:J0)=>v
 | .jk c,(a:Nat)=> .float c a
 | .jl c,(a:Nat×Nat)=> .complex c a.1 a.2
def Sc.load(b:aa)(a:Q6):(s:Sc)->(s.Ty->Prop)->Prop
 | .int c,K=>AC c b a K
 | .bool,K=>Ac b a K
 | .str,K=>AJ b a K
 | .ptr,K=>AY b a K
 | .sl,K=>AZ b a K
 | .map,K=>FV b a K
 | .any,K=>SI b a K
 | .jk c,K=>ATd c b a K
 | .jl c,K=>ATm c b a K
theorem Sc.cy {c:aa}{a:Q6}: ∀ {s:Sc} {K:s.Ty->Prop},s.load c a K-> ∃x,ah c a=some (s.val x)/\K x
 | .int _,_,b=>b
 | .bool,_,b=>b
 | .str,_,b=>b
 | .ptr,_,b=>b
 | .sl,_,b=>b
 | .map,_,b=>b
 | .any,_,b=>b
 | .jk _,_,b=>b
 | .jl _,_,b=>b
def pn(b:aa)(a:Q6):Nat->List Sc->(List J0->Prop)->Prop
 |_,[],K=>K []
 |i,s::l,K=>s.load b (a.add i) λx=>pn b a (i+1) l λc=>K (s.val x::c)
def pq:List Sc->(List J0->Prop)->Prop
 | [],K=>K []
 |s::l,K=> ∃x:s.Ty,pq l λa=>K (s.val x::a)
theorem sH: ∀ {l:List Sc} {K:List J0->Prop},pq l K-> ∃b,K b
 | [],_,a=>⟨[],a⟩
 |_::_,_,⟨_,a⟩=>let ⟨b,c⟩:=sH a;⟨_,c⟩
def jM(P:Q1):Nat->Q7->List Sc
 |0,_=> []
 |d+1,t=>
  match P.underlying t with
  |some .bool=> [.bool]
  |some (.int a)=> [.int a]
  |some (.float a)=> [.jk a]
  |some (.complex a)=> [.jl a]
  |some .string=> [.str]
  |some (.pointer _)=> [.ptr]
  |some (.slice _)=> [.sl]
  |some (.map _ _)=> [.map]
  |some (.struct b)=>b.toList.flatMap λf=>jM P d f.type
  |some (.array c e)=>(List.replicate c (jM P d e)).flatten
  |_=> [.any]
def Wt(P:Q1)(t:Q7):Bool:=match P.underlying t with|some (.struct _)=>true|some (.array _ _)=>true|_=>false
mutual
def nf(P:Q1):Nat->Q7->(J0->Prop)->Prop
 |0,_,K=> ∃v,K v
 |d+1,t,K=>
  match P.underlying t with
  |some (.tuple ts)=>ng P d ts.toList λa=>K (.tuple a.toArray)
  |_=>match Wt P t with
   |true=>pq (jM P 20 t) λa=>K (.agg a.toArray)
   |false=>match jM P 20 t with
    | [s]=> ∃x:s.Ty,K (s.val x)
    |_=>False
def ng(P:Q1):Nat->List Q7->(List J0->Prop)->Prop
 |_,[],K=>K []
 |0,_::_,_=>False
 |d+1,t::ts,K=>nf P d t λu=>ng P d ts λa=>K (u::a)
end
theorem APD(P:Q1): ∀b,(∀ (t:Q7) (K:J0->Prop),nf P b t K-> ∃v,K v)/\(∀ (ts:List Q7) (K:List J0->Prop),ng P b ts K-> ∃f,K f):=by
 intro b
 induction b with
 |zero=>
  refine⟨λt K a=>a,λts K a=>?_⟩;cases ts with
  |nil=>exact⟨[],a⟩
  |cons t ts=>exact a.elim
 |succ b c=>
  refine⟨λt K a=>?_,λts K a=>?_⟩
  ·unfold nf at a;split at a
   ·exact let ⟨e,d⟩:=c.2 _ _ a;⟨_,d⟩
   ·split at a
    ·exact let ⟨e,d⟩:=sH a;⟨_,d⟩
    ·split at a
     ·exact let ⟨x,g⟩:=a;⟨_,g⟩
     ·exact a.elim
  ·cases ts with
   |nil=>exact⟨[],a⟩
   |cons t ts=>
    unfold ng at a;obtain⟨u,a⟩:=c.1 _ _ a;obtain⟨e,a⟩:=c.2 _ _ a;exact⟨_,a⟩
def P5(P:Q1)(t:Q7)(v:J0)(K:J0->Prop):Prop:=nf P 8 t λu=>v=u/\K u
theorem PD {P:Q1}{t:Q7}{v:J0}{K:J0->Prop}(a:P5 P t v K):K v:=by obtain⟨u,rfl,a⟩:=(APD P 8).1 _ _ a;exact a
def bR(a b:A2P):Bool:=a.toList==b.toList
def aO(a b:A2P):Bool:=Op.bytesLess a.toList b.toList
def dE(s:A2P)(i:Int):Int:=((s[i.toNat]?).getD 0).toNat
def VS(P:Q1)(t:Q7)(a:Operand):Bool:=
 match P.underlying t with
 |some (.pointer _)=>match a with| .const (.pointer none)=>true|_=>false
 |some (.slice _)=>match a with| .const (.slice none 0 0)=>true|_=>false
 |some (.map _ _)=>match a with| .const (.map none)=>true|_=>false
 |some (.func _ _ _)=>match a with| .const .nilFunc=>true|_=>false
 |some (.interface _)=>match a with| .const .nilIface=>true|_=>false
 |_=>false
def jN:J0->Prop
 | .func .. =>True
 | .nilFunc=>True
 |_=>False
def XH:J0->Bool
 | .nilFunc=>true
 |_=>false
def lF:J0->Prop
 | .iface .. =>True
 | .nilIface=>True
 |_=>False
def ZO:J0->Bool
 | .nilIface=>true
 |_=>false
def lG(P:Q1)(t:Q7)(v:J0)(K:Bool->Prop):Prop:=
 match P.underlying t with
 |some (.pointer _)=>match v with| .pointer p=>K p.isNone|_=>False
 |some (.slice _)=>match v with| .slice p _ _=>K p.isNone|_=>False
 |some (.map _ _)=>match v with| .map a=>K a.isNone|_=>False
 |some (.func _ _ _)=>aI (jN v) (K (XH v))
 |some (.interface _)=>aI (lF v) (K (ZO v))
 |_=>False
def Vz(a:BinOp)(b:Bool):J0:=match a with| .eql=> .bool b|_=> .bool !b
def pw(d:BinOp)(v u:J0)(K:J0->Prop):Prop:=
 match v,u with
 | .int c a,.int e b=>
  match decide (c=e) with
  |true=>match d with
   | .quo=>aI (b≠0) (K (.int c (c.wrap (a.tdiv b))))
   | .rem=>aI (b≠0) (K (.int c (a.tmod b)))
   |_=>False
  |false=>False
 |_,_=>False
def px(d:BinOp)(v u:J0)(K:J0->Prop):Prop:=
 match v,u with
 | .int c a,.int _ b=>
  match d with
  | .shl=>aI (0<=b) (K (.int c (c.wrap (a*2^(min b.toNat c.bits)))))
  | .shr=>aI (0<=b) (K (.int c (a.fdiv (2^(min b.toNat c.bits)))))
  |_=>False
 |_,_=>False
def py(v u:J0)(K:J0->Prop):Prop:=
 match v,u with
 | .string a,.string b=>aI (((a.size+b.size:Nat):Int)<=IntKind.i64.max) (K (.string (a++b)))
 |_,_=>False
inductive ASt where
 |ey|div|shift|cat|jm|jn|no
def isConst:Operand->Bool
 | .const _=>true
 |_=>false
def Uh(P:Q1)(b:BinOp)(t:Q7)(x a:Operand):ASt:=
 match b with
 | .quo| .rem=>match P.underlying t with|some (.int _)=>(match isConst a with|true=> .ey|false=> .div)|_=> .no
 | .shl| .shr=>match isConst a with|true=> .ey|false=> .shift
 | .add=>match P.underlying t with|some .string=> .cat|some (.int _)=> .ey|_=> .no
 | .eql| .neq=>
  match P.underlying t with
  |some (.int _)=> .ey
  |some .string=> .ey
  |some .bool=> .ey
  |some (.pointer _)|some (.slice _)|some (.map _ _)|some (.func _ _ _)|some (.interface _)=>(match VS P t a with|true=> .jm|false=>match VS P t x with|true=> .jn|false=> .no)
  |_=> .no
 |_=>match P.underlying t with|some (.int _)=> .ey|some .string=> .ey|_=> .no
def pz(P:Q1)(a:BinOp)(t:Q7)(x c:Operand)(v u:J0)(K:J0->Prop):Prop:=
 match Uh P a t x c with
 | .ey=>SV P (do eqGuard a t x c v u;binOp a t v u) K
 | .div=>pw a v u K
 | .shift=>px a v u K
 | .cat=>py v u K
 | .jm=>lG P t v λb=>K (Vz a b)
 | .jn=>lG P t u λb=>K (Vz a b)
 | .no=>False
def pA(P:Q1)(t:Q7)(v i:J0)(K:J0->Prop):Prop:=
 match P.underlying t with
 |some (.slice c)=>match v,i,P.info? c with
  | .slice p len _,.int _ b,some d=>bJ p len b λa=>K (.pointer (some (a.add (b.toNat*d.size))))
  |_,_,_=>False
 |some (.array len c)=>match v,i,P.info? c with
  | .pointer p,.int _ b,some d=>At p λa=>aI (0<=b/\b<(len:Int)) (K (.pointer (some (a.add (b.toNat*d.size)))))
  |_,_,_=>False
 |_=>False
def pB(P:Q1)(t:Q7)(v i:J0)(K:J0->Prop):Prop:=
 match P.underlying t with
 |some .string=>match v,i with
  | .string s,.int _ a=>aI (0<=a/\a<(s.size:Int)) (K (.int .u8 (dE s a)))
  |_,_=>False
 |some (.array _ _)=>SV P (Instr.index t v i) K
 |_=>False
def gL(x:Option J0)(b max:Nat)(K:Nat->Prop):Prop:=
 match x with
 |some (.int _ a)=>aI (0<=a/\a<=(max:Int)) (K a.toNat)
 |none=>K b
 |_=>False
def BB(p:Q2)(a l b:Nat):Q2:=if a=l then p else p.map (·.add (l*b))
def pC(P:Q1)(t:Q7)(v:J0)(d e:Option J0)(K:J0->Prop):Prop:=
 match P.underlying t with
 |some .string=>match v with
  | .string s=>gL e s.size s.size λb=>gL d 0 b λl=>K (.string (s.extract l b))
  |_=>False
 |some (.slice f)=>match v,P.info? f with
  | .slice p len g,some h=>gL e len g λb=>gL d 0 b λl=>K (.slice (BB p g l h.size) (b-l) (g-l))
  |_,_=>False
 |some (.array c f)=>match v,P.info? f with
  | .pointer p,some h=>At p λa=>gL e c c λb=>gL d 0 b λl=>K (.slice (some (if c=l then a else a.add (l*h.size))) (b-l) (c-l))
  |_,_=>False
 |_=>False
def pD(P:Q1)(t:Q7)(v:J0)(c d:Option J0)(e:J0)(K:J0->Prop):Prop:=
 match P.underlying t with
 |some (.slice f)=>match v,P.info? f,d,e with
  | .slice p _ g,some h,some (.int _ b),.int _ a=>aI (0<=a/\a<=(g:Int)) (aI (0<=b/\b<=(a.toNat:Int)) (gL c 0 b.toNat λl=>K (.slice (BB p a.toNat l h.size) (b.toNat-l) (a.toNat-l))))
  |_,_,_,_=>False
 |_=>False
def pE(c:Bool)(a b:Option J0)(K:J0->Prop):Prop:=
 match a,b with
 |some (.bool x),some (.bool d)=>K (.bool (cond c x d))
 |some x,some d=>ag c (K x) (K d)
 |some x,none=>ag c (K x) False
 |none,some d=>ag c False (K d)
 |none,none=>False
def sI(v:J0)(K:J0->Prop):Prop:=
 match v with
 | .pointer p=>At p λa=>K (.pointer (some a))
 |_=>False
def lH(a:Env)(x:Option Operand)(K:Option J0->Prop):Prop:=match x with|none=>K none|some x=>rd a x λv=>K (some v)
def Yx(b:Bool)(K:Prop):Prop:=match b with|true=>K|false=>False
def lI(P:Q1)(t:Q7)(v:J0)(K:Array J0->Prop):Prop:=
 match Wt P t with
 |true=>K v.cells
 |false=>Yx (MC v) (K #[v])
theorem AKe {v:J0}(a:MC v=true):v.cells= #[v]:=by cases v<;>first|rfl|(simp[MC] at a)
theorem RA {P:Q1}{t:Q7}{v:J0}{K:Array J0->Prop}(a:lI P t v K):K v.cells:=by
 unfold lI at a;split at a
 ·exact a
 ·cases b:MC v with
  |false=>rw[b] at a;exact a.elim
  |true=>rw[b] at a;rw[AKe b];exact a
def kJ(b:Nat->Option (Nat×Nat))(cells:Array J0):List (Nat×Array J0)->Option (Array J0)
 | []=>some cells
 |(i,a)::rest=>
  match b i with
  |none=>none
  |some (off,d)=>
   if a.size≠d||off+a.size>cells.size then none
   else kJ b (a.zipIdx.foldl (λe (c,f)=>e.setIfInBounds (off+f) c) cells) rest
theorem ni(a:Nat->Option (Nat×Nat)): ∀(l:List (Nat×J0)) (cells:Array J0),Instr.fill a cells l=kJ a cells (l.map λp=>(p.1,p.2.cells))
 | [],cells=>rfl
 |(i,v)::rest,cells=>by
  simp only[Instr.fill,B9,kJ];cases a i with
  |none=>rfl
  |some p=>obtain⟨off,b⟩:=p;simp only[];split<;>first|rfl|exact ni a rest _
def ASg(P:Q1)(t:Q7)(i:Nat):Option Q7:=
 match P.underlying t with
 |some (.struct b)=>(b[i]?).map (·.type)
 |some (.array _ a)=>some a
 |some (.slice a)=>some a
 |_=>none
def lJ(P:Q1)(t:Q7)(a:Env):List (Nat×Operand)->(List (Nat×Array J0)->Prop)->Prop
 | [],K=>K []
 |(i,x)::b,K=>match ASg P t i with
  |some ft=>rd a x λv=>lI P ft v λc=>lJ P t a b λl=>K ((i,c)::l)
  |none=>False
def placesOf(P:Q1):List Field->Option (List (Nat×Nat))
 | []=>some []
 |f::a=>match P.info? f.type with
  |some i=>match placesOf P a with
   |some l=>some ((f.offset,i.size)::l)
   |none=>none
  |none=>none
def pF(P:Q1)(t:Q7)(a:List (Nat×Array J0)):Option (Array J0):=
 match P.info? t with
 |some i=>match i.zero with
  |some z=>match P.underlying t with
   |some (.struct c)=>match placesOf P c.toList with
    |some l=>kJ (l.toArray[·]?) z.cells a
    |none=>none
   |some (.array _ d)=>match P.info? d with
    |some b=>kJ (λe=>some (e*b.size,b.size)) z.cells a
    |none=>none
   |_=>none
  |none=>none
 |none=>none
def ASC(P:Q1)(t:Q7)(a:Array (Nat×Operand))(b:Env)(K:J0->Prop):Prop:=
 lJ P t b a.toList λl=>match pF P t l with|some cells=>K (.agg cells)|none=>False
def nj(P:Q1)(e:Oper)(d:Env)(K:J0->Prop):Prop:=
 match e.op with
 | .nilCheck x=>rd d x λv=>sI v K
 | .binOp k t x g _=>rd d x λv=>rd d g λu=>pz P k t x g v u K
 | .indexAddr t x i=>rd d x λv=>rd d i λu=>pA P t v u K
 | .index t x i=>rd d x λv=>rd d i λu=>pB P t v u K
 | .slice t x h j n=>match n with
  |none=>rd d x λv=>lH d h λl=>lH d j λf=>pC P t v l f K
  |some m=>rd d x λv=>lH d h λl=>lH d j λf=>rd d m λo=>pD P t v l f o K
 | .pick c a b=>rd d c λv=>match v with| .bool c=>pE c (rdv d a) (rdv d b) K|_=>False
 | .build t q=>ASC P t q d K
 | .fieldAddr t x i=>rd d x λv=>match v with| .pointer p=>At p λa=>SV P (Instr.fieldAt t (.pointer (some a)) i) K|_=>False
 |_=>known d e.op.operands.toList (SV P (execOp (ρof d) e) λx=>match x with| .value v=>K v|_=>False)
theorem At.mk {p:Q2}{K:Q6->Prop}(b:At p K): ∃a,p=some a/\K a:=by
 cases p with
 |none=>exact b.elim
 |some a=>exact⟨a,rfl,b⟩
theorem iY {P:Q1}{s:Sem J0}{v:J0}{w a:World}(b:s.run P w= .ok v a):(do pure (.value (<- s)):Sem Next).run P w= .ok (.value v) a:=by rw[Sem.run_bind,b];rfl
theorem ATi {P:Q1}{s:Sem Unit}{w a:World}(b:s.run P w= .ok () a):(do s;pure .skip:Sem Next).run P w= .ok .skip a:=by rw[Sem.run_bind,b];rfl
section
variable {P : Q1} {w : World}
theorem BM {t:Q7}{a:TypeDesc}(b:P.underlying t=some a):(underlying t).run P w= .ok a w:=run_underlying b w
theorem sJ {t:Q7}{i:TypeInfo}(a:P.info? t=some i):(typeInfo t).run P w= .ok i w:=by simp[typeInfo,a]
theorem run_sizeOf {t:Q7}{i:TypeInfo}(a:P.info? t=some i):(sizeOf t).run P w= .ok i.size w:=by simp[sizeOf,sJ a]
def UC(P:Q1)(t:Q7):Option J0:=
 match P.underlying t with
 |some (.pointer _)=>some (.pointer none)
 |some (.slice _)=>some (.slice none 0 0)
 |some (.map _ _)=>some (.map none)
 |some (.func _ _ _)=>some .nilFunc
 |some (.interface _)=>some .nilIface
 |_=>none
theorem Xm {t:Q7}{b:Operand}(a:VS P t b=true): ∃u,b= .const u/\UC P t=some u:=by unfold VS at a;unfold UC;split at a<;>first|(cases a;done)|(split at a<;>first|(cases a;done)|exact⟨_,rfl,rfl⟩)
theorem AGM(g:Nat){t:Q7}{v u:J0}{K:Bool->Prop}(c:lG P t v K)(d:UC P t=some u):
  ∃b,(∀ w,(Op.equalIn (g+1) t v u).run P w= .ok b w)/\(∀ w,(Op.equalIn (g+1) t u v).run P w= .ok b w)/\K b:=by
 unfold lG at c;unfold UC at d;cases e:P.underlying t with
 |none=>rw[e] at c;exact c.elim
 |some i=>
  rw[e] at c d;cases i<;>simp only[] at c d<;>try exact c.elim
  case pointer h=>
   simp only[BE] at d;subst d;cases v<;>simp only[] at c<;>try exact c.elim
   case pointer p=>
    refine⟨_,λw=>?_,λw=>?_,c⟩
    ·cases p<;>simp[Op.equalIn,BM e]
    ·cases p<;>simp[Op.equalIn,BM e]
  case slice h=>
   simp only[BE] at d;subst d;cases v<;>simp only[] at c<;>try exact c.elim
   case slice p a b=>
    refine⟨_,λw=>?_,λw=>?_,c⟩
    ·cases p<;>simp[Op.equalIn,BM e]
    ·cases p<;>simp[Op.equalIn,BM e]
  case map j h=>
   simp only[BE] at d;subst d;cases v<;>simp only[] at c<;>try exact c.elim
   case map p=>
    refine⟨_,λw=>?_,λw=>?_,c⟩
    ·cases p<;>simp[Op.equalIn,BM e]
    ·cases p<;>simp[Op.equalIn,BM e]
  case func ps k l=>
   simp only[BE] at d;subst d;obtain⟨f,c⟩:=c;cases v<;>simp only[jN] at f
   ·refine⟨_,λw=>?_,λw=>?_,c⟩<;>simp[Op.equalIn,BM e,XH]
   ·refine⟨_,λw=>?_,λw=>?_,c⟩<;>simp[Op.equalIn,BM e,XH]
  case interface m=>
   simp only[BE] at d;subst d;obtain⟨f,c⟩:=c;cases v<;>simp only[lF] at f
   ·refine⟨_,λw=>?_,λw=>?_,c⟩<;>simp[Op.equalIn,BM e,ZO]
   ·refine⟨_,λw=>?_,λw=>?_,c⟩<;>simp[Op.equalIn,BM e,ZO]
end
section
variable {P : Q1}
def PR(P:Q1)(s:Sem J0)(K:J0->Prop):Prop:= ∃v,(∀ a,s.run P a= .ok v a)/\K v
theorem AEq {N:Nat}{a:Act}{c:Env}(f:Fits N a c){o:Oper}{K:J0->Prop}(g:JU o)
  (h:known c o.op.operands.toList (SV P (execOp (ρof c) o) λx=>match x with| .value v=>K v|_=>False)):
  ∃v,(∀ d,(execOp a.eval o).run P d= .ok (.value v) d)/\K v:=by
 obtain⟨i,j⟩:=KS f h;obtain⟨x,b,e⟩:=Mm j;rw[execOp_congr o g (λx b=>i x (by simpa using b))] at b;cases x<;>simp only[] at e
 exact⟨_,b,e⟩
theorem AMy {d:BinOp}{t:Q7}{x g:Operand}{v u:J0}{K:J0->Prop}(h:d= .quo\/d= .rem)(c:pw d v u K):PR P (do eqGuard d t x g v u;binOp d t v u) K:=by
 unfold pw at c;cases v<;>cases u<;>simp only[] at c<;>try exact c.elim
 rename_i i a j b;by_cases f:i=j
 ·subst f;rcases h with rfl|rfl
  ·simp only[decide_true] at c;obtain⟨e,c⟩:=c;exact⟨_,λk=>by simp[eqGuard,binOp,Op.intDiv,e],c⟩
  ·simp only[decide_true] at c;obtain⟨e,c⟩:=c;exact⟨_,λk=>by simp[eqGuard,binOp,Op.intDiv,e],c⟩
 ·rw[decide_eq_false f] at c;exact c.elim
theorem AP9 {b:BinOp}{t:Q7}{x d:Operand}{v u:J0}{K:J0->Prop}(e:b= .shl\/b= .shr)(a:px b v u K):PR P (do eqGuard b t x d v u;binOp b t v u) K:=by
 unfold px at a;cases v<;>cases u<;>simp only[] at a<;>try exact a.elim
 rcases e with rfl|rfl
 ·simp only[] at a;obtain⟨c,a⟩:=a;exact⟨_,λf=>by simp[eqGuard,binOp,Op.shift,Int.not_lt.2 c],a⟩
 ·simp only[] at a;obtain⟨c,a⟩:=a;exact⟨_,λf=>by simp[eqGuard,binOp,Op.shift,Int.not_lt.2 c],a⟩
theorem ANW {t:Q7}{x b:Operand}{v u:J0}{K:J0->Prop}(a:py v u K):PR P (do eqGuard .add t x b v u;binOp .add t v u) K:=by
 unfold py at a;cases v<;>cases u<;>simp only[] at a<;>try exact a.elim
 obtain⟨c,a⟩:=a;refine⟨_,λe=>?_,a⟩;have d: ¬(((_:A2P).size+(_:A2P).size:Nat):Int)>IntKind.i64.max:=Int.not_lt.2 c;simp only[eqGuard,binOp,Op.stringOp,if_neg d];rfl
theorem sK {t:Q7}{v u:J0}{K:Bool->Prop}(c:lG P t v K)(d:UC P t=some u):
  ∃b,(∀ a,(Op.equal t v u).run P a= .ok b a)/\(∀ a,(Op.equal t u v).run P a= .ok b a)/\K b:=AGM 9999 c d
theorem binOp_eql {a:BinOp}{t:Q7}{v u:J0}{b:Bool}(g:a= .eql\/a= .neq)(c:UC P t=some u){d:World}(e:(Op.equal t v u).run P d= .ok b d):
  (binOp a t v u).run P d= .ok (Vz a b) d/\True:=by
 have f:u= .pointer none\/u= .slice none 0 0\/u= .map none\/u= .nilFunc\/u= .nilIface:=by unfold UC at c;split at c<;>simp at c<;>subst c<;>simp
 refine⟨?_,trivial⟩;rcases g with rfl|rfl
 ·rcases f with rfl|rfl|rfl|rfl|rfl<;>cases v<;>simp[binOp,e,Vz]
 ·rcases f with rfl|rfl|rfl|rfl|rfl<;>cases v<;>simp[binOp,e,Vz]
theorem AJl {a:BinOp}{t:Q7}{v u:J0}{b:Bool}(g:a= .eql\/a= .neq)(c:UC P t=some u){d:World}(e:(Op.equal t u v).run P d= .ok b d):
  (binOp a t u v).run P d= .ok (Vz a b) d/\True:=by
 have f:u= .pointer none\/u= .slice none 0 0\/u= .map none\/u= .nilFunc\/u= .nilIface:=by unfold UC at c;split at c<;>simp at c<;>subst c<;>simp
 refine⟨?_,trivial⟩;rcases g with rfl|rfl
 ·rcases f with rfl|rfl|rfl|rfl|rfl<;>cases v<;>simp[binOp,e,Vz]
 ·rcases f with rfl|rfl|rfl|rfl|rfl<;>cases v<;>simp[binOp,e,Vz]
theorem sL {b:BinOp}{t:Q7}{x e:Operand}{v u:J0}{d:World}(f:b= .eql\/b= .neq)(a:UC P t=some u)(g:(∃ c,x= .const c)\/(∃ c,e= .const c)):
  (eqGuard b t x e v u).run P d= .ok () d/\(eqGuard b t x e u v).run P d= .ok () d:=by
 have h:u= .pointer none\/u= .slice none 0 0\/u= .map none\/u= .nilFunc\/u= .nilIface:=by unfold UC at a;split at a<;>simp at a<;>subst a<;>simp
 clear a;rcases f with rfl|rfl<;>rcases g with⟨c,rfl⟩|⟨c,rfl⟩<;>rcases h with rfl|rfl|rfl|rfl|rfl<;>cases v<;>exact⟨by simp[eqGuard],by simp[eqGuard]⟩
theorem ANb {d:BinOp}{t:Q7}{x h:Operand}{v u:J0}{K:J0->Prop}(n: ∀c,x= .const c->v=c)(o: ∀c,h= .const c->u=c)(e:pz P d t x h v u K):
  PR P (do eqGuard d t x h v u;binOp d t v u) K:=by
 unfold pz at e;cases a:Uh P d t x h with
 |ey=>rw[a] at e;exact Mm e
 |no=>rw[a] at e;exact e.elim
 |div=>
  rw[a] at e;refine AMy ?_ e;unfold Uh at a;cases d<;>simp only[] at a<;>first|exact .inl rfl|exact .inr rfl|(exfalso;split at a<;>first|(cases a;done)|(split at a<;>first|(cases a;done)|(split at a<;>cases a)))
 |shift=>
  rw[a] at e;refine AP9 ?_ e;unfold Uh at a;cases d<;>simp only[] at a<;>first|exact .inl rfl|exact .inr rfl|(exfalso;split at a<;>first|(cases a;done)|(split at a<;>first|(cases a;done)|(split at a<;>cases a)))
 |cat=>
  rw[a] at e;have:d= .add:=by unfold Uh at a;cases d<;>simp only[] at a<;>first|rfl|(exfalso;split at a<;>first|(cases a;done)|(split at a<;>first|(cases a;done)|(split at a<;>cases a)))
  subst this;exact ANW e
 |jm=>
  rw[a] at e;have f:(d= .eql\/d= .neq)/\VS P t h=true:=by
   unfold Uh at a;cases d<;>simp only[] at a<;>first
    |(refine⟨.inl rfl,?_⟩;split at a<;>first|(cases a;done)|(split at a<;>first|assumption|(split at a<;>cases a)))
    |(refine⟨.inr rfl,?_⟩;split at a<;>first|(cases a;done)|(split at a<;>first|assumption|(split at a<;>cases a)))
    |(exfalso;split at a<;>first|(cases a;done)|(split at a<;>first|(cases a;done)|(split at a<;>cases a)))
  obtain⟨f,i⟩:=f;obtain⟨c,l,g⟩:=Xm i;have:=o c l;subst this;obtain⟨b,p,_,j⟩:=sK e g;refine⟨Vz d b,λk=>?_,j⟩;rw[Sem.run_bind,(sL f g (.inr ⟨_,l⟩)).1];exact(binOp_eql f g (p k)).1
 |jn=>
  rw[a] at e;have f:(d= .eql\/d= .neq)/\VS P t x=true:=by
   unfold Uh at a;cases d<;>simp only[] at a<;>first
    |(refine⟨.inl rfl,?_⟩;split at a<;>first|(cases a;done)|(split at a<;>first|(cases a;done)|(split at a<;>first|assumption|(cases a;done))))
    |(refine⟨.inr rfl,?_⟩;split at a<;>first|(cases a;done)|(split at a<;>first|(cases a;done)|(split at a<;>first|assumption|(cases a;done))))
    |(exfalso;split at a<;>first|(cases a;done)|(split at a<;>first|(cases a;done)|(split at a<;>cases a)))
  obtain⟨f,i⟩:=f;obtain⟨c,m,g⟩:=Xm i;have:=n c m;subst this;obtain⟨b,_,q,j⟩:=sK e g;refine⟨Vz d b,λk=>?_,j⟩;rw[Sem.run_bind,(sL f g (.inl ⟨_,m⟩)).2];exact(AJl f g (q k)).1
end
section
variable {P : Q1}
theorem AEO {t:Q7}{v i:J0}{K:J0->Prop}(b:pA P t v i K):PR P (Instr.indexAt t v i) K:=by
 unfold pA at b;split at b
 ·rename_i h d;split at b
  ·rename_i p len c j k l e;obtain⟨a,rfl,⟨f,g⟩,b⟩:=b;refine⟨_,λm=>?_,b⟩;simp[Instr.indexAt,asIntOf,BM d,run_sizeOf e,f,g]
  ·exact b.elim
 ·rename_i len h d;split at b
  ·rename_i p j k l e;obtain⟨a,rfl,b⟩:=At.mk b;obtain⟨⟨f,g⟩,b⟩:=b;refine⟨_,λm=>?_,b⟩;simp[Instr.indexAt,asIntOf,BM d,run_sizeOf e,f,g,Instr.sureAddr]
  ·exact b.elim
 ·exact b.elim
theorem AIP {t:Q7}{v i:J0}{K:J0->Prop}(a:pB P t v i K):PR P (Instr.index t v i) K:=by
 unfold pB at a;split at a
 ·rename_i c;split at a
  ·rename_i s g b;obtain⟨⟨d,h⟩,a⟩:=a;refine⟨_,λj=>?_,a⟩;have e:b.toNat<s.size:=by omega
   have f:s[b.toNat]? =some s[b.toNat]:=by simp[e]
   simp[Instr.index,asIntOf,BM c,d,f,dE]
  ·exact a.elim
 ·exact Mm a
 ·exact a.elim
theorem Ux {x:Option J0}{d max:Nat}{K:Nat->Prop}(a:gL x d max K):
  (x=none/\K d)\/ ∃c b,x=some (.int c b)/\0<=b/\b<=(max:Int)/\K b.toNat:=by
 unfold gL at a;split at a
 ·rename_i c b;obtain⟨⟨e,f⟩,a⟩:=a;exact .inr ⟨c,b,rfl,e,f,a⟩
 ·exact .inl ⟨rfl,a⟩
 ·exact a.elim
theorem run_sliceBound {d:IntKind}{a:Int}{b:Nat}{e:BoundsCode}(f:0<=a)(g:a<=(b:Int))(c:World):
  (Instr.sliceBound (.int d a) b e).run P c= .ok a.toNat c:=by
 simp[Instr.sliceBound,asIntOf,f,g]
theorem NR {b:Bool}{len g:Nat}{k m:Option J0}{K:Nat->Nat->Prop}
  (p:gL m len g λe=>gL k 0 e λl=>K l e): ∃l e,(∀ d,(Instr.sliceBounds b len g k m none).run P d= .ok (l,e,g) d)/\K l e:=by
 obtain⟨f,h⟩|⟨s,t,f,n,o,h⟩:=Ux p
 ·obtain⟨a,c⟩|⟨q,r,a,i,j,c⟩:=Ux h
  ·exact⟨_,_,λd=>by simp[Instr.sliceBounds,f,a],c⟩
  ·exact⟨_,_,λd=>by simp[Instr.sliceBounds,f,a,run_sliceBound i j],c⟩
 ·obtain⟨a,c⟩|⟨q,r,a,i,j,c⟩:=Ux h
  ·exact⟨_,_,λd=>by simp[Instr.sliceBounds,f,a,run_sliceBound n o],c⟩
  ·exact⟨_,_,λd=>by simp[Instr.sliceBounds,f,a,run_sliceBound n o,run_sliceBound i j],c⟩
theorem AIB {t:Q7}{v:J0}{g h:Option J0}{K:J0->Prop}(c:pC P t v g h K):PR P (Instr.sliceAt t v g h none) K:=by
 unfold pC at c;split at c
 ·rename_i d;split at c
  ·rename_i s;obtain⟨l,i,e,c⟩:=NR (P:=P) (b:=false) c;refine⟨_,λj=>?_,c⟩;simp[Instr.sliceAt,Instr.slice,BM d,e]
  ·exact c.elim
 ·rename_i k d;split at c
  ·rename_i p len o m f;obtain⟨l,i,e,c⟩:=NR (P:=P) (b:=true) c;refine⟨_,λj=>?_,c⟩;simp[Instr.sliceAt,Instr.slice,BM d,e,run_sizeOf f,BB]
  ·exact c.elim
 ·rename_i q k d;split at c
  ·rename_i p m f;obtain⟨a,rfl,n⟩:=At.mk c;obtain⟨l,i,e,c⟩:=NR (P:=P) (b:=false) n;refine⟨_,λj=>?_,c⟩;simp[Instr.sliceAt,BM d,e,run_sizeOf f,Instr.sureAddr]
  ·exact c.elim
 ·exact c.elim
theorem AGy {t:Q7}{v d:J0}{e f:Option J0}{K:J0->Prop}(a:pD P t v e f d K):PR P (Instr.sliceAt t v e f (some d)) K:=by
 unfold pD at a;split at a
 ·rename_i q g;split at a
  ·rename_i p len r s u w b x h;obtain⟨⟨i,j⟩,⟨k,l⟩,a⟩:=a;obtain⟨c,b⟩|⟨y,z,c,m,n,b⟩:=Ux a
   ·refine⟨_,λo=>?_,b⟩;simp[Instr.sliceAt,Instr.slice,Instr.sliceBounds,BM g,run_sizeOf h,BB,c,run_sliceBound i j,run_sliceBound k l]
   ·refine⟨_,λo=>?_,b⟩;simp[Instr.sliceAt,Instr.slice,Instr.sliceBounds,BM g,run_sizeOf h,BB,c,run_sliceBound i j,run_sliceBound k l,run_sliceBound m n]
  ·exact a.elim
 ·exact a.elim
theorem ag.mk {b:Bool}{c d:Prop}(a:ag b c d):(b=true->c)/\(b=false->d):=by
 cases b
 ·exact⟨λa=>(by cases a),λ_=>a⟩
 ·exact⟨λ_=>a,λa=>(by cases a)⟩
theorem AJn {c:Bool}{a b:Option J0}{va vb:J0}(e: ∀v,a=some v->va=v)(f: ∀v,b=some v->vb=v){K:J0->Prop}(d:pE c a b K):
  K (if c then va else vb):=by
 unfold pE at d;split at d
 ·rename_i x g;rw[e _ rfl,f _ rfl];cases c<;>exact d
 ·rename_i x g _;rw[e _ rfl,f _ rfl];cases c<;>exact d
 ·rename_i x;rw[e _ rfl];cases c
  ·exact d.elim
  ·exact d
 ·rename_i g;rw[f _ rfl];cases c
  ·exact d
  ·exact d.elim
 ·exact d.elim
theorem RQ {N:Nat}{a:Act}{b:Env}(d:Fits N a b){x:Option Operand}{K:Option J0->Prop}(c:lH b x K):K (x.map a.eval):=by
 cases x with
 |none=>exact c
 |some x=>exact BX d c
theorem Rv {N:Nat}{a:Act}{c:Env}(d:Fits N a c){t:Q7}: ∀ {l:List (Nat×Operand)} {K:List (Nat×Array J0)->Prop},lJ P t c l K->K (l.map λp=>(p.1,(a.eval p.2).cells))
 | [],K,b=>b
 |(i,x)::g,K,b=>by
  unfold lJ at b;split at b
  ·have e:=RA (BX d b);have f:=Rv d e;exact f
  ·exact b.elim
theorem uf: ∀(a:List Field),placesOf P a=a.mapM (λf=>(P.info? f.type).map λi=>(f.offset,i.size))
 | []=>rfl
 |f::b=>by
  simp only[placesOf,PA,Option.bind_eq_bind,Option.pure_def,uf b];cases P.info? f.type with
  |none=>rfl
  |some i=>simp only[HP,PB];cases b.mapM (λf=>(P.info? f.type).map λi=>(f.offset,i.size))<;>rfl
theorem AKw {t:Q7}{b:Array (Nat×J0)}{cells:Array J0}(a:pF P t (b.toList.map λp=>(p.1,p.2.cells))=some cells)(c:World):
  (Instr.build t b).run P c= .ok (.agg cells) c:=by
 unfold pF at a;split at a
 ·rename_i j e;split at a
  ·rename_i z f;split at a
   ·rename_i k d;split at a
    ·rename_i l g;rw[<- ni] at a;rw[uf] at g;have h:Instr.fill (λx=>l[x]?) z.cells b.toList=some cells:=by simpa using a
     simp[Instr.build,run_underlying d,typeInfo,zeroValue,e,f,Wc,run_places c _ _ g,h]
    ·cases a
   ·rename_i m n d;split at a
    ·rename_i o i;rw[<- ni] at a;simp[Instr.build,run_underlying d,sizeOf,typeInfo,zeroValue,e,f,i,a]
    ·cases a
   ·cases a
  ·cases a
 ·cases a
theorem ug {N:Nat}{a:Act}{n:Env}(e:Fits N a n){o:Oper}{K:J0->Prop}(r:JU o)(d:nj P o n K):
  ∃v,(∀ g,(execOp a.eval o).run P g= .ok (.value v) g)/\K v:=by
 have lift: ∀ {s:Sem J0},PR P s K->(execOp a.eval o=do pure (.value (<- s)))-> ∃v,(∀ g,(execOp a.eval o).run P g= .ok (.value v) g)/\K v:=by intro s ⟨v,j,u⟩ w;exact⟨v,λg=>by rw[w];exact iY (j g),u⟩
 have y:=AEq (P:=P) e (o:=o) (K:=K) r;unfold nj at d;cases f:o.op
 case nilCheck x=>
  rw[f] at d;have d:=BX e d;unfold sI at d;cases k:a.eval x<;>rw[k] at d<;>simp only[] at d
  rename_i p;obtain⟨b,rfl,d⟩:=At.mk d;exact⟨_,λg=>by simp[execOp,f,k],d⟩
 case binOp A t x q t'=>
  rw[f] at d;have d:=BX e (BX e d);refine lift (ANb (λc h=>by subst h;rfl) (λc h=>by subst h;rfl) d) ?_;simp[execOp,f]
 case indexAddr t x i=>
  rw[f] at d;have d:=BX e (BX e d);refine lift (AEO d) ?_;simp[execOp,f]
 case index t x i=>
  rw[f] at d;have d:=BX e (BX e d);refine lift (AIP d) ?_;simp[execOp,f]
 case slice t x B C z=>
  rw[f] at d;cases z with
  |some m=>
   have d:=BX e (RQ e (RQ e (BX e d)));refine lift (AGy d) ?_;simp[execOp,f]
  |none=>
   have d:=RQ e (RQ e (BX e d));refine lift (AIB d) ?_;simp[execOp,f]
 case build t D=>
  rw[f] at d;have d:=Rv e d;split at d
  ·rename_i cells h;refine⟨_,λg=>?_,d⟩;simp only[execOp,f];refine iY (AKw ?_ g);rw[<- h];congr 1;simp
  ·exact d.elim
 case pick c x q=>
  rw[f] at d;have d:=BX e d;cases h:a.eval c<;>rw[h] at d<;>simp only[] at d
  rename_i b;have d:=AJn (va:=a.eval x) (vb:=a.eval q) (λv j=>e.rdv j) (λv j=>e.rdv j) d;exact⟨_,λg=>by simp[execOp,f,h,asBool],d⟩
 case fieldAddr t x i=>
  rw[f] at d;have d:=BX e d;cases k:a.eval x<;>rw[k] at d<;>simp only[] at d
  obtain⟨b,rfl,l⟩:=At.mk d;clear d;unfold SV at l;split at l
  ·rename_i v h;exact⟨v,λg=>by simp only[execOp,f,k];exact iY (Df h g),l⟩
  ·exact l.elim
 all_goals (rw[f] at d;simp only[] at d;rw[<- f] at d;exact y d)
def Mo(b:aa)(a:Q6):Nat->List J0->Prop
 |_,[]=>True
 |i,[v]=>ah b (a.add i)=some v
 |i,v::c=>ah b (a.add i)=some v/\Mo b a (i+1) c
def loadT(P:Q1)(t:Q7)(c:aa)(a:Q6)(K:J0->(aa->Prop)->Prop):Prop:=
 match Wt P t with
 |true=>match P.info? t with
  |some i=>match Nat.beq (jM P 20 t).length i.size with
   |true=>pn c a 0 (jM P 20 t) λd=>K (.agg d.toArray) (λb=>Mo b a 0 d)
   |false=>False
  |none=>False
 |false=>match P.underlying t with
  |some _=>match jM P 20 t with
   | [s]=>s.load c a λx=>K (s.val x) (λb=>ah b a=some (s.val x))
   |_=>False
  |none=>False
def nE(P:Q1)(b:Oper)(c:Env)(d:aa)(K:J0->(aa->Prop)->Prop):Prop:=
 match b.op with
 | .load t x=>rd c x λv=>match v with
  | .pointer p=>At p λa=>loadT P t d a K
  |_=>False
 |_=>False
theorem Vt {b:aa}{a:Q6}{i:Nat}{v:J0}{c:List J0}:Mo b a i (v::c)↔ah b (a.add i)=some v/\Mo b a (i+1) c:=by
 cases c with
 |nil=>simp[Mo]
 |cons u d=>simp[Mo]
theorem Vu {d:aa}{a:Q6}: ∀ {l:List Sc} {i:Nat} {K:List J0->Prop},pn d a i l K-> ∃c,c.length=l.length/\Mo d a i c/\K c
 | [],_,_,b=>⟨[],rfl,trivial,b⟩
 |s::l,i,K,b=>by
  obtain⟨x,e,b⟩:=Sc.cy b;obtain⟨c,f,g,b⟩:=Vu b;exact⟨s.val x::c,by simp[f],Vt.2 ⟨e,g⟩,b⟩
theorem run_loadCellsFrom {A:ar}{b:aa}{a:Q6}{n:Nat}: ∀ {c:List J0} {i:Nat} {acc:Array J0},Mo b a i c->
  (loadCellsFrom a i c.length acc).run P (A.at b n)= .ok (acc++c.toArray) (A.at b n)
 | [],_,acc,_=>by simp[loadCellsFrom]
 |v::c,i,acc,d=>by
  obtain⟨e,f⟩:=Vt.1 d;have g:=run_loadCellsFrom (A:=A) (n:=n) (acc:=acc.push v) f;have h:(load (a.add i)).run P (A.at b n)= .ok v (A.at b n):=by have j:(A.at b n).cell? (a.add i)=some v:=e;simp[load,Sem.run,j]
  simp only[A5,loadCellsFrom,Sem.run_bind,h,Result.andThen_ok,g];simp
theorem uh {t:Q7}{b:World}(c: ∃a,P.underlying t=some a):(isAgg t).run P b= .ok (Wt P t) b:=by obtain⟨a,hd⟩:=c;unfold isAgg Wt;rw[hd];cases a<;>simp[BM hd]
theorem ui {A:ar}{t:Q7}{i:aa}{a:Q6}{K:J0->(aa->Prop)->Prop}(b:loadT P t i a K):
  ∃v st,(∀ c,st c-> ∀n,(loadVar t a).run P (A.at c n)= .ok v (A.at c n))/\st i/\K v st:=by
 unfold loadT at b;cases d:Wt P t with
 |true=>
  rw[d] at b;simp only[] at b;have f: ∃e,P.underlying t=some e:=by
   cases f:P.underlying t with
   |none=>simp[Wt,f] at d
   |some e=>exact⟨e,rfl⟩
  split at b
  ·rename_i q j;split at b
   ·rename_i g;have g:=Ix g;obtain⟨r,k,l,b⟩:=Vu b;refine⟨_,_,λc h n=>?_,l,b⟩;have m:=run_loadCellsFrom (P:=P) (A:=A) (n:=n) (acc:= #[]) h;simp only[loadVar,Sem.run_bind,uh f,d,Result.andThen_ok,if_true,run_sizeOf j];rw[<- g,<-k];simp only[loadCells,m,Result.andThen_ok];simp
   ·exact b.elim
  ·exact b.elim
 |false=>
  rw[d] at b;simp only[] at b;split at b
  ·rename_i e hd;split at b
   ·rename_i s _;obtain⟨x,o,b⟩:=Sc.cy b;refine⟨_,_,λc h n=>?_,o,b⟩;have p:(A.at c n).cell? a=some (s.val x):=h;simp[loadVar,uh ⟨e,hd⟩,d,load,Sem.run,p]
   ·exact b.elim
  ·exact b.elim
theorem cy {A:ar}{N:Nat}{a:Act}{e:Env}(h:Fits N a e){f:Oper}{g:aa}{K:J0->(aa->Prop)->Prop}(c:nE P f e g K):
  ∃v st,(∀ d,st d->iE P A f a.eval v d)/\st g/\K v st:=by
 unfold nE at c;split at c
 ·rename_i t x i;have c:=BX h c;split at c
  ·rename_i p d;obtain⟨b,rfl,c⟩:=At.mk c;obtain⟨v,st,j,k,c⟩:=ui (A:=A) c;refine⟨v,st,λl m n=>?_,k,c⟩;have:=j l m n;simp only[execOp,i,d];refine iY ?_;simp only[Instr.loadAt,Instr.sureAddr,Sem.run_bind,Sem.run_pure,Result.andThen_ok];exact this
  ·exact c.elim
 ·exact c.elim
end
section
variable {P : Q1} {A : ar} {r : Option Nat} {ops : Array Oper} {qb : Oper -> Bool} {ord : Nat -> Nat -> Bool}
abbrev Kt:=Act->aa->List (Nat×(aa->Prop))->Prop
def Eu(P:Q1)(A:ar)(ops:Array Oper)(qb:Oper->Bool)(ord:Nat->Nat->Bool)(i:Nat)(K:Kt):Kt:=λa c d=>
 match ops[i]? with
 |none=>False
 |some b=>
  if Region.wanted b (yielded ops a.tmps)=true then
   if qb b=true then
    ∃v,iE P A b a.eval v c/\K (a.put b.dst v) c ((i,iE P A b a.eval v)::d)
   else
    ∀f,EV P b a.eval (A.at c f) λv g=> ∃e h,g=A.at e h/\(∀ p∈d,un ord i p.1=true->p.2 e)/\K (a.put b.dst v) e d
  else K (a.put b.dst undef) c d
def lZ(K:Kt):Prop:= ∀a b c d,K a b c->(∀ p∈d,p∈c)->K a b d
theorem Eu.mono {i:Nat}{K f:Kt}(h: ∀a c d,K a c d->f a c d){a:Act}{c:aa}{d:List (Nat×(aa->Prop))}
  (b:Eu P A ops qb ord i K a c d):Eu P A ops qb ord i f a c d:=by
 unfold Eu at b ⊢;cases g:ops[i]? with
 |none=>rw[g] at b;exact b
 |some l=>
  rw[g] at b;simp only at b ⊢;split
  ·rename_i e;rw[if_pos e] at b;split
   ·grind
   ·rename_i j;rw[if_neg j] at b;intro k;refine(b k).mono ?_
    grind
  ·rename_i e;rw[if_neg e] at b;exact h _ _ _ b
theorem Eu.fA {i:Nat}{K:Kt}(c:lZ K):lZ (Eu P A ops qb ord i K):=by
 intro a s t u b d;unfold Eu at b ⊢;cases h:ops[i]? with
 |none=>rw[h] at b;exact b
 |some w=>
  rw[h] at b;simp only at b ⊢;split
  ·rename_i e;rw[if_pos e] at b;split
   ·rename_i f;rw[if_pos f] at b;obtain⟨v,k,g⟩:=b;refine⟨v,k,c _ _ _ _ g (λp j=>?_)⟩
    grind
   ·rename_i f;rw[if_neg f] at b;intro l;refine(b l).mono ?_;rintro v x ⟨m,n,o,q,g⟩;exact⟨m,n,o,λp j=>q p (d p j),c _ _ _ _ g d⟩
  ·rename_i e;rw[if_neg e] at b;exact c _ _ _ _ b d
theorem Eu.swap {i f:Nat}{c d:Oper}(m:ops[i]? =some c)(g:ops[f]? =some d)(E:c.apart ops d=true)(F:JU c)(G:JU d)
  (T:un ord i f=true) (k:qb d=true) {K:Kt} (H:lZ K) {a:Act} {q:aa} {s:List (Nat×(aa->Prop))}
  (b:Eu P A ops qb ord f (Eu P A ops qb ord i K) a q s):Eu P A ops qb ord i (Eu P A ops qb ord f K) a q s:=by
 obtain⟨t,I,w⟩:=Oper.apart_spec E;have U:un ord f i=true:=by unfold un at *;grind
 have x: ∀u,execOp (a.put d.dst u).eval c=execOp a.eval c:=λu=>execOp_put c F a d.dst u w
 have V: ∀u,execOp (a.put c.dst u).eval d=execOp a.eval d:=λu=>execOp_put d G a c.dst u t
 have y: ∀u,Region.wanted c (yielded ops (a.put d.dst u).tmps)=Region.wanted c (yielded ops a.tmps):=λu=>wanted_put c a d.dst u w
 have l: ∀u,Region.wanted d (yielded ops (a.put c.dst u).tmps)=Region.wanted d (yielded ops a.tmps):=λu=>wanted_put d a c.dst u t
 have z: ∀u,iE P A c (a.put d.dst u).eval=iE P A c a.eval:=λu=>by grind [iE]
 have n: ∀u,iE P A d (a.put c.dst u).eval=iE P A d a.eval:=λu=>by grind [iE]
 have B: ∀v u,(a.put c.dst v).put d.dst u=(a.put d.dst u).put c.dst v:=λv u=>Act.put_comm a v u I
 unfold Eu at b ⊢;rw[g] at b;rw[m];simp only at b ⊢;by_cases e:Region.wanted d (yielded ops a.tmps)=true
 ·rw[if_pos e] at b;rw[if_pos k] at b;obtain⟨J,L,b⟩:=b;rw[m] at b;simp only[y,z] at b;by_cases h:Region.wanted c (yielded ops a.tmps)=true
  ·rw[if_pos h] at b ⊢;by_cases j:qb c=true
   ·rw[if_pos j] at b ⊢;obtain⟨C,M,b⟩:=b;refine⟨C,M,?_⟩;rw[g];simp only[l,n];rw[if_pos e,if_pos k];refine⟨J,L,?_⟩;rw[B];exact H _ _ _ _ b λp D=>by grind
   ·rw[if_neg j] at b ⊢;intro o;have:=b o;unfold EV at this;rw[x] at this;refine EV.mono this ?_;rintro C W ⟨N,O,R,D,b⟩;refine⟨N,O,R,λp S=>D p (AF _ S),?_⟩;rw[g];simp only[l,n];rw[if_pos e,if_pos k]
    grind [List.mem_cons_self]
  ·rw[if_neg h] at b ⊢;rw[g];simp only[l,n];rw[if_pos e,if_pos k]
   grind
 ·rw[if_neg e] at b;rw[m] at b;simp only[y,z] at b;by_cases h:Region.wanted c (yielded ops a.tmps)=true
  ·rw[if_pos h] at b ⊢;by_cases j:qb c=true
   ·rw[if_pos j] at b ⊢
    simp_all
   ·rw[if_neg j] at b ⊢;intro o;have:=b o;unfold EV at this ⊢;rw[x] at this;refine Next.dL ?_ this
    simp_all
  ·rw[if_neg h] at b ⊢;rw[g];simp only[l];rw[if_neg e,B];exact b
def Qy(ord:Nat->Nat->Bool)(l:List Nat)(i:Nat):Bool:=l.all λa=> !ord i a
def Tf(ops:Array Oper)(qb:Oper->Bool)(i:Nat):Bool:=match ops[i]? with|some a=>qb a|none=>false
def kR(ops:Array Oper)(qb:Oper->Bool)(ord:Nat->Nat->Bool)(l:List Nat):Option Nat:=l.find? λi=>Tf ops qb i&&Qy ord l i
def FT(P:Q1)(A:ar)(ops:Array Oper)(qb:Oper->Bool)(ord:Nat->Nat->Bool)(Q:Act->aa->Prop):Nat->List Nat->Kt
 |_,[]=>λa b _=>Q a b
 |0,_::_=>λ_ _ _=>False
 |k+1,x::l=>λa b c=>
  match kR ops qb ord (x::l) with
  |some i=>Eu P A ops qb ord i (FT P A ops qb ord Q k ((x::l).erase i)) a b c
  |none=> ∀i∈x::l,Qy ord (x::l) i=true->Eu P A ops qb ord i (FT P A ops qb ord Q k ((x::l).erase i)) a b c
variable {Q : Act -> aa -> Prop}
theorem FT.fA: ∀(k:Nat) (l:List Nat),lZ (FT P A ops qb ord Q k l)
 |_,[]=>by intro a d _ _ b _;unfold FT at b ⊢;exact b
 |0,_::_=>by intro a d _ _ b _;unfold FT at b;exact b.elim
 |k+1,x::l=>by
  intro a d h j b e;unfold FT at b ⊢;split
  ·rename_i i c;rw[c] at b;exact Eu.fA (FT.fA k _) _ _ _ _ b e
  ·rename_i c;rw[c] at b;exact λi f g=>Eu.fA (FT.fA k _) _ _ _ _ (b i f g) e
def nV(ops:Array Oper)(qb:Oper->Bool)(ord:Nat->Nat->Bool):Bool:=
 (ops.toList.all λe=>Jr e)&&
 (List.range ops.size).all λi=>
  match ops[i]? with
  |none=>false
  |some c=>
   (c.after.toList.all λa=> !Region.binds .any a||decide (a.on<i))&&
   (List.range ops.size).all λb=>
    match ops[b]? with
    |none=>false
    |some d=>
     if decide (b<i) then
      if ord i b then c.after.toList.any λa=>Region.binds .any a&&(a.on==b||(decide (b<a.on)&&ord a.on b))
      else(!(qb c||qb d))||(c.apart ops d&&d.apart ops c)
     else !ord i b
structure mf (ops:Array Oper) (qb:Oper->Bool) (ord:Nat->Nat->Bool):Prop where
 nd: ∀(i:Nat) (o:Oper),ops[i]? =some o->Jr o=true
 back: ∀(i:Nat) (o:Oper),ops[i]? =some o-> ∀e∈o.after,Region.binds .any e=true->e.on<i
 low: ∀i j,i<ops.size->j<ops.size->ord i j=true->j<i
 pair: ∀(i j:Nat) (oi oj:Oper),ops[i]? =some oi->ops[j]? =some oj->j<i->
   (ord i j=true/\ ∃e∈oi.after,Region.binds .any e=true/\(e.on=j\/(j<e.on/\ord e.on j=true)))\/
   (ord i j=false/\(qb oi=true\/qb oj=true->oi.apart ops oj=true/\oj.apart ops oi=true))
theorem AHn(c:nV ops qb ord=true):mf ops qb ord:=by
 unfold nV at c;simp only[A4,Fl,Ly] at c;obtain⟨k,l⟩:=c;refine⟨λi f a=>k f (by grind),λi f a g h j=>?_,λi b d e a=>?_,λi b q s d e m=>?_⟩
 ·grind
 ·grind
 ·have n:i<ops.size:=(Array.getElem?_eq_some_iff.1 d).1;have o:b<ops.size:=(Array.getElem?_eq_some_iff.1 e).1;have:=l i n;rw[d] at this;simp only[A4,Fl,Ly] at this;have:=this.2 b o;rw[e] at this;simp only at this;rw[if_pos (by simpa using m)] at this;cases a:ord i b with
  |true=>
   rw[a] at this;simp only[if_true,List.any_eq_true,A4,DA,beq_iff_eq,decide_eq_true_eq] at this;obtain⟨g,h,j,p⟩:=this;exact .inl ⟨rfl,g,by simpa using h,j,p⟩
  |false=>
   rw[a] at this;simp only[Cp,if_false,A4,DA,CI,Hk] at this;refine .inr ⟨rfl,λt=>?_⟩
   grind
theorem X6 {l:List Nat}{i a:Nat}(b:Qy ord l i=true)(c:a∈l):ord i a=false:=by simp_all [Qy,Fl,CI]
theorem RJ {l:List Nat}{i a:Nat}(b:Qy ord l i=true):Qy ord (l.erase a) i=true:=by grind [Qy,List.all_eq_true,List.mem_of_mem_erase]
theorem R8 {l:List Nat}{a:Nat}(b:kR ops qb ord l=some a):a∈l/\Tf ops qb a=true/\Qy ord l a=true:=by
 unfold kR at b
 grind
theorem AKO {l:List Nat}(b:kR ops qb ord l=none){a:Nat}(c:a∈l)(d:Tf ops qb a=true):Qy ord l a=false:=by simp_all [kR,Hb,FG]
theorem vW {i:Nat}(b:Tf ops qb i=true): ∃a,ops[i]? =some a/\qb a=true:=by
 unfold Tf at b
 grind
theorem mf.swap(f:mf ops qb ord){i b:Nat}(q:i≠b)(s:i<ops.size)(t:Tf ops qb b=true)(u:ord i b=false)(v:ord b i=false){K:Kt}(l:lZ K){a:Act}{g:aa}
  {h:List (Nat×(aa->Prop))}:
  (Eu P A ops qb ord b (Eu P A ops qb ord i K) a g h->Eu P A ops qb ord i (Eu P A ops qb ord b K) a g h)/\
  (Tf ops qb i=true->Eu P A ops qb ord i (Eu P A ops qb ord b K) a g h->Eu P A ops qb ord b (Eu P A ops qb ord i K) a g h):=by
 obtain⟨j,d,m⟩:=vW t;have e:ops[i]? =some ops[i]:=Fm s;have n:=YA (f.nd _ _ e);have o:=YA (f.nd _ _ d);have p:(ops[i]).apart ops j=true/\j.apart ops (ops[i])=true:=by
  rcases MY q with k|k
  ·rcases f.pair b i j _ d e k with⟨c,_⟩|⟨_,c⟩
   ·rw[v] at c;cases c
   simp_all
  ·rcases f.pair i b _ j e d k with⟨c,_⟩|⟨_,c⟩
   ·rw[u] at c;cases c
   ·exact c (.inr m)
 have w:un ord i b=true:=by grind [un,Nat.lt_or_gt_of_ne,Nat.max_eq_right,Nat.min_eq_left,Nat.max_eq_left,Nat.min_eq_right]
 have x:un ord b i=true:=by unfold un at *;grind
 exact⟨Eu.swap e d p.1 n o w m l,λy=>Eu.swap d e p.2 o n x (by grind [vW]) l⟩
theorem FT.both(D:mf ops qb ord): ∀(h:Nat) (l:List Nat),l.length=h+1->(∀ i∈l,i<ops.size)-> ∀(i:Nat),i∈l->Qy ord l i=true->
  (∀ a c d,FT P A ops qb ord Q (h+1) l a c d->Eu P A ops qb ord i (FT P A ops qb ord Q h (l.erase i)) a c d)/\
  (Tf ops qb i=true-> ∀a c d,Eu P A ops qb ord i (FT P A ops qb ord Q h (l.erase i)) a c d->FT P A ops qb ord Q (h+1) l a c d):=by
 intro h
 induction h with
 |zero=>
  intro l z s i f m;obtain⟨x,rfl⟩:=List.length_eq_one_iff.1 z;have:i=x:=by simpa using f
  subst this;constructor
  ·intro a c d e;unfold FT at e;split at e
   ·rename_i b j;have:=(R8 j).1;have:b=i:=by simpa using this
    subst this;exact e
   ·exact e i (by simp) m
  ·intro j a c d e;unfold FT;split
   ·rename_i b B;have:=(R8 B).1;have:b=i:=by simpa using this
    subst this;exact e
   ·intro E F _;have:E=i:=by simpa using F
    subst this;exact e
 |succ h t=>
  intro l z s i f m;obtain⟨x,g,rfl⟩: ∃x g,l=x::g:=by cases l with|nil=>cases z|cons x g=>exact⟨x,g,rfl⟩
  have u: ∀ {b},b∈x::g->((x::g).erase b).length=h+1:=λj=>by simp_all
  have v: ∀ {b},∀i∈(x::g).erase b,i<ops.size:=λi f=>s i (A0d f)
  have w: ∀ {p b},p∈x::g->p≠b->p∈(x::g).erase b:=λG H=>(List.mem_erase_of_ne H).2 G
  constructor
  ·intro a c d e;unfold FT at e;split at e
   ·rename_i b j;obtain⟨n,y,o⟩:=R8 j;by_cases k:b=i
    ·subst k;exact e
    ·have C:=Eu.mono (λa c d=>(t ((x::g).erase b) (u n) v i (w f (Ne.symm k)) (RJ m)).1 a c d) e;have q:=(D.swap (Ne.symm k) (s i f) y (X6 m n) (X6 o f) (FT.fA _ _)).1 C;rw[List.erase_comm] at q;exact Eu.mono (λa c d=>(t ((x::g).erase i) (u f) v b (w n k) (RJ o)).2 y a c d) q
   ·exact e i f m
  ·intro j a c d e;unfold FT;split
   ·rename_i b B;obtain⟨n,y,o⟩:=R8 B;by_cases k:b=i
    ·subst k;exact e
    ·have C:=Eu.mono (λa c d=>(t ((x::g).erase i) (u f) v b (w n k) (RJ o)).1 a c d) e;have q:=(D.swap (Ne.symm k) (s i f) y (X6 m n) (X6 o f) (FT.fA _ _)).2 j C;rw[List.erase_comm] at q;exact Eu.mono (λa c d=>(t ((x::g).erase b) (u n) v i (w f (Ne.symm k)) (RJ m)).2 j a c d) q
   ·rename_i I;have:=AKO I f j;rw[m] at this;cases this
theorem AJg {a i:Nat}{listed:Array Bool}(b:i<a)(c:listed.size=a)(d:listed.getD i false=false):left a (listed.setIfInBounds i true)=(left a listed).erase i:=by grind [AKb,List.erase_append_right]
theorem FT.any {m:Nat}{I:Exit->Act->World->Prop}(S: ∀a e d,Q a e->I .normal a (A.at e d))(l:mf ops qb ord):
  ∀(fuel:Nat) (listed:Array Bool) (a:Act) (e:aa) (aP:List (Nat×(aa->Prop))),(left ops.size listed).length=fuel->listed.size=ops.size->
   gK ord listed->FT P A ops qb ord Q fuel (left ops.size listed) a e aP-> ∀d,wpAnyIn (Fw r) m P .any ops I fuel listed a (A.at e d):=by
 intro fuel
 induction fuel with
 |zero=>
  intro listed a e aP y z _ q d;have n:left ops.size listed= []:=CC y;refine⟨?_,?_⟩
  ·rcases J:Region.ready .any ops listed with _|⟨i,t⟩
   ·rfl
   ·exfalso;have f:i∈Region.ready .any ops listed:=by simp_all
    obtain⟨K,al,o,_⟩:=mem_ready.1 f;have h:i<ops.size:=(Array.getElem?_eq_some_iff.1 o).1;have:i∈left ops.size listed:=mem_left.2 ⟨h,by simp_all⟩;rw[n] at this;cases this
  ·rw[n] at q;unfold FT at q;exact S _ _ _ q
 |succ fuel B=>
  intro listed a e aP y z L q d;refine⟨λJ=>?_,λi f=>?_⟩
  ·exfalso;have T: ∀j i,i<j->i∈left ops.size listed->False:=by
    intro j
    induction j with
    |zero=>intro i f;omega
    |succ j U=>
     intro i _ f;obtain⟨h,K⟩:=mem_left.1 f;have o:ops[i]? =some ops[i]:=Fm h;by_cases s: ∀g∈ops[i].after,Region.binds .any g=true->listed.getD g.on false=true
     ·have:i∈Region.ready .any ops listed:=mem_ready.2 ⟨by simp_all,_,o,s⟩;rw[J] at this;cases this
     ·simp only[Classical.not_forall] at s;obtain⟨g,n,k,C⟩:=s;have am:=l.back i _ o g n k;exact U g.on (by omega) (mem_left.2 ⟨by omega,by simpa using C⟩)
   have C:left ops.size listed≠ []:=by grind
   obtain⟨i,f⟩:=List.exists_mem_of_ne_nil _ C;exact T (i+1) i (by omega) f
  ·obtain⟨K,w,p,s⟩:=mem_ready.1 f;have h:i<ops.size:=(Array.getElem?_eq_some_iff.1 p).1;have M:listed.getD i false=false:=by simp_all
   have V: ∀b,b<i->listed.getD b false=false->ord i b=false:=by
    intro b u x;have W:ops[b]? =some ops[b]:=Fm (by omega);rcases l.pair i b w _ p W u with⟨_,g,n,k,D⟩|⟨D,_⟩
    ·exfalso;have N:=s g n k;rcases D with rfl|⟨X,Y⟩
     ·rw[N] at x;cases x
     ·have:=L g.on b N X Y;rw[this] at x;cases x
    ·exact D
   have Z:i∈left ops.size listed:=mem_left.2 ⟨h,M⟩;have ab:Qy ord (left ops.size listed) i=true:=by
    unfold Qy;simp only[Fl,CI];intro b u;obtain⟨ac,ad⟩:=mem_left.1 u;cases k:ord i b with
    |false=>rfl
    |true=>rw[V b (l.low i b h ac k) ad] at k;cases k
   have c:=(FT.both (Q:=Q) (P:=P) (A:=A) l fuel _ y (λb u=>(mem_left.1 u).1) i Z ab).1 a e aP q;have E:gK ord (listed.setIfInBounds i true):=by
    intro j b O ae o;by_cases af:b=i
    ·simp_all
    ·rw[getD_set_ne false (Ne.symm af)];by_cases ag:j=i
     ·grind
     ·rw[getD_set_ne false (Ne.symm ag)] at O;exact L j b O ae o
   have ah:=AJg h z M;have F:(left ops.size (listed.setIfInBounds i true)).length=fuel:=by simp_all
   have G:(listed.setIfInBounds i true).size=ops.size:=by simp[z]
   rw[<- ah] at c;unfold Eu at c;rw[p] at c;unfold wpOpIn;simp only[p];split
   ·rename_i H;simp only[H,if_true] at c;by_cases R:qb w=true
    ·rw[if_pos R] at c;obtain⟨v,ai,c⟩:=c;refine EV.wpIn (l.nd i w p) ?_;unfold EV;rw[ai d];exact B _ _ _ _ F G E c d
    ·rw[if_neg R] at c;refine EV.wpIn (l.nd i w p) ((c d).mono ?_);rintro v an ⟨ao,aj,rfl,_,ak⟩;exact B _ _ _ _ F G E ak aj
   ·rename_i H;simp only at c;rw[if_neg H] at c;exact⟨λ_ _=>trivial,B _ _ _ _ F G E c d⟩
theorem Zr {id m:Nat}{d:Exit->Act->World->Prop}(f: ∀a b c,Q a b->d .normal a (A.at b c))(g:P.follows .mixedOrders=true)
  (h:nV ops qb ord=true) {a:Act} {b:aa} {c:Nat} (i:FT P A ops qb ord Q ops.size (List.range ops.size) a b []):(Code.region id ops true).wpIn (Fw r) m P d a (A.at b c):=by
 refine wpIn_region_any g ?_;have e:=AOy ops.size;refine FT.any (Q:=Q) (ord:=ord) (qb:=qb) (aP:= []) f (AHn h) _ _ _ b (by rw[e];simp) (by simp) ?_ (by rw[e];exact i) (c+1);intro j l k;exfalso;by_cases b:j<ops.size<;>simp[b] at k
end
inductive Cls where
 |pure|load|fx
def cls(P:Q1)(b:Oper):Cls:=
 match b.op with
 | .load _ _=> .load
 | .binOp d t x e _=>match Uh P d t x e with| .no=> .fx|_=> .pure
 | .convert s a _=>match P.underlying s with
  |some (.int _)=>(match P.underlying a with|some (.int _)=> .pure|_=> .fx)
  |some .string=>(match P.underlying a with|some .string=> .pure|_=> .fx)
  |_=> .fx
 | .call c=>match c.callee with
  | .builtin .min=>(match c.argTypes[0]? with
   |some t=>(match P.underlying t with|some (.float _)=> .fx|_=> .pure)
   |none=> .pure)
  | .builtin .max=>(match c.argTypes[0]? with
   |some t=>(match P.underlying t with|some (.float _)=> .fx|_=> .pure)
   |none=> .pure)
  | .builtin .cap=> .pure
  | .builtin .len=>(match c.argTypes[0]? with
   |some t=>(match P.underlying t with|some (.map _ _)=> .fx|_=> .pure)
   |none=> .fx)
  |_=> .fx
 | .move _| .assign _| .pick .. | .build .. | .nilCheck _| .unOp .. | .makeInterface .. | .makeFunc .. | .fieldAddr .. | .field .. | .indexAddr .. | .index .. | .slice .. | .extract .. => .pure
 |_=> .fx
def gq(A:ar)(P:Q1)(m:Sem Unit)(b:aa)(K:aa->Prop):Prop:= ∀c,∃a d,m.run P (A.at b c)= .ok () (A.at a d)/\K a
def KJ(a:Env)(l:Array Operand):Array J0:=(l.toList.map (ρof a)).toArray
def ARg(P:Q1)(f:Q8):Bool:=match P.funcs[f]? with|some fn=>(match fn.body with|none=>true|some _=>false)|none=>false
def nF(A:ar)(P:Q1)(f:Q8)(args:Array J0)(b:aa)(K:A2O):Prop:= ∀c,∃v a d,(callFunc f args).run P (A.at b c)= .ok (.value v) (A.at a d)/\K v a
def qf(A:ar)(P:Q1)(d:Oper)(c:Call)(e:Env)(g:aa)(K:A2O):Prop:=
 match c.callee with
 | .value (.func f)=>known e c.args.toList (match ARg P f with
  |true=>nF A P f (KJ e c.args) g λv a=>P5 P d.type v λv=>K v a
  |false=>SV P (callFunc f (KJ e c.args)) λx=>match x with
   | .enter h i=>AA A P h i g λv a=>P5 P d.type v λv=>K v a
   |_=>False)
 | .value x=>rd e x λfv=>known e c.args.toList (Eb A P fv (KJ e c.args) g λv a=>P5 P d.type v λv=>K v a)
 | .builtin b=>known e c.args.toList (match b with
  | .append=>BI A P (Builtin.append_ c.argTypes d.type (KJ e c.args)) g λv a=>P5 P d.type v λv=>K v a
  | .copy=>BI A P (Builtin.copy_ c.argTypes d.type (KJ e c.args)) g λv a=>P5 P d.type v λv=>K v a
  | .delete=>BI A P (Builtin.delete_ c.argTypes d.type (KJ e c.args)) g λv a=>P5 P d.type v λv=>K v a
  | .clear=>BI A P (Builtin.clear_ c.argTypes d.type (KJ e c.args)) g λv a=>P5 P d.type v λv=>K v a
  | .len=>BI A P (Builtin.len_ c.argTypes d.type (KJ e c.args)) g λv a=>P5 P d.type v λv=>K v a
  | .real=>BI A P (Builtin.real_ c.argTypes d.type (KJ e c.args)) g λv a=>P5 P d.type v λv=>K v a
  | .imag=>BI A P (Builtin.imag_ c.argTypes d.type (KJ e c.args)) g λv a=>P5 P d.type v λv=>K v a
  | .complex=>BI A P (Builtin.complex_ c.argTypes d.type (KJ e c.args)) g λv a=>P5 P d.type v λv=>K v a
  | .min=>BI A P (Builtin.min_ c.argTypes d.type (KJ e c.args)) g λv a=>P5 P d.type v λv=>K v a
  | .max=>BI A P (Builtin.max_ c.argTypes d.type (KJ e c.args)) g λv a=>P5 P d.type v λv=>K v a
  |_=>False)
 |_=>False
def VG(a:Q6):aa->Nat->List J0->(aa->Prop)->Prop
 |h,_,[],K=>K h
 |h,i,v::b,K=>Yx (MC v) (af h (a.add i) v λc=>VG a c (i+1) b K)
def qg(P:Q1)(t:Q7)(c v:J0)(d:aa)(K:aa->Prop):Prop:=
 match c with
 | .pointer p=>At p λa=>match P.info? t with
  |some i=>lI P t v λb=>match Nat.beq b.size i.size with
   |true=>VG a d 0 b.toList K
   |false=>False
  |none=>False
 |_=>False
def AT1(P:Q1)(t:Q7)(v:J0)(a:aa)(K:A2O):Prop:=
 lI P t v λc=>ao a (.cells c t) λb d=>K (.pointer (some ⟨b,0,none⟩)) d
def rowOf(P:Q1)(b:Q7)(len:Nat)(c:List (Nat×Array J0)):Option (Array J0):=
 match P.info? b with
 |some a=>match a.zero with
  |some z=>match Nat.ble (len*a.size) (2^24) with
   |true=>kJ (λi=>some (i*a.size,a.size)) ((Array.range (len*a.size)).map (z.cells[· % z.cells.size]!)) c
   |false=>none
  |none=>none
 |none=>none
def uj(P:Q1)(t:Q7)(len:Nat)(c:Array (Nat×Operand))(d:Env)(e:aa)(K:A2O):Prop:=
 match P.underlying t with
 |some (.slice a)=>lJ P t d c.toList λl=>match rowOf P a len l with
  |some cells=>ao e (.cells cells a) λb f=>K (.slice (some ⟨b,0,none⟩) len len) f
  |none=>False
 |_=>False
def Rl(ops:List Oper)(b:Option Tmp)(a:Nat):Option Q7:=
 match b with
 |none=>none
 |some t=>match ops with
  | []=>none
  |o::r=>match o.op with
   | .extract (.tmp t') c=>(match Nat.beq t' t with|true=>(match Nat.beq c a with|true=>some o.type|false=>Rl r (some t) a)|false=>Rl r (some t) a)
   |_=>Rl r (some t) a
def jS(P:Q1)(t:Option Q7)(v:J0)(K:J0->Prop):Prop:=
 match t with
 |none=>K v
 |some t=>P5 P t v K
theorem MM {P:Q1}{t:Option Q7}{v:J0}{K:J0->Prop}(a:jS P t v K):K v:=by
 cases t with
 |none=>exact a
 |some t=>exact PD a
def jT(A:ar)(P:Q1)(ops:Array Oper)(f:Oper)(d:Env)(g:aa)(K:A2O):Prop:=
 match f.op with
 | .call c=>qf A P f c d g K
 | .makeSlice t l c=>rd d l λl=>rd d c λc=>BI A P (Instr.makeSlice t l c) g λv a=>P5 P f.type v λv=>K v a
 | .lookup t x i ok=>rd d x λx=>rd d i λi=>BI A P (Instr.lookup t x i ok) g λv a=>P5 P f.type v λv=>K v a
 | .mapUpdate t m e x=>rd d m λm=>rd d e λe=>rd d x λx=>gq A P (Instr.mapUpdate t m e x) g λa=>K undef a
 | .mapEntry t m e=>rd d m λm=>rd d e λe=>BI A P (Instr.mapEntry t m e) g λv a=> ∃e u:J0,v= .tuple #[e,u]/\jS P (Rl ops.toList f.dst 0) e λe=>jS P (Rl ops.toList f.dst 1) u λu=>K (.tuple #[e,u]) a
 | .entryStore t m s x=>rd d m λm=>rd d s λs=>rd d x λx=>gq A P (Instr.entryStore t m s x) g λa=>K undef a
 | .convert s k x=>rd d x λx=>BI A P (convert s k x) g λv a=>P5 P f.type v λv=>K v a
 | .binOp j t x h _=>rd d x λv=>rd d h λu=>BI A P (do eqGuard j t x h v u;binOp j t v u) g λv a=>P5 P f.type v λv=>K v a
 | .typeAssert x t u ok=>rd d x λx=>BI A P (Instr.typeAssert x t u ok) g λv a=>P5 P f.type v λv=>K v a
 | .store t x h=>rd d x λn=>rd d h λv=>qg P t n v g λa=>K undef a
 | .box t x=>rd d x λv=>AT1 P t v g K
 | .buildSlice t len o=>uj P t len o d g K
 | .range t x=>rd d x λx=>BI A P (Instr.range t x) g λv a=> ∃b:Nat,v= .pointer (some ⟨b,0,none⟩)/\K (.pointer (some ⟨b,0,none⟩)) a
 | .next x s=>rd d x λx=>BI A P (Instr.next x s f.type) g λv a=>(v= .tuple #[.bool false]/\K (.tuple #[.bool false]) a)\/(∃ e u:J0,v= .tuple #[.bool true,e,u]/\jS P (Rl ops.toList f.dst 1) e λe=>jS P (Rl ops.toList f.dst 2) u λu=>K (.tuple #[.bool true,e,u]) a)
 | .entry x=>rd d x λx=>BI A P (Instr.entry x) g λv a=> ∃e u:J0,v= .tuple #[e,u]/\jS P (Rl ops.toList f.dst 0) e λe=>jS P (Rl ops.toList f.dst 1) u λu=>K (.tuple #[e,u]) a
 | .alloc .. | .makeMap .. =>known d f.op.operands.toList (Sem.vc P (execOp (ρof d) f) g λx a=>match x with
  | .value v=>K v a
  | .skip=>K undef a
  |_=>False)
 |_=>False
theorem ZJ {N:Nat}{a:Act}{b:Env}(d:Fits N a b){l:Array Operand}(c: ∀x∈l.toList,ρof b x=a.eval x):KJ b l=l.map a.eval:=by unfold KJ;rw[CD c];apply Array.toList_inj.1;rw[Array.toList_map]
section
variable {P : Q1} {A : ar}
theorem Hl {b:Oper}{e:Operand->J0}{s:Sem J0}{f:aa}{K:A2O}(g:execOp e b=do pure (.value (<- s)))
  (h:BI A P s f λv a=>P5 P b.type v λv=>K v a): ∀c,EV P b e (A.at f c) λv i=> ∃a d,i=A.at a d/\K v a:=by
 intro c;obtain⟨v,a,d,j,hd⟩:=h c;unfold EV;rw[g,iY j];exact⟨a,d,rfl,PD hd⟩
theorem Xc {d:Oper}{e:Operand->J0}{s:Sem J0}{f:aa}{K g:A2O}(h:execOp e d=do pure (.value (<- s)))
  (i:BI A P s f g) (j: ∀v a,g v a->K v a): ∀b,EV P d e (A.at f b) λv k=> ∃a c,k=A.at a c/\K v a:=by
 intro b;obtain⟨v,a,c,l,hd⟩:=i b;unfold EV;rw[h,iY l];exact⟨a,c,rfl,j _ _ hd⟩
theorem qh {d:Oper}{e:Operand->J0}{s:Sem Unit}{f:aa}{K:A2O}(g:execOp e d=do s;pure .skip)
  (h:gq A P s f λa=>K undef a): ∀b,EV P d e (A.at f b) λv i=> ∃a c,i=A.at a c/\K v a:=by
 intro b;obtain⟨a,c,j,hd⟩:=h b;unfold EV;rw[g,ATi j];exact⟨a,c,rfl,hd⟩
theorem AJU {N:Nat}{a:Act}{u:Env}(l:Fits N a u){n:Oper}{c:Call}(h:n.op= .call c){k:aa}{K:A2O}(d:qf A P n c u k K):
  ∀g,EV P n a.eval (A.at k g) λv o=> ∃i j,o=A.at i j/\K v i:=by
 have y: ∀ {fv:J0} {s:A2O} {x:Operand},c.callee= .value x->a.eval x=fv->Eb A P fv (c.args.map a.eval) k s->
   ∀g,EV P n a.eval (A.at k g) λv o=> ∃i j,o=A.at i j/\s v i:=by
  intro fv s x e t z g;have:=z g;unfold EV;have p:execOp a.eval n=(do let w <-Deferred.ofValue fv (c.args.map a.eval);invoke w.target w.args:Sem Next):=by simp only[execOp,h,resolve,e,t]
  rw[p];exact this
 unfold qf at d;split at d
 ·rename_i f e;obtain⟨q,d⟩:=KS l d;rw[ZJ l q] at d;split at d
  ·intro g;obtain⟨v,i,j,B,hd⟩:=d g;have p:(execOp a.eval n).run P (A.at k g)= .ok (.value v) (A.at i j):=by simp only[execOp,h,resolve,e,Act.eval,Deferred.ofValue];simp only[Sem.run_bind,Sem.run_pure,Result.andThen_ok,invoke];simpa using B
   unfold EV;rw[p];exact⟨i,j,rfl,PD hd⟩
  ·obtain⟨x,t,d⟩:=Mm d;split at d
   ·rename_i C D;intro g;have p:(execOp a.eval n).run P (A.at k g)= .ok (.enter C D) (A.at k g):=by simp only[execOp,h,resolve,e,Act.eval,Deferred.ofValue];simp only[Sem.run_bind,Sem.run_pure,Result.andThen_ok,invoke];have:=t (A.at k g);simpa using this
    unfold EV;rw[p];refine Calls.mono (d g) ?_;rintro E o ⟨v,rfl,i,j,rfl,hd⟩;exact⟨v,rfl,i,j,rfl,PD hd⟩
   ·exact d.elim
 ·rename_i x e;have d:=BX l d;obtain⟨q,d⟩:=KS l d;rw[ZJ l q] at d;intro g;refine EV.mono (y e rfl d g) ?_;rintro v o ⟨i,j,rfl,hd⟩;exact⟨i,j,rfl,PD hd⟩
 ·rename_i b e;obtain⟨q,d⟩:=KS l d;rw[ZJ l q] at d;split at d
  ·exact Hl (by simp only[execOp,h,resolve,e];rfl) d
  ·exact Hl (by simp only[execOp,h,resolve,e];rfl) d
  ·exact Hl (by simp only[execOp,h,resolve,e];rfl) d
  ·exact Hl (by simp only[execOp,h,resolve,e];rfl) d
  ·exact Hl (by simp only[execOp,h,resolve,e];rfl) d
  ·exact Hl (by simp only[execOp,h,resolve,e];rfl) d
  ·exact Hl (by simp only[execOp,h,resolve,e];rfl) d
  ·exact Hl (by simp only[execOp,h,resolve,e];rfl) d
  ·exact Hl (by simp only[execOp,h,resolve,e];rfl) d
  ·exact Hl (by simp only[execOp,h,resolve,e];rfl) d
  ·exact d.elim
 ·exact d.elim
theorem YD {A:ar}{a:Q6}: ∀ {l:List J0} {b:aa} {i:Nat} {K:aa->Prop},VG a b i l K-> ∀n,∃d,(storeCells a l i).run P (A.at b n)= .ok () (A.at d n)/\K d
 | [],b,i,K,c,n=>⟨b,rfl,c⟩
 |v::s,b,i,K,c,n=>by
  unfold VG at c;cases e:MC v with
  |false=>rw[e] at c;exact c.elim
  |true=>
   rw[e] at c;obtain⟨⟨u,g⟩,h,j⟩:=c;obtain⟨d,k,o⟩:=YD j n;refine⟨d,?_,o⟩;have p:=sG (A:=A) (P:=P) (m:= .plain) (f:=(.pure ():Sem Unit)) (n:=n) e g h;simp only[storeCells,Sem.run_bind];have q:(store (a.add i) v).run P (A.at b n)= .ok () (A.at (dh b (a.add i) v) n):=p;rw[q];exact k
theorem AH3 {A:ar}{t:Q7}{f v:J0}{g:aa}{K:aa->Prop}(b:qg P t f v g K):gq A P (Instr.storeAt t f v) g K:=by
 intro h;unfold qg at b;split at b
 ·rename_i p;obtain⟨a,rfl,c⟩:=At.mk b;split at c
  ·rename_i n i;have d:=RA c;split at d
   ·rename_i e;have e:=Ix e;obtain⟨j,k,l⟩:=YD (P:=P) (A:=A) d h;refine⟨j,h,?_,l⟩;simp[Instr.storeAt,Instr.sureAddr,storeVar,run_sizeOf i,e,k]
   ·exact d.elim
  ·exact c.elim
 ·exact b.elim
theorem ARt {A:ar}{t:Q7}{v:J0}{a:aa}{b:Nat}:(Instr.box t v).run P (A.at a b)= .ok (.pointer (some ⟨a.size,0,none⟩)) (A.at (a.push (.cells v.cells t)) b):=rfl
theorem AQq {A:ar}{t c:Q7}(j:P.underlying t=some (.slice c)){len:Nat}{d:Array (Nat×J0)}{cells:Array J0}{h:aa}{n:Nat}
  (a:rowOf P c len (d.toList.map λp=>(p.1,p.2.cells))=some cells):
  (Instr.buildSlice t len d).run P (A.at h n)= .ok (.slice (some ⟨h.size,0,none⟩) len len) (A.at (h.push (.cells cells c)) n):=by
 unfold rowOf at a;split at a
 ·rename_i b f;split at a
  ·rename_i z k;split at a
   ·rename_i g;have g:=Wf g;rw[<- ni] at a;have l: ¬(len*b.size>2^24):=by omega
    unfold Instr.buildSlice;simp only[Sem.run_bind,BM j,Result.andThen_ok,run_sizeOf f,if_neg l];by_cases e:len*b.size=0
    ·have o:Instr.fill (λi=>some (i*b.size,b.size)) ((Array.range (len*b.size)).map ((#[]:Array J0)[· % (#[]:Array J0).size]!)) d.toList=some cells:=by rw[<- a];congr 1;simp[e]
     rw[if_pos e];simp only[Sem.run_bind,Sem.run_pure,Result.andThen_ok,o];rfl
    ·rw[if_neg e];have q:(zeroValue c).run P (A.at h n)= .ok z (A.at h n):=by simp[zeroValue,sJ f,k]
     simp only[Sem.run_bind,q,Sem.run_pure,Result.andThen_ok,a];rfl
   ·cases a
  ·cases a
 ·cases a
theorem uk {N:Nat}{a:Act}{q:Env}(f:Fits N a q){ops:Array Oper}{j:Oper}{h:aa}{K:A2O}(e:jT A P ops j q h K):
  ∀n,EV P j a.eval (A.at h n) λv y=> ∃g o,y=A.at g o/\K v g:=by
 have z:JU j->known q j.op.operands.toList (Sem.vc P (execOp (ρof q) j) h λx g=>match x with
   | .value v=>K v g
   | .skip=>K undef g
   |_=>False)-> ∀n,EV P j a.eval (A.at h n) λv y=> ∃g o,y=A.at g o/\K v g:=by
  intro C e n;obtain⟨D,e⟩:=KS f e;obtain⟨x,g,o,B,e⟩:=AOq (A:=A) e n;rw[execOp_congr j C (λx E=>D x (by simpa using E))] at B;unfold EV;rw[B];split at e
  ·exact⟨g,o,rfl,e⟩
  ·exact⟨g,o,rfl,e⟩
  ·exact e.elim
 unfold jT at e;split at e
 ·rename_i c d;exact AJU f d e
 ·rename_i t l c d;exact Hl (by simp only[execOp,d]) (BX f (BX f e))
 ·rename_i t x i ok d;exact Hl (by simp only[execOp,d]) (BX f (BX f e))
 ·rename_i t m w x d;exact qh (by simp only[execOp,d]) (BX f (BX f (BX f e)))
 ·rename_i t m w d;refine Xc (by simp only[execOp,d]) (BX f (BX f e)) ?_;rintro v g ⟨w,u,rfl,h⟩;exact MM (MM h)
 ·rename_i t m s x d;exact qh (by simp only[execOp,d]) (BX f (BX f (BX f e)))
 ·rename_i s I x d;exact Hl (by simp only[execOp,d]) (BX f e)
 ·rename_i J t x F _ d;exact Hl (by simp only[execOp,d]) (BX f (BX f e))
 ·rename_i x t u ok d;exact Hl (by simp only[execOp,d]) (BX f e)
 ·rename_i t x F d;exact qh (by simp only[execOp,d]) (AH3 (BX f (BX f e)))
 ·rename_i t x d;intro n;have p:=RA (BX f e);unfold EV;simp only[execOp,d];rw[iY ARt];exact⟨_,_,rfl,p⟩
 ·rename_i t len L d;intro n;unfold uj at e;split at e
  ·rename_i M G;have p:=Rv f e;split at p
   ·rename_i cells k;unfold EV;simp only[execOp,d];rw[iY (AQq (A:=A) (n:=n) (h:=h) G (cells:=cells) (by rw[<- k];congr 1;simp))];exact⟨_,_,rfl,p⟩
   ·exact p.elim
  ·exact e.elim
 ·rename_i t x d;refine Xc (by simp only[execOp,d]) (BX f e) ?_;rintro v g ⟨b,rfl,h⟩;exact h
 ·rename_i x s d;refine Xc (by simp only[execOp,d]) (BX f e) ?_;rintro v g (⟨rfl,h⟩|⟨w,u,rfl,h⟩)
  ·exact h
  ·exact MM (MM h)
 ·rename_i x d;refine Xc (by simp only[execOp,d]) (BX f e) ?_;rintro v g ⟨w,u,rfl,h⟩;exact MM (MM h)
 ·rename_i d;exact z (λH b k=>by rw[d] at k;cases k) e
 ·rename_i d;exact z (λH b k=>by rw[d] at k;cases k) e
 ·exact e.elim
end
def qi:List Prop->Prop->Prop
 | [],K=>K
 |p::l,K=>p/\qi l K
theorem uo: ∀ {l:List Prop} {K:Prop},qi l K->(∀ p∈l,p)/\K
 | [],_,a=>⟨λ_ b=>(by cases b),a⟩
 |p::l,_,⟨b,a⟩=>by
  obtain⟨d,e⟩:=uo a;refine⟨λf c=>?_,e⟩;rcases List.mem_cons.1 c with rfl|c
  ·exact b
  ·exact d f c
def AQh(ord:Nat->Nat->Bool)(i:Nat)(a:aa)(b:List (Nat×(aa->Prop))):List Prop:=(b.filter λp=>un ord i p.1).map λp=>p.2 a
def nG(ops:Array Oper)(e:Oper)(a:Env)(c d:Env->Prop):Prop:=
 match e.guard with
 |none=>c a
 |some (f,h)=>match ops[f]? with
  |some i=>match i.dst with
   |some b=>match a.get b with
    |some (.bool g)=>match h with
     |true=>ag g (c (a.set b (.bool true))) (d (a.set b (.bool false)))
     |false=>ag g (d (a.set b (.bool true))) (c (a.set b (.bool false)))
    |some _=>d a
    |none=>False
   |none=>False
  |none=>False
def UI(A:ar)(P:Q1)(N:Nat)(ops:Array Oper):List Oper->Env->aa->(Env->aa->Prop)->Prop
 | [],a,b,c=>c a b
 |o::rest,a,b,c=>
  match nc N o.dst with
  |false=>False
  |true=>nG ops o a
   (λa=>match cls P o with
    | .pure=>nj P o a λv=>UI A P N ops rest (a.put o.dst v) b c
    | .load=>nE P o a b λv _=>UI A P N ops rest (a.put o.dst v) b c
    | .fx=>jT A P ops o a b λv d=>UI A P N ops rest (a.put o.dst v) d c)
   (λa=>UI A P N ops rest (a.put o.dst undef) b c)
theorem uq {ops:Array Oper}{k:Oper}{N:Nat}{a:Act}{e:Env}(f:Fits N a e){q s:Env->Prop}(b:nG ops k e q s):
  (Region.wanted k (yielded ops a.tmps)=true/\ ∃h,Fits N a h/\q h)\/(Region.wanted k (yielded ops a.tmps)=false/\ ∃h,Fits N a h/\s h):=by
 unfold nG at b;split at b
 ·rename_i c;exact .inl ⟨by simp[Region.wanted,c],e,f,b⟩
 ·rename_i t x c;split at b
  ·rename_i y u;split at b
   ·rename_i l hd;split at b
    ·rename_i g n;have i:=f.get l _ n;have d:yielded ops a.tmps t=some g:=by simp[yielded,u,hd,i]
     have j:Fits N a (e.set l (.bool g)):=f.oS i;split at b
     ·obtain⟨o,p⟩:=ag.mk b;cases g with
      |true=>exact .inl ⟨by simp[Region.wanted,c,d],_,j,o rfl⟩
      |false=>exact .inr ⟨by simp[Region.wanted,c,d],_,j,p rfl⟩
     ·obtain⟨o,p⟩:=ag.mk b;cases g with
      |true=>exact .inr ⟨by simp[Region.wanted,c,d],_,j,o rfl⟩
      |false=>exact .inl ⟨by simp[Region.wanted,c,d],_,j,p rfl⟩
    ·rename_i v w n;have i:=f.get l _ n;refine .inr ⟨?_,e,f,b⟩;have d:yielded ops a.tmps t=none:=by simp only[yielded,u,hd,i,PB];cases v<;>first|rfl|exact absurd rfl (w _)
     simp[Region.wanted,c,d]
    ·exact b.elim
   ·exact b.elim
  ·exact b.elim
structure QB (W:List Nat) (a a':Act):Prop where
 get: ∀t,t∉W->a'.tmps[t]? =a.tmps[t]?
 ds:a'.defers=a.defers
theorem QB.refl(W:List Nat)(a:Act):QB W a a:=⟨λ_ _=>rfl,rfl⟩
theorem QB.put {W:List Nat}{a d:Act}(c:QB W a d){b:Option Tmp}{v:J0}(hd: ∀t,b=some t->t∈W):QB W a (d.put b v):=by
 cases b with
 |none=>exact c
 |some b=>
  refine⟨λt e=>?_,c.ds⟩;have:b≠t:=λf=>e (f▸hd b rfl)
  simp only[Act.put];rw[DO this];exact c.get t e
def dstsOf(l:List Oper):List Nat:=l.filterMap (·.dst)
theorem ur {l:List Oper}{a:Oper}(c:a∈l){b:Nat}(hd:a.dst=some b):b∈dstsOf l:=List.mem_filterMap.2 ⟨a,c,hd⟩
section
variable {P : Q1} {A : ar} {r : Option Nat} {m N : Nat} {ops : Array Oper} {ord : Nat -> Nat -> Bool}
theorem WT {a:Oper}(c:cls P a≠ .fx):JU a:=λe b d=>c (by simp[cls,d])
theorem YJ {b:Oper}(c:cls P b≠ .fx):Jr b=true:=by
 unfold Jr;split
 ·rename_i a;exact absurd (by simp[cls,a]) c
 ·rename_i a;exact absurd (by simp[cls,a]) c
 ·rfl
theorem AGk {ops:Array Oper}{b:Oper}{d:Env}{e:aa}{K:A2O}(c:jT A P ops b d e K):Jr b=true:=by
 unfold Jr;split
 ·rename_i a;simp[jT,a] at c
 ·rename_i a;simp[jT,a] at c
 ·rfl
theorem uu {n:Env->aa->Prop}{p:Exit->Act->World->Prop}: ∀(l:List Oper) (i:Env) (e:aa) (a:Act) (f:Nat),UI A P N ops l i e n->Fits N a i->
  (∀ q c g h,Fits N q c->QB (dstsOf l) a q->n c g->p .normal q (A.at g h))->wpListIn (Fw r) m P ops p l a (A.at e f)
 | [],i,e,a,f,b,s,u=>u a i e f s (QB.refl _ _) b
 |o::rest,i,e,a,f,b,s,u=>by
  unfold UI at b;split at b
  ·exact b.elim
  ·rename_i hd;have next: ∀(v:J0) (c:Env) (g:aa) (h:Nat),Fits N a c->UI A P N ops rest (c.put o.dst v) g n->wpListIn (Fw r) m P ops p rest (a.put o.dst v) (A.at g h):=by
    intro v c g h d w;refine uu rest _ g _ h w (d.put hd) ?_;intro C D E F G B H;refine u C D E F G ⟨λt j=>?_,B.ds.trans ?_⟩ H
    ·have I:t∉dstsOf rest:=λK=>j (by simp only[dstsOf,Wg];split<;>simp_all [dstsOf])
     rw[B.get t I];exact(QB.put (W:=dstsOf (o::rest)) (QB.refl _ a) (λt j=>ur Cl j)).get t j
    ·cases o.dst<;>rfl
   unfold wpListIn;rcases uq s b with⟨y,c,d,b⟩|⟨y,c,d,b⟩
   ·rw[if_pos y];split at b
    ·rename_i k;have w:JU o:=WT (P:=P) (by rw[k];intro x;cases x);obtain⟨v,z,b⟩:=ug d w b;refine EV.wpIn (YJ (P:=P) (by rw[k];intro x;cases x)) ?_;unfold EV;rw[z];exact next v c e f d b
    ·rename_i k;obtain⟨v,st,z,J,b⟩:=cy (A:=A) d b;refine EV.wpIn (YJ (P:=P) (by rw[k];intro x;cases x)) ?_;unfold EV;rw[z e J f];exact next v c e f d b
    ·refine EV.wpIn (AGk b) ((uk d b f).mono ?_);rintro v L ⟨g,h,rfl,b⟩;exact next v c g h d b
   ·rw[if_neg (by rw[y];simp)];exact⟨λ_ _=>trivial,next undef c e f d b⟩
def gP(P:Q1)(a:Oper):Bool:=match cls P a with| .fx=>false|_=>true
abbrev Ke:=Env->aa->List (Nat×(aa->Prop))->Prop
def nH(A:ar)(P:Q1)(N:Nat)(ops:Array Oper)(ord:Nat->Nat->Bool)(i:Nat)(K:Ke):Ke:=λa c d=>
 match ops[i]? with
 |none=>False
 |some b=>match nc N b.dst with
  |false=>False
  |true=>nG ops b a
   (λa=>match cls P b with
    | .pure=>nj P b a λv=>K (a.put b.dst v) c d
    | .load=>nE P b a c λv st=>K (a.put b.dst v) c ((i,st)::d)
    | .fx=>jT A P ops b a c λv e=>qi (AQh ord i e d) (K (a.put b.dst v) e d))
   (λa=>K (a.put b.dst undef) c d)
def qj(a:Nat->Prop):List Nat->Prop
 | []=>True
 | [i]=>a i
 |i::l=>a i/\qj a l
theorem uv {c:Nat->Prop}: ∀ {l:List Nat},qj c l-> ∀i∈l,c i
 | [],_,_,a=>by cases a
 | [j],a,i,b=>by
  have:i=j:=by simpa using b
  subst this;exact a
 |j::x::l,a,i,b=>by
  rcases List.mem_cons.1 b with rfl|b
  ·exact a.1
  ·exact uv a.2 i b
def jU(A:ar)(P:Q1)(N:Nat)(ops:Array Oper)(ord:Nat->Nat->Bool)(c:Env->aa->Prop):Nat->List Nat->Ke
 |_,[]=>λa b _=>c a b
 |0,_::_=>λ_ _ _=>False
 |f+1,x::l=>λa b d=>
  match kR ops (gP P) ord (x::l) with
  |some i=>nH A P N ops ord i (jU A P N ops ord c f ((x::l).erase i)) a b d
  |none=>qj (λi=>nH A P N ops ord i (jU A P N ops ord c f ((x::l).erase i)) a b d) ((x::l).filter (Qy ord (x::l)))
def qk(c d:List (Nat×(aa->Prop))):Prop:= ∀b∈d,(∀ a,b.2 a)\/ ∃p∈c,p.1=b.1/\ ∀a,p.2 a->b.2 a
theorem Yn {y:Act}{i:Nat}{K:Ke}{F:Kt}
  (u: ∀j e a k l,K j e k->Fits N a j->QB (dstsOf ops.toList) y a->qk k l->F a e l)
  {j:Env} {e:aa} {a:Act} {k:List (Nat×(aa->Prop))} {l:List (Nat×(aa->Prop))}
  (b:nH A P N ops ord i K j e k) (H:Fits N a j) (I:QB (dstsOf ops.toList) y a) (n:qk k l):Eu P A ops (gP P) ord i F a e l:=by
 unfold nH at b;unfold Eu;split at b
 ·exact b.elim
 ·rename_i g G;have J:g∈ops.toList:=by rw[Array.mem_toList_iff];exact Wk G
  try rw[G]
  try simp only
  split at b
  ·exact b.elim
  ·rename_i hd;have w: ∀v,QB (dstsOf ops.toList) y (a.put g.dst v):=λv=>I.put (λt L=>ur J L)
   rcases uq H b with⟨z,M,d,b⟩|⟨z,M,d,b⟩
   ·rw[if_pos z];split at b
    ·rename_i h;have o:gP P g=true:=by simp[gP,h]
     rw[if_pos o];have O:JU g:=WT (P:=P) (by rw[h];intro x;cases x);obtain⟨v,q,b⟩:=ug d O b;refine⟨v,λB=>q _,?_⟩;refine u _ _ _ _ _ b (d.put hd) (w v) ?_;intro s c;rcases List.mem_cons.1 c with rfl|c
     ·exact .inl λe B=>q _
     ·exact n s c
    ·rename_i h;have o:gP P g=true:=by simp[gP,h]
     rw[if_pos o];obtain⟨v,st,q,Q,b⟩:=cy (A:=A) d b;refine⟨v,q e Q,?_⟩;refine u _ _ _ _ _ b (d.put hd) (w v) ?_;intro s c;rcases List.mem_cons.1 c with rfl|c
     ·exact .inr ⟨(i,st),Cl,rfl,q⟩
     ·rcases n s c with f|⟨p,C,f,D⟩
      ·exact .inl f
      ·exact .inr ⟨p,AF _ C,f,D⟩
    ·rename_i h;have o: ¬gP P g=true:=by simp[gP,h]
     rw[if_neg o];intro B;refine(uk d b B).mono ?_;rintro v U ⟨E,R,rfl,b⟩;obtain⟨S,b⟩:=uo b;refine⟨E,R,rfl,?_,?_⟩
     ·intro s c T;rcases n s c with f|⟨p,C,f,D⟩
      ·exact f E
      ·exact D E (S _ (List.mem_map.2 ⟨p,List.mem_filter.2 ⟨C,by rw[f];exact T⟩,rfl⟩))
     ·exact u _ _ _ _ _ b (d.put hd) (w v) n
   ·rw[if_neg (by rw[z];simp)];exact u _ _ _ _ _ b (d.put hd) (w undef) n
theorem ql {q:Env->aa->Prop}{a0:Act}{Q:Act->aa->Prop}(n: ∀o s t,Fits N o s->QB (dstsOf ops.toList) a0 o->q s t->Q o t):
  ∀(f:Nat) (l:List Nat) (c:Env) (d:aa) (a:Act) (e:List (Nat×(aa->Prop))) (g:List (Nat×(aa->Prop))),
   jU A P N ops ord q f l c d e->Fits N a c->QB (dstsOf ops.toList) a0 a->qk e g->FT P A ops (gP P) ord Q f l a d g
 |_,[],c,d,a,e,g,b,h,j,_=>by
  unfold jU at b;unfold FT;exact n a c d h j b
 |0,_::_,c,d,a,e,g,b,_,_,_=>by
  unfold jU at b;exact b.elim
 |f+1,x::l,c,d,a,e,g,b,h,j,k=>by
  unfold jU at b;unfold FT;split
  ·rename_i i p;rw[p] at b;exact Yn (λc d a e g b h j k=>ql n f _ c d a e g b h j k) b h j k
  ·rename_i p;rw[p] at b;intro i u v;exact Yn (λc d a e g b h j k=>ql n f _ c d a e g b h j k) (uv b i (List.mem_filter.2 ⟨u,v⟩)) h j k
def lP(A:ar)(P:Q1)(N:Nat)(ops:Array Oper)(d:Bool)(a:Env)(b:aa)(c:Env->aa->Prop):Prop:=
 match d with
 |false=>UI A P N ops ops.toList a b c
 |true=>match nV ops (gP P) (pg ops) with
  |true=>jU A P N ops (pg ops) c ops.size (List.range ops.size) a b []
  |false=>False
theorem AGE {id:Nat}{g:Bool}{h:Env}{i:aa}{f:Env->aa->Prop}{a:Act}{q:Nat}{Q:Exit->Act->World->Prop}(s:P.follows .mixedOrders=true)
  (e:lP A P N ops g h i f) (o:Fits N a h) (p: ∀b c d j,Fits N b c->QB (dstsOf ops.toList) a b->f c d->Q .normal b (A.at d j)):
  (Code.region id ops g).wpIn (Fw r) m P Q a (A.at i q):=by
 unfold lP at e;cases g with
 |false=>exact wpIn_region_list (uu _ _ _ _ _ e o p)
 |true=>
  simp only[] at e;split at e
  ·rename_i t;refine Zr (qb:=gP P) (ord:=pg ops) (Q:=λb d=> ∃c,Fits N b c/\QB (dstsOf ops.toList) a b/\f c d) ?_ s t ?_
   ·rintro b d j ⟨c,k,l,n⟩;exact p b c d j k l n
   ·exact ql (Q:=λb d=> ∃c,Fits N b c/\QB (dstsOf ops.toList) a b/\f c d) (a0:=a) (λb c d k l n=>⟨c,k,l,n⟩) _ _ h i a [] []
     e o (QB.refl _ _) (λ_ u=>by cases u)
  ·exact e.elim
end
inductive Lv where
 |one (s:Sc)
 |agg (l:List Sc)
def lS:List Sc->Type
 | []=>Unit
 |s::l=>s.Ty×lS l
def jW:(l:List Sc)->lS l->List J0
 | [],_=> []
 |s::l,x=>s.val x.1::jW l x.2
def Lv.Ty:Lv->Type
 | .one s=>s.Ty
 | .agg l=>lS l
def Lv.val:(v:Lv)->v.Ty->J0
 | .one s,x=>s.val x
 | .agg l,x=> .agg (jW l x).toArray
def Sc.un(v:J0):(s:Sc)->(s.Ty->Prop)->Prop
 | .int a,K=>match v with| .int d e=>(match decide (d=a) with|true=>K e|false=>False)|_=>False
 | .bool,K=>match v with| .bool b=>K b|_=>False
 | .str,K=>match v with| .string s=>K s|_=>False
 | .ptr,K=>match v with| .pointer p=>K p|_=>False
 | .sl,K=>match v with| .slice p l c=>K ⟨p,l,c⟩|_=>False
 | .map,K=>match v with| .map f=>K f|_=>False
 | .any,K=>K v
 | .jk a,K=>match v with| .float d e=>(match decide (d=a) with|true=>K e|false=>False)|_=>False
 | .jl a,K=>match v with| .complex d e m=>(match decide (d=a) with|true=>K (e,m)|false=>False)|_=>False
theorem Sc.dy {v:J0}: ∀ {s:Sc} {K:s.Ty->Prop},s.un v K-> ∃x,v=s.val x/\K x
 | .int c,K,a=>by
  cases v<;>simp only[Sc.un] at a
  rename_i d b;split at a
  ·rename_i hd;have hd:=of_decide_eq_true hd;subst hd;exact⟨b,rfl,a⟩
  ·exact a.elim
 | .bool,K,a=>by cases v<;>simp only[Sc.un] at a;exact⟨_,rfl,a⟩
 | .str,K,a=>by cases v<;>simp only[Sc.un] at a;exact⟨_,rfl,a⟩
 | .ptr,K,a=>by cases v<;>simp only[Sc.un] at a;exact⟨_,rfl,a⟩
 | .sl,K,a=>by cases v<;>simp only[Sc.un] at a;exact⟨_,rfl,a⟩
 | .map,K,a=>by cases v<;>simp only[Sc.un] at a;exact⟨_,rfl,a⟩
 | .any,K,a=>⟨v,rfl,a⟩
 | .jk c,K,a=>by
  cases v<;>simp only[Sc.un] at a
  rename_i d b;split at a
  ·rename_i hd;have hd:=of_decide_eq_true hd;subst hd;exact⟨b,rfl,a⟩
  ·exact a.elim
 | .jl c,K,a=>by
  cases v<;>simp only[Sc.un] at a
  rename_i d b m;split at a
  ·rename_i hd;have hd:=of_decide_eq_true hd;subst hd;exact⟨(b,m),rfl,a⟩
  ·exact a.elim
def qy:(l:List Sc)->List J0->(lS l->Prop)->Prop
 | [],[],K=>K ()
 |s::l,v::a,K=>s.un v λx=>qy l a λb=>K (x,b)
 | [],_::_,_=>False
 |_::_,[],_=>False
theorem vd: ∀ {l:List Sc} {c:List J0} {K:lS l->Prop},qy l c K-> ∃b,c=jW l b/\K b
 | [],[],_,a=>⟨(),rfl,a⟩
 |s::l,v::c,K,a=>by
  obtain⟨x,d,e⟩:=Sc.dy a;obtain⟨b,f,g⟩:=vd e;exact⟨(x,b),by rw[d,f];rfl,g⟩
 | [],_::_,_,a=>a.elim
 |_::_,[],_,a=>a.elim
def Lv.un(v:J0):(a:Lv)->(a.Ty->Prop)->Prop
 | .one s,K=>s.un v K
 | .agg l,K=>match v with| .agg b=>qy l b.toList K|_=>False
theorem Lv.dy {v:J0}: ∀ {b:Lv} {K:b.Ty->Prop},b.un v K-> ∃x,v=b.val x/\K x
 | .one s,K,a=>Sc.dy a
 | .agg l,K,a=>by
  cases v<;>simp only[Lv.un] at a
  rename_i e;obtain⟨c,d,a⟩:=vd a;refine⟨c,?_,a⟩;simp only[Lv.val];rw[<- d]
abbrev Live:=List (Nat×Lv)
def gQ:Live->Type
 | []=>Unit
 |x::a=>x.2.Ty×gQ a
def NL:(L:Live)->Env->(gQ L->Prop)->Prop
 | [],_,K=>K ()
 |x::b,a,K=>match a.get x.1 with|some v=>x.2.un v λc=>NL b a λd=>K (c,d)|none=>False
def LX:(L:Live)->gQ L->Nat->Option J0
 | [],_,_=>none
 |x::b,a,t=>bif Nat.beq t x.1 then some (x.2.val a.1) else LX b a.2 t
def j8(t:Nat):List Nat->Bool
 | []=>false
 |x::a=>bif Nat.beq t x then true else j8 t a
def GM(L:Live)(b:List Nat)(a:Env)(c:gQ L):Env:=
 {get:=λt=>match LX L c t with|some v=>some v|none=>bif j8 t b then a.get t else none,ds:=a.ds}
def NT(b a:List Nat):Bool:=match b with| []=>true|x::c=>bif j8 x a then false else NT c a
theorem Yd {t:Nat}: ∀ {l:List Nat},j8 t l=true↔t∈l
 | []=>by simp[j8]
 |x::b=>by
  unfold j8;by_cases a:t=x
  ·subst a;simp
  ·rw[Tm a];simp only[cond_false,GB,a,false_or];exact Yd
theorem UZ {c:List Nat}: ∀ {e:List Nat},NT e c=true-> ∀t∈e,t∉c
 | [],_,_,f=>by cases f
 |x::h,a,t,d=>by
  unfold NT at a;cases b:j8 x c with
  |true=>rw[b] at a;cases a
  |false=>
   rw[b] at a;rcases List.mem_cons.1 d with rfl|d
   ·intro g;rw[Yd.2 g] at b;cases b
   ·exact UZ a t d
theorem JD {d:Env}: ∀ {L:Live} {K:gQ L->Prop},NL L d K-> ∃c,(∀ t v,LX L c t=some v->d.get t=some v)/\K c
 | [],K,b=>⟨(),λ_ _ a=>(by cases a),b⟩
 |(e,g)::h,K,b=>by
  unfold NL at b;split at b
  ·rename_i v i;obtain⟨x,j,k⟩:=Lv.dy b;obtain⟨c,l,m⟩:=JD k;refine⟨(x,c),λt v a=>?_,m⟩;change (bif Nat.beq t e then some (g.val x) else LX h c t)=some v at a;by_cases f:t=e
   ·subst f;have n:Nat.beq t t=true:=by simp
    rw[n] at a;rw[<- a,cond_true,<-j];exact i
   ·rw[Tm f] at a;exact l t v a
  ·exact b.elim
theorem vg {L:Live}{b:List Nat}{f:Env}{c:gQ L}{t:Nat}{v:J0}(a:(GM L b f c).get t=some v):
  LX L c t=some v\/(LX L c t=none/\t∈b/\f.get t=some v):=by
 unfold GM at a;simp only at a;split at a
 ·rename_i u d;rw[d];exact .inl a
 ·rename_i d;cases e:j8 t b with
  |false=>rw[e] at a;cases a
  |true=>rw[e] at a;exact .inr ⟨d,Yd.1 e,a⟩
theorem AGq {L:Live}{c d:gQ L}{t:Nat}(a:LX L c t=none):LX L d t=none:=by
 induction L with
 |nil=>rfl
 |cons x f e=>
  unfold LX at a ⊢;by_cases b:t=x.1
  ·subst b;simp at a
  ·rw[Tm b] at a ⊢;exact e a
structure FW (W:List Nat) (nd:Bool) (a a':Act):Prop where
 get: ∀t,t∉W->a'.tmps[t]? =a.tmps[t]?
 ds:nd=true->a'.defers=a.defers
theorem FW.refl {W:List Nat}{nd:Bool}{a:Act}:FW W nd a a:=⟨λ_ _=>rfl,λ_=>rfl⟩
theorem FW.trans {e f V:List Nat}{nd g h:Bool}{a b c:Act}(i:FW e nd a b)(j:FW f g b c)(m: ∀t∈e,t∈V)(n: ∀t∈f,t∈V)(k:h=true->nd=true/\g=true):FW V h a c:=
 ⟨λt l=>(j.get t λd=>l (n t d)).trans (i.get t λd=>l (m t d)),λd=>(j.ds (k d).2).trans (i.ds (k d).1)⟩
theorem FW.ak {d V:List Nat}{nd e:Bool}{a b:Act}(f:FW d nd a b)(g: ∀t∈d,t∈V)(h:e=true->nd=true):FW V e a b:=
 ⟨λt i=>f.get t λc=>i (g t c),λc=>f.ds (h c)⟩
theorem Fits.join {N:Nat}{a b:Act}{d e:Env}(f:Fits N a d)(g:Fits N b e){h:List Nat}{nd:Bool}(l:nd=true)(i:FW h nd a b){L:Live}{j:List Nat}(m:NT j h=true){k:gQ L}
  (n: ∀t v,LX L k t=some v->e.get t=some v):Fits N b (GM L j d k):=by
 refine⟨g.size,λt v o=>?_,(i.ds l).trans f.ds⟩;rcases vg o with c|⟨_,p,c⟩
 ·exact g.get t v (n t v c)
 ·rw[i.get t (UZ m t p)];exact f.get t v c
theorem Fits.again {N:Nat}{a b:Act}{e f:Env}{L:Live}{c:List Nat}{m g:gQ L}(h:Fits N a (GM L c e m))(i:Fits N b f){j:List Nat}{nd:Bool}(n:nd=true)(k:FW j nd a b)
  (o:NT c j=true) (p: ∀t v,LX L g t=some v->f.get t=some v):Fits N b (GM L c e g):=by
 refine⟨i.size,λt v q=>?_,(k.ds n).trans h.ds⟩;rcases vg q with d|⟨r,l,d⟩
 ·exact i.get t v (p t v d)
 ·rw[k.get t (UZ o t l)];refine h.get t v ?_;unfold GM;simp only;rw[AGq r,Yd.2 l];exact d
inductive bV where
 |none
 |bB (L:Live) (kept:List Nat)
 |seq (x y:bV)
 |bE (L:Live) (kept:List Nat) (x y:bV)
 |cond (x y:bV)
 |block (x:bV)
 |bK (L:Live) (kept:List Nat) (x:bV)
 |loop (L:Live) (kept:List Nat) (x:bV)
 |range (ps:List Lv) (x y:bV)
 |scope (L:Live) (kept:List Nat) (x y z:bV)
def writes:Code->List Nat
 | .region _ c _=>dstsOf c.toList
 | .seq a b=>writes a++writes b
 | .cond _ a b=>writes a++writes b
 | .block _ a=>writes a
 | .loop a=>writes a
 | .scope a=>writes a
 |_=> []
def F8:Code->Bool
 | .rangeFunc .. =>false
 | .seq a b=>F8 a&&F8 b
 | .cond _ a b=>F8 a&&F8 b
 | .block _ a=>F8 a
 | .loop a=>F8 a
 | .scope a=>F8 a
 |_=>true
inductive iJ where
 |ai (i:Nat)
 |eO (l:Nat)
def Zh:Option Nat->Code
 |none=> .ret
 |some id=> .exit id
def iK:List Lv->Type
 | []=>Unit
 |lv::l=>lv.Ty×iK l
def kO:(l:List Lv)->iK l->List J0
 | [],_=> []
 |lv::l,x=>lv.val x.1::kO l x.2
theorem YC: ∀(l:List Lv) (x:iK l),(kO l x).length=l.length
 | [],_=>rfl
 |_::l,x=>by simp[kO,YC l x.2]
def jX:Env->List Tmp->List J0->Env
 |e,p::ps,v::a=>jX (e.set p v) ps a
 |e,_,_=>e
def XD(k:ar)(P:Q1)(fv:J0)(e:List Lv)(body:iK e->Nat->aa->(aa->Prop)->(Option Nat->aa->Prop)->Prop)(a:aa)(n:aa->Prop)(o:Option Nat->aa->Prop):Prop:=
 ∀(rec:Go.Loop),rec.state= .ready->rec.pending=none->rec.params.size=e.length->
  (∀ (x:iK e) (h:aa) (i:A2O),h[a.size+1]? =some (.loop rec)->
   body x (a.size+1) h
    (λc=> ∃d,c[a.size+1]? =some (.loop d)/\i (.bool true) (c.setIfInBounds (a.size+1) (.loop {d with state:= .ready,pending:=none})))
    (λg c=> ∃d,c[a.size+1]? =some (.loop d)/\i (.bool false) (c.setIfInBounds (a.size+1) (.loop {d with state:= .done,pending:=some (Zh g)})))->
   Eb k P (.func (.yield (a.size+1)) #[] #[]) (kO e x).toArray h i)->
  ∃f l,SV P (do let m <-Deferred.ofValue fv #[.func (.yield (a.size+1)) #[] #[]];invoke m.target m.args:Sem Next) (λx=>x= .enter f l)/\
   AA k P f l ((a.push (.deferred (some []))).push (.loop rec)) λ_ j=>
    ∃b,j[a.size+1]? =some (.loop b)/\b.state≠ .busy/\
     ((b.pending=none/\n (j.setIfInBounds (a.size+1) (.loop {b with state:= .exhausted})))\/
     ∃g,b.pending=some (Zh g)/\o g (j.setIfInBounds (a.size+1) (.loop {b with state:= .exhausted})))
def Fh(n:ar)(P:Q1)(N:Nat)(q:Bool):Code->bV->Env->aa->(Env->aa->Prop)->(iJ->Env->aa->Prop)->(Env->aa->Prop)->Prop
 | .skip,_,d,e,k,_,_=>k d e
 | .exit id,_,d,e,_,kb,_=>kb (.ai id) d e
 | .ret,_,d,e,_,_,m=>m d e
 | .label _,_,d,e,k,_,_=>k d e
 | .goto l,_,d,e,_,kb,_=>kb (.eO l) d e
 | .region _ y u,r,d,e,k,_,_=>match r with
  | .bB L o=>match NT o (dstsOf y.toList) with
   |true=>aj (λj e=>k (GM L o d j) e) λK=>lP n P N y u d e λh g=>NL L h λj=>K j g
   |false=>False
  |_=>lP n P N y u d e k
 | .seq a b,r,d,e,k,kb,m=>match r with
  | .seq x t=>Fh n P N q a x d e (λd e=>Fh n P N q b t d e k kb m) kb m
  | .bE L o x t=>match NT o (writes a)&&F8 a with
   |true=>aj (λj e=>Fh n P N q b t (GM L o d j) e k kb m) λK=>Fh n P N q a x d e (λh g=>NL L h λj=>K j g) kb m
   |false=>False
  |_=>False
 | .cond c p C,r,d,e,k,kb,m=>match r with
  | .cond x t=>rd d c λv=>match v with| .bool b=>ag b (Fh n P N q p x d e k kb m) (Fh n P N q C t d e k kb m)|_=>False
  |_=>False
 | .block id c,r,d,e,k,kb,m=>match r with
  | .block x=>Fh n P N q c x d e k (λs h g=>match s with| .ai i=>(match Nat.beq i id with|true=>k h g|false=>kb (.ai i) h g)| .eO l=>kb (.eO l) h g) m
  | .bK L o x=>match NT o (writes c)&&F8 c with
   |true=>aj (λj e=>k (GM L o d j) e) λK=>
     Fh n P N q c x d e (λh g=>NL L h λj=>K j g) (λs h g=>match s with| .ai i=>(match Nat.beq i id with|true=>NL L h λj=>K j g|false=>kb (.ai i) h g)| .eO l=>kb (.eO l) h g) m
   |false=>False
  |_=>False
 | .loop c,r,d,e,_,kb,m=>match r with
  | .loop L o x=>match NT o (writes c)&&F8 c with
   |true=>NL L d λj=>Loop (λK j e=>Fh n P N q c x (GM L o d j) e (λh g=>NL L h λj=>K j g) kb m) j e
   |false=>False
  |_=>False
 | .rangeFunc f ps D c,r,d,e,k,kb,m=>match r with
  | .range z x t=>match (!q)&&Nat.beq z.length ps.size&&ps.toList.all λp=>Nat.blt p N with
   |true=>rd d f λfv=>XD n P fv z
     (λargs l E F B=>Fh n P N true D x (jX {get:=d.get,ds:= []} ps.toList (kO z args)) E
      (λh g=> ∃A,g[l]? =some (.loop A)/\A.state= .ready/\
       Fh n P N true c t h (g.setIfInBounds l (.loop {A with state:= .busy})) (λ_ w=>F w) (λs _ w=>match s with| .ai i=>B (some i) w| .eO _=>False) (λ_ w=>B none w))
      (λ_ _ _=>False) (λ_ _=>False))
     e
     (λg=>k {get:=d.get,ds:=e.size::d.ds} g)
     (λs g=>match s with|none=>m {get:=d.get,ds:=e.size::d.ds} g|some i=>kb (.ai i) {get:=d.get,ds:=e.size::d.ds} g)
   |false=>False
  |_=>False
 | .scope (.seq b (.seq c (.seq (.label l) u))),r,d,e,k,kb,m=>match r with
  | .scope L o G x t=>match ((findLabel b l).isNone&&(findLabel c l).isNone)&&(NT o (writes c++writes u)&&(F8 b&&(F8 c&&F8 u))) with
   |true=>Fh n P N q b G d e (λd e=>Fh n P N q c x d e
     (λh g=>NL L h λj=>Loop (λK j e=>Fh n P N q u t (GM L o d j) e k
      (λs h g=>match s with| .ai i=>kb (.ai i) h g| .eO H=>match Nat.beq H l with|true=>NL L h λj=>K j g|false=>False) m) j g)
     (λs h g=>match s with| .ai i=>kb (.ai i) h g| .eO _=>False) m) (λs h g=>match s with| .ai i=>kb (.ai i) h g| .eO _=>False) m
   |false=>False
  |_=>False
 |_,_,_,_,_,_,_=>False
def dq(d:ar)(N:Nat)(e:List Nat)(nd:Bool)(f:Act)(g:Env->aa->Prop)(kb:iJ->Env->aa->Prop)(h:Env->aa->Prop):Exit->Act->World->Prop:=
 λx a i=> ∃b c j,i=d.at c j/\Fits N a b/\FW e nd f a/\(match x with
  | .normal=>g b c
  | .exit id=>kb (.ai id) b c
  | .goto l=>kb (.eO l) b c
  | .ret=>h b c
  |_=>False)
theorem dq.mono {e:ar}{N:Nat}{f V:List Nat}{nd g:Bool}{h:Act}{j k:Env->aa->Prop}{kb l:iJ->Env->aa->Prop}{m n:Env->aa->Prop}
  (q: ∀t∈f,t∈V) (r:g=true->nd=true) (s: ∀b c,j b c->k b c) (o: ∀i b c,kb i b c->l i b c) (u: ∀b c,m b c->n b c) {x:Exit} {a:Act} {p:World}
  (v:dq e N f nd h j kb m x a p):dq e N V g h k l n x a p:=by
 obtain⟨b,c,w,y,z,A,d⟩:=v;refine⟨b,c,w,y,z,A.ak q r,?_⟩;cases x<;>simp only at d ⊢
 ·exact s _ _ d
 ·exact o _ _ _ d
 ·exact o _ _ _ d
 ·exact u _ _ d
section
variable {F : Fence} {n : Nat} {P : Q1} {c : Code} {Q : Exit -> Act -> World -> Prop} {a : Act} {w : World}
def lT(F:Fence)(n:Nat)(P:Q1)(c:Code)(Q:Exit->Act->World->Prop)(a:Act)(w:World):Prop:=
 ∀(b:Frame) (e:List Item) (d:List Frame),b.roundOf=F.round->F.fn b.fn->F.room (d.length+1+n)->
  ∃f g h,Q f g h/\ArrivesIn (Machine.fenced P F) P (lone (b.atR a (.inLoop c::e)) d w) b e d f g h
theorem vm(r:c.wpIn F n P (Exit.then (lT F n P c Q) Q) a w)(b:Frame)(i:List Item)(f:List Frame)(k:b.roundOf=F.round)(m:F.fn b.fn)(o:F.room (f.length+1+n)):
  ∃j p q,Q j p q/\ArrivesIn (Machine.fenced P F) P (lone (b.atR a (.code c:: .inLoop c::i)) f w) b i f j p q:=by
 obtain⟨j,g,h,d,e⟩:=r b (.inLoop c::i) f k m o;cases j with
 |normal=>
  obtain⟨s,t,u,v,y⟩:=d b i f k m o;exact⟨s,t,u,v,.of_steps e y⟩
 |exit id=>exact⟨_,g,h,d,.pass (x:= .inLoop c) rfl (λ_ _=> .inl (by simp)) e⟩
 |goto l=>exact⟨_,g,h,d,.pass (x:= .inLoop c) rfl (λ_ _=> .inl (by simp)) e⟩
 |ret=>exact⟨_,g,h,d,.pass (x:= .inLoop c) rfl (λ_ _=> .inl (by simp)) e⟩
 |panic z=>exact⟨_,g,h,d,.pass (x:= .inLoop c) rfl (λ_ _=> .inl (by simp)) e⟩
 |outgrown=>exact⟨_,g,h,d,.pass (x:= .inLoop c) rfl (λ_ _=> .inl (by simp)) e⟩
theorem AHr(f:c.wpIn F n P (Exit.then (lT F n P c Q) Q) a w):lT F n P c Q a w:=λb g h i d e=>
 let ⟨j,k,l,m,o⟩:=vm f b g h i d e
 ⟨j,k,l,m,.of_steps (.one (fenced_calm d e rfl) stepR_inLoop) o⟩
theorem AGF(f:c.wpIn F n P (Exit.then (lT F n P c Q) Q) a w):(Code.loop c).wpIn F n P Q a w:=λb g h i d e=>
 let ⟨j,k,l,m,o⟩:=vm f b g h i d e
 ⟨j,k,l,m,.of_steps (.one (fenced_calm d e rfl) stepR_loop) o⟩
end
def Xn(F:Fence)(n:Nat)(P:Q1)(c rest:Code)(Q:Exit->Act->World->Prop)(a:Act)(w:World):Prop:=
 ∀(b:Frame) (e:List Item) (d:List Frame),b.roundOf=F.round->F.fn b.fn->F.room (d.length+1+n)->
  ∃f g h,Q f g h/\ArrivesIn (Machine.fenced P F) P (lone (b.atR a (.code rest:: .inScope c::e)) d w) b e d f g h
def nN(l:Nat)(b:Act->World->Prop)(Q:Exit->Act->World->Prop):Exit->Act->World->Prop
 | .goto d,a,w=>d=l/\b a w
 |e,a,w=>Q e a w
section
variable {F : Fence} {n : Nat} {P : Q1} {Q : Exit -> Act -> World -> Prop} {a : Act} {w : World}
theorem AEI {P:Q1}{b:Frame}{a:Act}{d:List Item}{e:List Frame}{w:World}{c:Code}:step P (lone (b.atR a (.inScope c::d)) e w)= .next (lone (b.atR a d) e w):=
 step_lone_go (by simp[stepG,stepG.exec,Frame.atR])
theorem AHl {P:Q1}{b:Frame}{a:Act}{d:List Item}{e:List Frame}{w:World}{c:Code}:step P (lone (b.atR a (.code (.scope c)::d)) e w)= .next (lone (b.atR a (.code c:: .inScope c::d)) e w):=
 step_lone_go (by simp[stepG,stepG.exec,Frame.atR])
theorem vo {c rest x:Code}{l:Nat}(q:findLabel c l=some rest)(r:x.wpIn F n P (nN l (Xn F n P c rest Q) Q) a w):Xn F n P c x Q a w:=by
 intro b e m o i j;have s:gotoIn l (.inScope c::e)=some (.code rest:: .inScope c::e):=by simp[gotoIn,q]
 obtain⟨t,g,h,f,d⟩:=r b (.inScope c::e) m o i j;cases t with
 |normal=>exact⟨.normal,g,h,f,StepsIn.trans d (.one (fenced_calm i j rfl) AEI)⟩
 |exit id=>
  have p:exitTo id (.inScope c::e)=exitTo id e:=by simp[exitTo]
  exact⟨.exit id,g,h,f,λu k=>d.1 u (by rw[p];exact k),λv k=>d.2 v (by rw[p];exact k)⟩
 |goto E=>
  obtain⟨rfl,y⟩:=f;obtain⟨z,A,B,C,D⟩:=y b e m o i j;exact⟨z,A,B,C,.of_steps (d.1 _ s) D⟩
 |ret=>exact⟨_,g,h,f,d⟩
 |panic G=>exact⟨_,g,h,f,d⟩
 |outgrown=>exact⟨_,g,h,f,d⟩
theorem AER {c rest:Code}{l:Nat}(f:findLabel c l=some rest)(g:c.wpIn F n P (nN l (Xn F n P c rest Q) Q) a w):(Code.scope c).wpIn F n P Q a w:=λb h i j d e=>
 let ⟨k,m,o,p,q⟩:=vo f g b h i j d e
 ⟨k,m,o,p,.of_steps (.one (fenced_calm d e rfl) AHl) q⟩
end
theorem QB.g {b:List Nat}{nd:Bool}{a d:Act}(e:QB b a d):FW b nd a d:=⟨e.get,λ_=>e.ds⟩
theorem ARo(d:ar)(b:aa)(n:Nat):(d.at b n).heap=b:=rfl
theorem run_getLoop {P:Q1}{d:ar}{b:aa}{n l:Nat}{rec:Go.Loop}(e:b[l]? =some (.loop rec)):(Instr.getLoop l).run P (d.at b n)= .ok rec (d.at b n):=by simp[Instr.getLoop,Sem.run_bind,getObj,Sem.run,ARo,e]
theorem XA {P:Q1}{d:ar}{b:aa}{n l:Nat}{rec:Go.Loop}{e:Obj}(f:b[l]? =some (.loop rec)):(setObj l e).run P (d.at b n)= .ok () (d.at (b.setIfInBounds l e) n):=by simp[setObj,Sem.run,f,ar.at]
theorem run_beginRound {P:Q1}{d:ar}{b:aa}{n l:Nat}{rec:Go.Loop}(e:b[l]? =some (.loop rec))(f:rec.state= .ready):
  (Instr.beginRound l).run P (d.at b n)= .ok () (d.at (b.setIfInBounds l (.loop {rec with state:= .busy})) n):=by
 simp[Instr.beginRound,Sem.run_bind,run_getLoop e,XA e,f]
theorem run_endRound {P:Q1}{e:ar}{d:aa}{n l:Nat}{rec:Go.Loop}{b:Option Code}(f:d[l]? =some (.loop rec)):
  (Instr.endRound l b).run P (e.at d n)= .ok (.bool b.isNone) (e.at (d.setIfInBounds l (.loop {rec with state:=if b.isNone then .ready else .done,pending:=b})) n):=by
 simp[Instr.endRound,Sem.run_bind,run_getLoop f,XA f]
theorem run_endLoop {P:Q1}{d:ar}{b:aa}{n l:Nat}{rec:Go.Loop}(e:b[l]? =some (.loop rec))(f:rec.state≠ .busy):
  (Instr.endLoop l).run P (d.at b n)= .ok rec.pending (d.at (b.setIfInBounds l (.loop {rec with state:= .exhausted})) n):=by
 simp_all [Instr.endLoop,Sem.run_bind,run_getLoop,XA,absurd]
theorem AEt {P:Q1}{d:ar}{b:aa}{n:Nat}{fn:Q8}{tmps:Array J0}{ps:Array Tmp}{e body:Code}:
  (Instr.enterLoop fn tmps ps e body none).run P (d.at b n)=
   .ok (b.size+1,[kI b.size]) (d.at ((b.push (.deferred (some []))).push (.loop {state:= .ready,pending:=none,fn,tmps,params:=ps,assign:=e,body,defers:=b.size})) n):=by
 simp[Instr.enterLoop,Sem.run_bind,newObj,Sem.run,ar.at,kI];rfl
theorem vq {N:Nat}: ∀(ps:List Tmp) (d:List J0) (e:Env) (tmps:Array J0),(∀ p∈ps,p<N)->Fits N {tmps:=tmps,defers:= []} e->
  Fits N {tmps:=(ps.zip d).foldl (λtmps (t,a)=>tmps.setIfInBounds t a) tmps,defers:= []} (jX e ps d)
 | [],_,_,_,_,b=>by simpa [jX] using b
 |_::_,[],_,_,_,b=>by simpa [jX] using b
 |p::ps,v::d,e,tmps,f,b=>by
  have g:=b.set (v:=v) (f p Cl);exact vq ps d (e.set p v) (tmps.setIfInBounds p v) (λh i=>f h (AF _ i)) g
def X7(P:Q1)(b:ar)(N:Nat)(c:Code):Prop:= ∀(m:Nat) (d:Bool) (e:Option Nat) (j:bV) (f:Env) (g:aa) (h:Env->aa->Prop) (kb:iJ->Env->aa->Prop) (i:Env->aa->Prop) (a:Act) (n:Nat),
  (d=false->e=none)->Fh b P N d c j f g h kb i->Fits N a f->c.wpIn (Fw e) m P (dq b N (writes c) (F8 c) a h kb i) a (b.at g n)
theorem AJX {P:Q1}{h:ar}{N:Nat}{c b body:Code}{l:Nat}(ak:X7 P h N c)(al:X7 P h N b){m:Nat}{q:Bool}{j:Option Nat}{L:Live}{z:List Nat}{U V:bV}{r:Env}{d:aa}{W:Env->aa->Prop}{kb:iJ->Env->aa->Prop}{s:Env->aa->Prop}{X a:Act}{n:Nat}{Y:List Nat}{nd:Bool}{Q:Exit->Act->World->Prop}{A:Act->World->Prop}
  (Z:q=false->j=none) (am:findLabel body l=some (.seq .skip b)) (ab:NT z (writes c++writes b)=true) (an:F8 c=true) (ao:F8 b=true)
  (ap:Fh h P N q c U r d
     (λk o=>NL L k λe=>Loop (λK e d=>Fh h P N q b V (GM L z r e) d W
      (λB k o=>match B with| .ai i=>kb (.ai i) k o| .eO C=>match Nat.beq C l with|true=>NL L k λe=>K e o|false=>False) s) e o)
     (λB k o=>match B with| .ai i=>kb (.ai i) k o| .eO _=>False) s)
  (ac:Fits N a r) (ad: ∀f,FW (writes c++writes b) true a f->FW Y nd X f) (u:dq h N Y nd X W kb s=Q) (aq:A=Xn (Fw j) m P body (.seq .skip b) Q):(Code.seq c (.seq (.label l) b)).wpIn (Fw j) m P (nN l A Q) a (h.at d n):=by
 have au: ∀t∈writes c,t∈writes c++writes b:=λt D=>List.mem_append.2 (.inl D)
 have av: ∀t∈writes b,t∈writes c++writes b:=λt D=>List.mem_append.2 (.inr D)
 let aw:gQ L->aa->Prop:=λe E=> ∀f G,Fits N f (GM L z r e)->FW (writes c++writes b) true a f->b.wpIn (Fw j) m P (nN l A Q) f (h.at E G)
 refine wpIn_seq (wpIn_mono (ak m q j U r d _ _ s a n Z ap ac) ?_);rintro H I aK ⟨ae,af,J,rfl,M,ax,p⟩;have O:FW (writes c++writes b) true a I:=ax.ak au (λ_=>an);have ag:=ad I O;cases H with
 |normal=>
  obtain⟨e,ay,az⟩:=JD p;refine wpIn_seq (wpIn_label ?_);have aA:=az aw ?_
  ·exact aA I J (ac.join M rfl O ab ay) O
  ·intro e E aC f G ah aD;refine wpIn_mono (al m q j V _ E _ _ s f G Z aC ah) ?_;rintro H v w3 ⟨R,S,x,rfl,y,aE,g⟩;have ai:FW (writes c++writes b) true f v:=aE.ak av (λ_=>ao);have aj:FW (writes c++writes b) true a v:=aD.trans ai (λ_ d=>d) (λ_ d=>d) (λ_=>⟨rfl,rfl⟩);have T:=ad v aj;cases H with
   |normal=>rw[<- u];exact⟨R,S,x,rfl,y,T,g⟩
   |exit i=>rw[<- u];exact⟨R,S,x,rfl,y,T,g⟩
   |goto C=>
    simp only at g;split at g
    ·rename_i aF;have aG:=Ix aF;subst aG;obtain⟨aL,aH,aI⟩:=JD g;refine⟨rfl,?_⟩;have hd:=aI v x (ah.again y rfl ai ab aH) aj;rw[aq] at hd ⊢;exact vo am (wpIn_seq (wpIn_skip hd))
    ·exact g.elim
   |ret=>rw[<- u];exact⟨R,S,x,rfl,y,T,g⟩
   |panic aJ=>exact g.elim
   |outgrown=>exact g.elim
 |exit i=>rw[<- u];exact⟨ae,af,J,rfl,M,ag,p⟩
 |goto C=>exact p.elim
 |ret=>rw[<- u];exact⟨ae,af,J,rfl,M,ag,p⟩
 |panic aJ=>exact p.elim
 |outgrown=>exact p.elim
theorem AJM {P:Q1}{e:ar}{N:Nat}{b c d:Code}{l:Nat}(S:X7 P e N b)(T:X7 P e N c)(U:X7 P e N d){m:Nat}{p:Bool}{s:Option Nat}{L:Live}{z:List Nat}{A V W:bV}{j:Env}{f:aa}{u:Env->aa->Prop}{kb:iJ->Env->aa->Prop}{k:Env->aa->Prop}{a:Act}{n:Nat}
  (B:p=false->s=none) (X:(findLabel b l).isNone=true) (Y:(findLabel c l).isNone=true) (Z:NT z (writes c++writes d)=true) (ab:F8 b=true) (ac:F8 c=true) (ad:F8 d=true)
  (ae:Fh e P N p b A j f (λj f=>Fh e P N p c V j f
     (λg h=>NL L g λq=>Loop (λK q f=>Fh e P N p d W (GM L z j q) f u
      (λr g h=>match r with| .ai i=>kb (.ai i) g h| .eO C=>match Nat.beq C l with|true=>NL L g λq=>K q h|false=>False) k) q h)
     (λr g h=>match r with| .ai i=>kb (.ai i) g h| .eO _=>False) k) (λr g h=>match r with| .ai i=>kb (.ai i) g h| .eO _=>False) k)
  (af:Fits N a j):(Code.scope (.seq b (.seq c (.seq (.label l) d)))).wpIn (Fw s) m P (dq e N (writes (.scope (.seq b (.seq c (.seq (.label l) d))))) (F8 (.scope (.seq b (.seq c (.seq (.label l) d))))) a u kb k) a (e.at f n):=by
 have ag:findLabel b l=none:=by simpa using X
 have ah:findLabel c l=none:=by simpa using Y
 have D:findLabel (.seq b (.seq c (.seq (.label l) d))) l=some (.seq .skip d):=by simp[findLabel,ag,ah]
 have ai:F8 (.scope (.seq b (.seq c (.seq (.label l) d))))=true:=by grind [F8]
 have E: ∀t∈writes b,t∈writes (.scope (.seq b (.seq c (.seq (.label l) d)))):=λt aj=>by simp_all [writes,HS]
 have G: ∀t∈writes c++writes d,t∈writes (.scope (.seq b (.seq c (.seq (.label l) d)))):=λt aj=>by
  simp_all [HS,writes]
 generalize ao:writes (.scope (.seq b (.seq c (.seq (.label l) d))))=H at E G ⊢;rw[ai];generalize v:dq e N H true a u kb k=Q;obtain⟨I,J⟩: ∃I:Act->World->Prop,I=Xn (Fw s) m P (.seq b (.seq c (.seq (.label l) d))) (.seq .skip d) Q:=⟨_,rfl⟩;refine AER D ?_;rw[<- J];refine wpIn_seq (wpIn_mono (S m p s A j f _ _ k a n B ae af) ?_);rintro ak al ap ⟨M,O,R,rfl,x,am,o⟩;have y:FW H true a al:=am.ak E λ_=>ab
 cases ak with
 |normal=>exact AJX T U B D Z ac ad o x (λaq an=>y.trans an (λ_ f=>f) G λ_=>⟨rfl,rfl⟩) v J
 |exit i=>rw[<- v];exact⟨M,O,R,rfl,x,y,o⟩
 |goto C=>exact o.elim
 |ret=>rw[<- v];exact⟨M,O,R,rfl,x,y,o⟩
 |panic au=>exact o.elim
 |outgrown=>exact o.elim
theorem AIq {P:Q1}{y:ar}{N:Nat}(a5:P.follows .mixedOrders=true): ∀(aE:Nat) (c:Code),SizeOf.sizeOf c<aE-> ∀(m:Nat) (C:Bool) (A:Option Nat) (G:bV) (k:Env) (d:aa) (q:Env->aa->Prop) (kb:iJ->Env->aa->Prop) (r:Env->aa->Prop) (a:Act) (n:Nat),
  (C=false->A=none)->Fh y P N C c G k d q kb r->Fits N a k->c.wpIn (Fw A) m P (dq y N (writes c) (F8 c) a q kb r) a (y.at d n):=by
 intro aE
 induction aE with
 |zero=>intro c Z;omega
 |succ aE T=>
  intro c Z;cases c with
  |skip=>intro m C A G k d q kb r a n _ e o;exact wpIn_skip ⟨k,d,n,rfl,o,FW.refl,e⟩
  |exit id=>intro m C A G k d q kb r a n _ e o;exact wpIn_exit ⟨k,d,n,rfl,o,FW.refl,e⟩
  |ret=>intro m C A G k d q kb r a n _ e o;exact wpIn_ret ⟨k,d,n,rfl,o,FW.refl,e⟩
  |label l=>intro m C A G k d q kb r a n _ e o;exact wpIn_label ⟨k,d,n,rfl,o,FW.refl,e⟩
  |goto l=>intro m C A G k d q kb r a n _ e o;exact wpIn_goto ⟨k,d,n,rfl,o,FW.refl,e⟩
  |refuse S=>intro m C A G k d q kb r a n _ e o;simp only[Fh] at e
  |region id ah V=>
   intro m C A G k d q kb r a n _ e o;have plain: ∀X,(∀ av ai ad aw,Fits N av ai->QB (dstsOf ah.toList) a av->X ai ad->dq y N (writes (.region id ah V)) (F8 (.region id ah V)) a q kb r .normal av (y.at ad aw))->
     lP y P N ah V k d X->(Code.region id ah V).wpIn (Fw A) m P (dq y N (writes (.region id ah V)) (F8 (.region id ah V)) a q kb r) a (y.at d n):=
    λX a6 a7=>AGE a5 a7 o a6
   cases G with
   |bB L aj=>
    simp only[Fh] at e;split at e
    ·rename_i H;have e:=e _ (λ_ _ d=>d);refine plain _ ?_ e;intro av ai ad aw aM ao I;obtain⟨ae,s,O⟩:=JD I;exact⟨_,ad,aw,rfl,o.join aM rfl (ao.g (nd:=true)) H s,ao.g,O⟩
    ·exact e.elim
   |_=>exact plain q (λav ai ad aw aM ao I=>⟨ai,ad,aw,rfl,aM,ao.g,I⟩) e
  |seq x S=>
   have ax:=T x (by simp at Z;omega);have aN:=T S (by simp at Z;omega);intro m C A G k d q kb r a n Y e o;have tail: ∀(X:Env->aa->Prop) (aO aP:bV),Fh y P N C x aO k d X kb r->
     (∀ h g j,Fits N h g->FW (writes x) (F8 x) a h->X g j-> ∃D,Fits N h D/\Fh y P N C S aP D j q kb r)->
     (Code.seq x S).wpIn (Fw A) m P (dq y N (writes (.seq x S)) (F8 (.seq x S)) a q kb r) a (y.at d n):=by
    intro X aO aP I ak;refine wpIn_seq (wpIn_mono (ax m C A aO k d X kb r a n Y I o) ?_);intro al h aF E;have ap: ∀t∈writes x,t∈writes (.seq x S):=λt aQ=>by grind [writes]
    have a8: ∀t∈writes S,t∈writes (.seq x S):=λt aQ=>by grind [writes]
    have aq:F8 (.seq x S)=true->F8 x=true/\F8 S=true:=λd=>by simpa [F8] using d
    cases al with
    |normal=>
     obtain⟨g,j,U,rfl,u,B,s⟩:=E;obtain⟨D,ab,aR⟩:=ak h g j u B s;refine wpIn_mono (aN m C A aP D j q kb r h U Y aR ab) ?_;rintro aY aG w2 ⟨a9,aS,ba,rfl,bb,bc,bd⟩;exact⟨a9,aS,ba,rfl,bb,B.trans bc ap a8 aq,bd⟩
    |exit id=>obtain⟨g,j,U,rfl,u,B,s⟩:=E;exact⟨g,j,U,rfl,u,B.ak ap (λd=>(aq d).1),s⟩
    |ret=>obtain⟨g,j,U,rfl,u,B,s⟩:=E;exact⟨g,j,U,rfl,u,B.ak ap (λd=>(aq d).1),s⟩
    |goto l=>obtain⟨g,j,U,rfl,u,B,s⟩:=E;exact⟨g,j,U,rfl,u,B.ak ap (λd=>(aq d).1),s⟩
    |panic aZ=>obtain⟨_,_,_,_,_,_,s⟩:=E;exact s.elim
    |outgrown=>obtain⟨_,_,_,_,_,_,s⟩:=E;exact s.elim
   cases G with
   |seq J af=>
    simp only[Fh] at e;exact tail _ J af e (λh g j u _ I=>⟨g,u,I⟩)
   |bE L aj J af=>
    simp only[Fh] at e;split at e
    ·rename_i H;simp only[A4] at H;have e:=e _ (λ_ _ d=>d);refine tail _ J af e ?_;intro h g j u B I;obtain⟨ae,s,O⟩:=JD I;exact⟨_,o.join u H.2 B H.1 s,O⟩
    ·exact e.elim
   |_=>simp only[Fh] at e
  |cond v x S=>
   have ax:=T x (by simp at Z;omega);have aN:=T S (by simp at Z;omega);intro m C A G k d q kb r a n Y e o;cases G with
   |cond J af=>
    simp only[Fh] at e;have e:=BX o e;cases aH:a.eval v<;>rw[aH] at e<;>simp only[] at e
    rename_i b;obtain⟨j,M⟩:=ag.mk e;refine wpIn_cond aH ?_;cases b with
    |true=>exact wpIn_mono (ax m C A J k d q kb r a n Y (j rfl) o) (λ_ _ _ E=>E.mono (λt aQ=>by grind [writes]) (λd=>by grind [F8]) (λ_ _ d=>d) (λ_ _ _ d=>d) (λ_ _ d=>d))
    |false=>exact wpIn_mono (aN m C A af k d q kb r a n Y (M rfl) o) (λ_ _ _ E=>E.mono (λt aQ=>by grind [writes]) (λd=>by grind [F8]) (λ_ _ d=>d) (λ_ _ _ d=>d) (λ_ _ d=>d))
   |_=>simp only[Fh] at e
  |block id x=>
   have T:=T x (by simp at Z;omega);intro m C A G k d q kb r a n Y e o;have tail: ∀(X:Env->aa->Prop) (ay:iJ->Env->aa->Prop) (J:bV),Fh y P N C x J k d X ay r->
     (∀ h g j,Fits N h g->FW (writes x) (F8 x) a h->X g j-> ∃D,Fits N h D/\q D j)->
     (∀ i h g j,Fits N h g->FW (writes x) (F8 x) a h->ay (.ai i) g j->(i=id/\ ∃D,Fits N h D/\q D j)\/(i≠id/\kb (.ai i) g j))->(∀ l g j,ay (.eO l) g j->kb (.eO l) g j)->
     (Code.block id x).wpIn (Fw A) m P (dq y N (writes (.block id x)) (F8 (.block id x)) a q kb r) a (y.at d n):=by
    intro X ay J I j M aS;refine wpIn_block (wpIn_mono (T m C A J k d X ay r a n Y I o) ?_);intro al h aF E;obtain⟨g,R,U,rfl,u,B,s⟩:=E;cases al with
    |normal=>obtain⟨D,ab,ak⟩:=j h g R u B s;exact⟨D,R,U,rfl,ab,B,ak⟩
    |exit i=>
     simp only[Exit.inBlock];rcases M i h g R u B s with⟨am,D,ab,ak⟩|⟨am,ak⟩
     ·rw[if_pos am];exact⟨D,R,U,rfl,ab,B,ak⟩
     ·rw[if_neg am];exact⟨g,R,U,rfl,u,B,ak⟩
    |ret=>exact⟨g,R,U,rfl,u,B,s⟩
    |goto l=>exact⟨g,R,U,rfl,u,B,aS l _ _ s⟩
    |panic aZ=>exact s.elim
    |outgrown=>exact s.elim
   cases G with
   |block J=>
    simp only[Fh] at e;refine tail _ _ J e (λh g j u _ I=>⟨g,u,I⟩) ?_ (λ_ _ _ d=>d);intro i h g j u _ I;by_cases am:i=id
    ·subst am;simp only[Nat.beq_refl] at I
     grind
    grind [Tm]
   |bK L aj J=>
    simp only[Fh] at e;split at e
    ·rename_i H;simp only[A4] at H;have e:=e _ (λ_ _ d=>d);have fin: ∀h g j,Fits N h g->FW (writes x) (F8 x) a h->NL L g (λae=>q (GM L aj k ae) j)-> ∃D,Fits N h D/\q D j:=by intro h g j u B I;obtain⟨ae,s,O⟩:=JD I;exact⟨_,o.join u H.2 B H.1 s,O⟩
     refine tail _ _ J e fin ?_ (λ_ _ _ d=>d);intro i h g j u B I;by_cases am:i=id
     ·subst am;simp only[Nat.beq_refl] at I;exact .inl ⟨rfl,fin h g j u B I⟩
     grind [Tm]
    ·exact e.elim
   |_=>simp only[Fh] at e
  |loop x=>
   have T:=T x (by simp at Z;omega);intro m C A G k d q kb r a n Y e o;cases G with
   |loop L aj J=>
    simp only[Fh] at e;split at e
    ·rename_i H;simp only[A4] at H;obtain⟨ae,s,e⟩:=JD e;have be:Fits N a (GM L aj k ae):=o.join o H.2 (FW.refl (W:=writes x)) H.1 s
     let K:gQ L->aa->Prop:=λae d=> ∀h n,Fits N h (GM L aj k ae)->FW (writes x) (F8 x) a h->
      x.wpIn (Fw A) m P (Exit.then (lT (Fw A) m P x (dq y N (writes x) (F8 x) a q kb r)) (dq y N (writes x) (F8 x) a q kb r)) h (y.at d n)
     have ao:=e K ?_
     ·exact AGF (ao a n be FW.refl)
     ·intro ae d bf h n u B;refine wpIn_mono (T m C A J _ d _ kb r h n Y bf u) ?_;intro al aG w2 E;obtain⟨D,M,au,rfl,ab,aT,O⟩:=E;have aI:FW (writes x) (F8 x) a aG:=B.trans aT (λ_ d=>d) (λ_ d=>d) (λd=>⟨d,d⟩);cases al with
      |normal=>
       obtain⟨bT,bg,aR⟩:=JD O;exact AHr (aR aG au (u.again ab H.2 aT H.1 bg) aI)
      |exit i=>exact⟨D,M,au,rfl,ab,aI,O⟩
      |ret=>exact⟨D,M,au,rfl,ab,aI,O⟩
      |goto l=>exact⟨D,M,au,rfl,ab,aI,O⟩
      |panic aZ=>exact O.elim
      |outgrown=>exact O.elim
    ·exact e.elim
   |_=>simp only[Fh] at e
  |rangeFunc f ps aJ x=>
   have bh:=T aJ (by simp at Z;omega);have ax:=T x (by simp at Z;omega);intro m C A G k d q kb r a n Y e o;cases G with
   |range a0 J af=>
    simp only[Fh] at e;split at e
    ·rename_i a1;simp only[A4,CI,Fl] at a1;obtain⟨⟨bi,aK⟩,bj⟩:=a1;have aK:=Ix aK;have bk:=Y bi;subst bk;have e:=BX o e;refine wpIn_rangeFunc λfn _=>?_
     let az:Go.Loop:= {state:= .ready,pending:=none,fn,tmps:=a.tmps,params:=ps,assign:=aJ,body:=x,defers:=d.size}
     have bm: ∀args:List J0,args.length=ps.size-> ∀(R:aa) (an:A2O),R[d.size+1]? =some (.loop az)->
       Fh y P N true aJ J (jX {get:=k.get,ds:= []} ps.toList args) R
        (λai ad=> ∃aL,ad[d.size+1]? =some (.loop aL)/\aL.state= .ready/\
         Fh y P N true x af ai (ad.setIfInBounds (d.size+1) (.loop {aL with state:= .busy}))
          (λ_ M=> ∃ac,M[d.size+1]? =some (.loop ac)/\an (.bool true) (M.setIfInBounds (d.size+1) (.loop {ac with state:= .ready,pending:=none})))
          (λaU _ M=>match aU with| .ai i=>(∃ ac,M[d.size+1]? =some (.loop ac)/\an (.bool false) (M.setIfInBounds (d.size+1) (.loop {ac with state:= .done,pending:=some (Zh (some i))})))| .eO _=>False)
          (λ_ M=> ∃ac,M[d.size+1]? =some (.loop ac)/\an (.bool false) (M.setIfInBounds (d.size+1) (.loop {ac with state:= .done,pending:=some (Zh none)}))))
        (λ_ _ _=>False) (λ_ _=>False)->
       Eb y P (.func (.yield (d.size+1)) #[] #[]) args.toArray R an:=by
      intro args bn R an aV aW n;have bo:(do let V <-Deferred.ofValue (.func (.yield (d.size+1)) #[] #[]) args.toArray;invoke V.target V.args:Sem Next).run P (y.at R n)=
        .ok (.round (d.size+1) fn ((ps.zip args.toArray).foldl (λtmps (t,a)=>tmps.setIfInBounds t a) a.tmps) aJ x) (y.at R n):=by
       have bp: ¬(args.toArray).size≠ps.size:=by simp[bn]
       simp only[Deferred.ofValue,Sem.run_bind,Sem.run_pure,Result.andThen_ok,invoke,Instr.yield,run_getLoop aV,Array.empty_append];show Sem.run P (if(args.toArray).size≠ps.size then _ else _) _=_;rw[if_neg bp];rfl
      rw[bo];simp only[Next.out];have bq:Fits N {tmps:=(ps.zip args.toArray).foldl (λtmps (t,a)=>tmps.setIfInBounds t a) a.tmps,defers:= []} (jX {get:=k.get,ds:= []} ps.toList args):=by have br:Fits N {tmps:=a.tmps,defers:= []} {get:=k.get,ds:= []}:=⟨o.size,o.get,rfl⟩;have:=vq ps.toList args _ a.tmps (λp E=>by simpa using bj p E) br;rw[<- Array.foldl_toList,Array.toList_zip];exact this
      refine roundIn_of_wpIn trivial (wpIn_mono (bh 0 true (some (d.size+1)) J _ R _ _ _ _ n (λd=>by cases d) aW bq) ?_);intro al h aF E;obtain⟨g,j,U,rfl,u,B,s⟩:=E;cases al<;>simp only at s
      obtain⟨aL,bs,bt,bu⟩:=s;refine⟨_,run_beginRound bs bt,?_⟩;refine wpIn_mono (ax 0 true (some (d.size+1)) af _ _ _ _ _ h U (λd=>by cases d) bu u) ?_;intro aY aG w2 bv;obtain⟨D,M,au,rfl,ab,aT,O⟩:=bv;cases aY<;>simp only at O
      ·obtain⟨ac,aA,aC⟩:=O;exact⟨_,_,run_endRound aA,_,rfl,_,_,rfl,aC⟩
      ·obtain⟨ac,aA,aC⟩:=O;exact⟨_,_,run_endRound aA,_,rfl,_,_,rfl,aC⟩
      ·obtain⟨ac,aA,aC⟩:=O;exact⟨_,_,run_endRound aA,_,rfl,_,_,rfl,aC⟩
     obtain⟨bw,bx,bz,bA⟩:=e az rfl rfl aK.symm (λx R an aV aW=>bm (kO a0 x) ((YC a0 x).trans aK) R an aV aW);obtain⟨nx,bC,rfl⟩:=Mm bz;have aD:=bC (y.at ((d.push (.deferred (some []))).push (.loop az)) n);rw[Sem.run_bind] at aD;have bD:(resolve a.eval (rangeCall f (d.size+1)) 0)=Deferred.ofValue (a.eval f) #[.func (.yield (d.size+1)) #[] #[]]:=by simp[resolve,Act.eval]
     cases hd:(Deferred.ofValue (a.eval f) #[.func (.yield (d.size+1)) #[] #[]]).run P (y.at ((d.push (.deferred (some []))).push (.loop az)) n) with
     |halt S w=>rw[hd] at aD;cases aD
     |ok V aF=>
      rw[hd] at aD;have ap:aF=y.at ((d.push (.deferred (some []))).push (.loop az)) n:=by cases aH:a.eval f<;>rw[aH] at hd<;>simp[Deferred.ofValue] at hd<;>first|exact hd.2.symm|(cases hd)
      subst ap;refine⟨d.size+1,[kI d.size],_,V,_,bw,bx,_,AEt,by rw[bD];exact hd,λ_ _=>trivial,aD,λaq=>by simp at aq,We.2 (Calls.mono (bA n) ?_)⟩;rintro bU w3 ⟨v,rfl,M,au,rfl,a2,bF,bG,a3⟩;have aX:Fits N {a with defers:= [kI d.size]++a.defers} {get:=k.get,ds:=d.size::k.ds}:=⟨o.size,o.get,by simp[o.ds]⟩;refine⟨a2.pending,_,run_endLoop bF bG,?_⟩;generalize M.setIfInBounds (d.size+1) (.loop {a2 with state:= .exhausted})=bW at a3 ⊢;rcases a3 with⟨E,bH⟩|⟨aU,E,a4⟩
      ·rw[E];exact⟨_,_,_,rfl,aX,⟨λ_ _=>rfl,λd=>by simp[F8] at d⟩,bH⟩
      ·rw[E];cases aU with
       |none=>exact wpIn_ret ⟨_,_,_,rfl,aX,⟨λ_ _=>rfl,λd=>by simp[F8] at d⟩,a4⟩
       |some i=>exact wpIn_exit ⟨_,_,_,rfl,aX,⟨λ_ _=>rfl,λd=>by simp[F8] at d⟩,a4⟩
    ·exact e.elim
   |_=>simp only[Fh] at e
  |scope b=>
   intro m C A G k d q kb r a n Y e o;cases b with
   |seq bI bJ=>
    cases bJ with
    |seq c S=>
     cases S with
     |seq z V=>
      cases z with
      |label l=>
       cases G with
       |scope L aj bX J af=>
        simp only[Fh] at e;split at e
        ·rename_i H;simp only[A4] at H;obtain⟨⟨bL,bM⟩,H,bN,bO,bP⟩:=H;have bQ:=T bI (by simp at Z;omega);have bR:=T c (by simp at Z;omega);have bS:=T V (by simp at Z;omega);exact AJM bQ bR bS Y bL bM H bN bO bP e o
        ·exact e.elim
       |_=>simp only[Fh] at e
      |_=>simp only[Fh] at e
     |_=>simp only[Fh] at e
    |_=>simp only[Fh] at e
   |_=>simp only[Fh] at e
theorem AKB {P:Q1}{b:ar}{N:Nat}(k:P.follows .mixedOrders=true)(c:Code)(m:Nat)(d:Bool)(e:Option Nat)(j:bV)(f:Env)(g:aa)(h:Env->aa->Prop)(kb:iJ->Env->aa->Prop)(i:Env->aa->Prop)(a:Act)(n:Nat)
  (l:d=false->e=none) (o:Fh b P N d c j f g h kb i) (p:Fits N a f):c.wpIn (Fw e) m P (dq b N (writes c) (F8 c) a h kb i) a (b.at g n):=
 AIq k (SizeOf.sizeOf c+1) c (Hj _) m d e j f g h kb i a n l o p
def kP(P:Q1):List ResultVar->Env->aa->(List J0->Prop)->Prop
 | [],_,_,K=>K []
 | .tmp t::d,b,c,K=>match b.get t with|some v=>kP P d b c λe=>K (v::e)|none=>False
 | .cell a t::d,b,c,K=>match b.get a with
  |some v=>(match v with| .pointer p=>At p λf=>loadT P t c f λv _=>kP P d b c λe=>K (v::e)|_=>False)
  |none=>False
def oneOf(a:List J0)(K:J0->Prop):Prop:=match a with| [v]=>K v|a=>K (.tuple a.toArray)
def vt(P:Q1)(l:List ResultVar)(a:Env)(b:aa)(K:J0->Prop):Prop:=kP P l a b λc=>oneOf c K
def qz:List Nat->aa->(aa->Prop)->Prop
 | [],a,K=>K a
 |r::b,a,K=>a[r]? =some (.deferred (some []))/\qz b (a.setIfInBounds r (.deferred none)) K
def lU:Nat->List J0->Nat->Option J0
 |_,[],_=>none
 |i,v::a,t=>bif Nat.beq t i then some v else lU (i+1) a t
def qA(P:Q1)(fn:Func)(c:A2O)(a:Env)(d:aa):Prop:=qz a.ds d λb=>vt P fn.results.toList a b λv=>c v b
def qB(A:ar)(P:Q1)(f:Q8)(b:bV)(args:List J0)(d:aa)(a:A2O):Prop:=
 match P.funcs[f]? with
 |none=>False
 |some fn=>match fn.body with
  |none=>False
  |some c=>match Nat.ble args.length fn.ntmps with
   |true=>Fh A P fn.ntmps false c b {get:=lU 0 args,ds:= []} d (qA P fn a) (λ_ _ _=>False) (qA P fn a)
   |false=>False
theorem vu: ∀ {l:List J0} {i t:Nat} {v:J0},lU i l t=some v->i<=t/\l[t-i]? =some v
 | [],_,_,_,a=>by cases a
 |u::e,i,t,v,a=>by
  unfold lU at a;by_cases b:t=i
  ·subst b;have c:Nat.beq t t=true:=by simp
   rw[c,cond_true] at a;exact⟨A0 _,by simpa using a⟩
  ·rw[Tm b,cond_false] at a;obtain⟨f,d⟩:=vu a;refine⟨by omega,?_⟩;have:t-i=(t-(i+1))+1:=by omega
   rw[this,WD];exact d
section
variable {P : Q1} {A : ar}
def nP(tmps:Array J0):ResultVar->Sem J0
 | .tmp t=>pure (tmps.getD t undef)
 | .cell x t=>do loadVar t (<- asAddr (tmps.getD x undef))
theorem AKz(fn:Func)(tmps:Array J0):results fn tmps=(do let a <-fn.results.mapM (nP tmps);pure (if b:a.size=1 then a[0] else .tuple a)):=rfl
theorem RF {N:Nat}{a:Act}{j:Env}(d:Fits N a j){e:aa}{n:Nat}: ∀ {l:List ResultVar} {K:List J0->Prop},kP P l j e K->
  ∃c,(l.mapM (nP a.tmps)).run P (A.at e n)= .ok c (A.at e n)/\K c
 | [],K,b=>⟨[],rfl,b⟩
 | .tmp t::k,K,b=>by
  unfold kP at b;split at b
  ·rename_i v f;obtain⟨c,g,h⟩:=RF (n:=n) d b;refine⟨v::c,?_,h⟩;have i:a.tmps.getD t undef=v:=by have:=d.get t v f;simp[this]
   rw[PA];simp only[Sem.run_bind,Sem.run_pure,Result.andThen_ok,nP,g,i]
  ·exact b.elim
 | .cell x t::k,K,b=>by
  unfold kP at b;split at b
  ·rename_i v f;split at b
   ·rename_i p;obtain⟨m,rfl,o⟩:=At.mk b;obtain⟨u,st,q,r,h⟩:=ui (A:=A) o;obtain⟨c,g,s⟩:=RF (n:=n) d h;refine⟨u::c,?_,s⟩;have i:a.tmps.getD x undef= .pointer (some m):=by have:=d.get x _ f;simp[this]
    rw[PA];simp only[Sem.run_bind,Sem.run_pure,Result.andThen_ok,nP,i,asAddr,q e r n,g]
   ·exact b.elim
  ·exact b.elim
theorem AK9 {N:Nat}{a:Act}{e:Env}(f:Fits N a e){fn:Func}{c:aa}{n:Nat}{K:J0->Prop}(b:vt P fn.results.toList e c K):
  ∃v,(results fn a.tmps).run P (A.at c n)= .ok v (A.at c n)/\K v:=by
 obtain⟨d,g,b⟩:=RF (A:=A) f (n:=n) b;have h:(results fn a.tmps).run P (A.at c n)= .ok (if i:d.toArray.size=1 then d.toArray[0] else .tuple d.toArray) (A.at c n):=by rw[AKz,Wc];simp only[Sem.run_bind,Sem.run_map,g,Result.andThen_ok,Sem.run_pure]
 refine⟨_,h,?_⟩
 match d,b with
 | [],b=>exact b
 | [v],b=>exact b
 |u::v::j,b=>simpa [oneOf] using b
theorem vv {fn:Func}{tmps:Array J0}{d:Ending->World->Prop}{K:aa->Prop}(e: ∀a b,K a->LeavesInM (Fw none) 0 P fn tmps d [] .returning (A.at a b)):
  ∀(l:List Nat) (a:aa) (b:Nat),qz l a K->LeavesInM (Fw none) 0 P fn tmps d (l.map kI) .returning (A.at a b)
 | [],a,b,c=>e a b c
 |r::f,a,b,⟨g,c⟩=>by
  refine⟨by simp,.inl ⟨r,_,rfl,run_takeDeferred (w:=A.at a b) g,?_⟩⟩;exact vv e f _ b c
theorem AHE(r:P.follows .mixedOrders=true){f:Q8}{m:bV}{args:List J0}{j:aa}{e:A2O}(b:qB A P f m args j e):
  AA A P f args.toArray j e:=by
 intro n;unfold qB at b;split at b
 ·exact b.elim
 ·rename_i fn s;split at b
  ·exact b.elim
  ·rename_i c u;split at b
   ·rename_i o;have o:=Wf o;refine We.1 (callsIn_of_wp_marks (F:=Fw none) (n:=0) s u trivial ?_);have w:Fits fn.ntmps {tmps:=args.toArray++Array.replicate (fn.ntmps-args.toArray.size) undef,defers:= []} {get:=lU 0 args,ds:= []}:=by refine⟨by simp;omega,λt v k=>?_,rfl⟩;obtain⟨_,g⟩:=vu k;have x:t<args.length:=(List.getElem?_eq_some_iff.1 (by simpa using g)).1;rw[Mu (by simpa using x)];simpa using g
    refine wpIn_mono (AKB r c 0 false none m _ j _ _ _ _ n (λ_=>rfl) b w) ?_;intro y a G z;obtain⟨h,d,i,rfl,p,_,l⟩:=z;have fin:qA P fn e h d->LeavesInM (Fw none) 0 P fn a.tmps (λh B=> ∃v,h= .returned v/\ ∃d i,B=A.at d i/\e v d) a.defers .returning (A.at d i):=by intro C;rw[p.ds];refine vv ?_ h.ds d i C;intro g q D;obtain⟨v,k,E⟩:=AK9 (A:=A) p (n:=q) D;exact⟨v,k,v,rfl,g,q,rfl,E⟩
    cases y<;>simp only at l
    ·exact fin l
    ·exact fin l
   ·exact b.elim
end
def Gd(c:IntKind)(a b:Int):Int:=c.wrap ((BitVec.ofInt c.bits a &&& BitVec.ofInt c.bits b).toNat:Int)
def eA(c:IntKind)(a b:Int):Int:=c.wrap ((BitVec.ofInt c.bits a ||| BitVec.ofInt c.bits b).toNat:Int)
def ZR(c:IntKind)(a b:Int):Int:=c.wrap ((BitVec.ofInt c.bits a ^^^ BitVec.ofInt c.bits b).toNat:Int)
end Go.Lf
namespace Go.Lf.G
noncomputable abbrev P:Q1:=Go.Proofs.Tryz.prog
def Je:Q8:=6
def Ze:Q8:=11
def Fg:Q8:=17
def MR:Q8:=18
def WM:Q8:=19
def Dg:Q8:=20
def Pk:Q8:=21
def FD:Q8:=22
def Jg:Q8:=24
def Gm:Q8:=25
def Ki:Q8:=26
def OC:Q8:=28
def BN:Q8:=29
def WH:Q8:=33
def SA:Q8:=37
def IU:Q8:=40
def EJ:Q8:=41
def GQ:Q8:=42
def FK:Q8:=43
def GD:Q8:=44
def Pt:Q8:=45
def Um:Q8:=46
def CB:Q8:=47
def LQ:Q8:=48
def NP:Q8:=49
def FZ:Q8:=50
def Cy:Q8:=51
def LD:Q8:=52
def MZ:Q8:=53
def Kg:Q8:=54
def MV:Q8:=55
def DT:Q8:=56
def En:Q8:=57
def Gv:Q8:=58
def I9:Q8:=59
def Jv:Q8:=60
def Ay:Q8:=61
def Dl:Q8:=62
def Bg:Q8:=63
def LM:Q8:=64
def Hz:Q8:=65
def KX:Q8:=66
def Fp:Q8:=67
def LF:Q8:=68
def JX:Q8:=69
def MX:Q8:=70
def MU:Q8:=71
def Py:Q8:=72
def Pb:Q8:=73
def RS:Q8:=74
def F7:Q8:=75
def Bz:Q8:=76
def Ji:Q8:=77
def Hq:Q8:=80
def HY:Q8:=81
def Ja:Q8:=82
def Kw:Q8:=83
def I1:Q8:=85
def Rt:Q8:=86
def Ry:Q8:=88
def CS:Q8:=89
def Nn:Q8:=90
def Ov:Q8:=91
def MQ:Q8:=92
def FP:Q8:=93
def LV:Q8:=94
def Ns:Q8:=95
def R6:Q8:=96
def EY:Q8:=97
def Be:Q8:=98
def Ab:Q8:=99
def CJ:Q8:=100
def Oi:Q8:=101
def N9:Q8:=102
def MP:Q8:=103
def Jl:Q8:=104
def GN:Q8:=105
def JF:Q8:=106
def GJ:Q8:=107
def PT:Q8:=108
def Pv:Q8:=109
def PY:Q8:=110
def OE:Q8:=111
def Ku:Q8:=112
def Pn:Q8:=113
def CV:Q8:=114
def ABS:Q8:=115
def FQ:Q8:=118
def OZ:Q8:=122
def Nw:Q8:=123
def Pe:Q8:=124
def Gi:Q8:=125
def HZ:Q8:=126
def Tu:Q8:=127
def Rb:Q8:=128
def RG:Q8:=129
def QM:Q8:=130
def JB:Q8:=131
def Nz:Q8:=132
def Ip:Q8:=133
def Gw:Q8:=134
def QA:Q8:=135
def Jy:Q8:=136
def Oo:Q8:=137
def Jc:Q8:=138
def Rm:Q8:=139
def Ju:Q8:=140
def Ow:Q8:=141
def Cf:Q8:=142
def JL:Q8:=143
def Hu:Q8:=144
def PQ:Q8:=145
def Ir:Q8:=146
def Fq:Q8:=147
def Gj:Q8:=148
def Ra:Q8:=149
def Jp:Q8:=150
def Dy:Q8:=151
def DY:Q8:=152
def Dm:Q8:=153
def MO:Q8:=154
def Rj:Q8:=155
def QG:Q8:=156
def Rs:Q8:=157
def Gq:Q8:=158
def Jz:Q8:=159
def OD:Q8:=160
def NU:Q8:=161
def Kq:Q8:=162
def JV:Q8:=163
def TV:Q8:=164
def Cg:Q8:=165
def LA:Q8:=166
def Jw:Q8:=167
def Oh:Q8:=168
def Cw:Q8:=172
def Px:Q8:=174
def I8:Q8:=175
def Kr:Q8:=176
def KM:Q8:=177
def LK:Q8:=178
def Ot:Q8:=179
def Jt:Q8:=180
def Pg:Q8:=181
def F3:Q8:=182
def Rz:Q8:=183
def LG:Q8:=184
def Ua:Q8:=185
def Eg:Q8:=186
def IG:Q8:=187
def DU:Q8:=188
def KL:Q8:=189
def I6:Q8:=190
def Gp:Q8:=191
def QH:Q8:=192
def DC:Q8:=193
def LJ:Q8:=194
def Tt:Q8:=195
def Dp:Q8:=196
def SX:Q8:=197
def DW:Q8:=198
def IV:Q8:=199
def Ky:Q8:=200
def Nl:Q8:=201
def BO:Q8:=202
def DK:Q8:=203
def Js:Q8:=204
def JI:Q8:=205
def JZ:Q8:=206
def Rq:Q8:=218
def I5:Q8:=219
def QX:Q8:=220
def Km:Q8:=222
def Iq:Q8:=225
def Ps:Q8:=226
def Ic:Q8:=227
def DD:Q8:=228
def Vp:Q8:=229
def P6:Q8:=230
def EO:Q8:=231
def FU:Q8:=232
def Gh:Q8:=233
def Il:Q8:=234
def Pw:Q8:=235
def NW:Q8:=242
def Nj:Q8:=243
def Dt:Q8:=248
def Gc:Q8:=250
def Dj:Q8:=257
def Nv:Q8:=258
def OA:Q8:=259
def DZ:Q8:=285
def t_:Q7:=0
def Bp:Q7:=3
def lY:Q7:=4
def Di:Q7:=5
def BC:Q7:=9
def Dq:Q7:=27
def AR:Q7:=33
def Bb:Q7:=36
def AQ:Q7:=44
def Fu:Q7:=51
def Ad:Q7:=53
def Gg:Q7:=55
def Ey:Q7:=57
def MW:Q7:=60
def CK:Q7:=66
def Cs:Q7:=69
def Ap:Q7:=80
def Io:Q7:=84
def DJ:Q7:=86
def A8:Q7:=96
def CL:Q7:=102
def ZZ:Q7:=104
def Bn:Q7:=106
def JE:Q7:=110
def ER:Q7:=111
def De:Q7:=112
def Av:Q7:=114
def Cv:Q7:=116
def vL:Q7:=124
def Yu:Q7:=140
def Fe:Q7:=142
def Eh:Q7:=143
def Rf:Q7:=145
def vM:Q7:=165
def XM:Q7:=167
def ZE:Q7:=171
def AEV:Q7:=189
def Aw:Q7:=190
def FH:Q7:=192
def Bj:Q7:=195
def NK:Q7:=203
def Gz:Q7:=215
def GU:Q7:=220
def BK:Q7:=231
def Mh:Q7:=240
def BG:Q7:=243
def WB:Q7:=246
def Z0:Q7:=277
def ED:Q7:=279
def RD:Q7:=281
def vN:Q7:=283
def Md:Q7:=285
def nS:Q7:=293
def JJ:Q7:=298
def ET:Q7:=343
def Te:Q7:=384
def EU:Q7:=386
def FC:Q7:=388
theorem mixed:P.follows .mixedOrders=true:=by decide +kernel
end Go.Lf.G
