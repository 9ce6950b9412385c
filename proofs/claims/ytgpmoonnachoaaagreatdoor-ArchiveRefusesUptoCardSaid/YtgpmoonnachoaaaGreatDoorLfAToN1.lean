/-
 LIFT, part A: worlds as heaps beside a fixed rest; one operation's outcome at the level of values; a region that draws its order, walked in the text's order.
-/
import Derived.WalkKit
import Derived.OrdersIn
import Derived.RangeFuncIn
import Derived.RangeFuncLeaves
import Derived.RangeFuncCalls
import Derived.TacticsInMore
import Derived.RangeFuncRecord
import Derived.Test.YtgpmoonnachoaaaGreatDoorProg
set_option maxRecDepth 100000
set_option linter.unusedVariables false
set_option linter.unusedSimpArgs false
open Go.IntKind renaming i64→J9,wrap→J8
open Go.Value renaming string→J7,int→J6,pointer→J5,slice→J4,bool→J3,tuple→J1
open Go.Obj renaming cells→J2
open Go renaming Value→J0,Addr→Q6,TypeId→Q7,FuncId→Q8,Program→Q1
open Go.Addr renaming add→Q9,mk→Q5
namespace Go.Lf
abbrev Q2:=Option Q6
abbrev A2K:=ByteArray
abbrev A0:=@Nat.le_refl
abbrev A1:=@List.length_append
abbrev A2:=@List.getElem?_eq_getElem
abbrev A3:=@Bool.and_eq_true
abbrev A4:=@List.append_assoc
abbrev A5:=@Nat.zero_le
abbrev A6:=@List.length_cons
abbrev An:=@Int.toNat_natCast
abbrev As:=@List.length_take
abbrev Ax:=@List.take_of_length_le
abbrev AD:=@List.take_add_one
abbrev AE:=@Nat.mod_eq_of_lt
abbrev AF:=@List.flatMap_cons
abbrev AG:=@List.mem_cons_of_mem
abbrev AH:=@Nat.le_trans
abbrev AI:=@Nat.zero_add
abbrev AK:=@List.mem_of_getElem?
abbrev AM:=@List.append_nil
abbrev AN:=@Nat.mul_le_mul_right
abbrev AS:=@List.filter_cons
abbrev AT:=@List.map_map
abbrev AW:=@List.getElem_mem
abbrev B9:=@List.length_map
abbrev Bk:=@List.take_length
abbrev Bm:=@Nat.add_mul
abbrev Bs:=@Nat.mul_one
abbrev By:=@Option.some.inj
abbrev BE:=@Option.some.injEq
abbrev BT:=@List.map_cons
abbrev BW:=@Nat.le_succ
abbrev BY:=@List.getElem?_drop
abbrev C2:=@List.map_append
abbrev C5:=@List.getElem?_map
abbrev Cd:=@Bool.false_eq_true
abbrev Cl:=@List.length_drop
abbrev Cp:=@Nat.mod_lt
abbrev CA:=@Option.toList_some
abbrev CC:=@List.mem_cons_self
abbrev CD:=@Bool.not_eq_true'
abbrev CH:=@List.map_congr_left
abbrev CI:=@Iff.rfl
abbrev CM:=@Nat.mul_comm
abbrev CN:=@List.length_singleton
abbrev CT:=@List.eq_nil_of_length_eq_zero
abbrev Dd:=@List.getElem_of_mem
abbrev Ds:=@Bool.or_eq_true
abbrev DA:=@List.nil_append
abbrev DB:=@List.mem_of_mem_take
abbrev DE:=@List.take_append_drop
abbrev DG:=@List.cons_append
abbrev DH:=@Array.getElem?_setIfInBounds_ne
abbrev DM:=@Nat.pow_succ
abbrev DO:=@List.all_eq_true
abbrev DP:=@Array.length_toList
abbrev DQ:=@Array.toList_setIfInBounds
abbrev DS:=@List.find?_cons
abbrev E0:=@Bool.true_and
abbrev Ek:=@List.getElem?_of_mem
abbrev F0:=@List.getElem?_take
abbrev F2:=@List.getElem?_append_right
abbrev Fc:=@Nat.lt_of_lt_of_le
abbrev Fk:=@Nat.min_eq_left
abbrev Fl:=@List.drop_eq_getElem_cons
abbrev Fm:=@List.flatMap_append
abbrev Fo:=@Array.getElem?_eq_getElem
abbrev Ft:=@Nat.lt_or_ge
abbrev FA:=@Nat.mul_assoc
abbrev FF:=@Function.comp_def
abbrev FG:=@Nat.add_zero
abbrev G0:=@Bool.eq_iff_iff
abbrev G3:=@Bool.false_and
abbrev G4:=@List.filter_sublist
abbrev Ge:=@List.getElem?_append_left
abbrev Gk:=@Array.getElem?_modify
abbrev GB:=@List.length_nil
abbrev GC:=@Bool.or_eq_false_iff
abbrev GF:=@List.sum_cons
abbrev GO:=@Int.le_refl
abbrev GP:=@Nat.pow_add
abbrev GS:=@Option.getD_some
abbrev GW:=@List.find?_eq_none
abbrev Hb:=@ByteArray.data_append
abbrev Hc:=@List.cons.injEq
abbrev Hh:=@Nat.lt_succ_self
abbrev Hi:=@List.all_cons
abbrev Hj:=@Array.toList_modify
abbrev Hk:=@ByteArray.size_append
abbrev Hn:=@List.getElem?_cons_zero
abbrev Hv:=@Nat.sub_zero
abbrev HA:=@List.drop_of_length_le
abbrev HC:=@Nat.two_pow_pos
abbrev HD:=@List.filter_congr
abbrev HE:=@List.mem_append_left
abbrev HG:=@Nat.add_assoc
abbrev HI:=@Bool.or_true
abbrev HJ:=@List.mem_singleton
abbrev HK:=@List.set_append_right
abbrev HL:=@List.drop_zero
abbrev HM:=@List.mem_cons
abbrev HN:=@List.getElem?_set_self
abbrev HP:=@Option.map_some
abbrev HS:=@List.mem_append
abbrev HT:=@Nat.zero_mul
abbrev HU:=@List.drop_succ_cons
abbrev HW:=@List.drop_drop
abbrev HX:=@List.mem_of_mem_drop
abbrev I0:=@List.take_succ_cons
abbrev I2:=@List.foldl_append
abbrev I3:=@List.foldl_cons
abbrev Is:=@List.take_zero
abbrev It:=@Int.mul_assoc
abbrev Iv:=@Int.pow_add
abbrev Ix:=@Nat.le_add_right
abbrev ID:=@List.Perm.refl
abbrev IF:=@Nat.eq_of_beq_eq_true
abbrev IH:=@List.mem_append_right
abbrev IN:=@Array.toList_append
abbrev IS:=@Nat.lt_trichotomy
abbrev IT:=@List.getElem?_set_ne
abbrev Jx:=@List.append_cancel_left
abbrev JT:=@Nat.or_lt_two_pow
abbrev Kd:=@List.map_id
abbrev Kf:=@List.take_append
abbrev Kp:=@Nat.shiftLeft_zero
abbrev Ks:=@Nat.xor_lt_two_pow
abbrev Kx:=@Nat.add_le_add_left
abbrev KB:=@List.map_flatMap
abbrev KK:=@Bool.not_false
abbrev Lk:=@Bool.not_true
abbrev Ln:=@List.mem_range
abbrev Lo:=@List.mem_of_find?_eq_some
abbrev Lq:=@List.getElem_inj
abbrev Ly:=@Option.none_or
abbrev Lz:=@List.getElem?_eq_none
abbrev LI:=@Nat.sub_self
abbrev LL:=@Prod.mk.injEq
abbrev LN:=@List.take_succ_eq_append_getElem
abbrev LO:=@Int.ofNat_tmod
abbrev LR:=@Array.getElem?_append_left
abbrev LS:=@ByteArray.ext_iff
abbrev Mb:=@List.takeWhile_cons
abbrev Mn:=@List.getElem?_set
abbrev Mu:=@List.getElem?_toArray
abbrev My:=@List.toList_toArray
abbrev Mz:=@Nat.lt_or_gt_of_ne
abbrev MA:=@Nat.add_sub_cancel
abbrev MD:=@List.foldl_nil
abbrev MT:=@List.mem_map_of_mem
abbrev MY:=@List.range_succ
abbrev N2:=@List.flatten_append
abbrev N3:=@List.pairwise_map
abbrev N4:=@Nat.one_mul
abbrev N5:=@List.take_append_of_le_length
abbrev N6:=@Array.ext'
abbrev Nd:=@Nat.shiftLeft_eq
abbrev No:=@Nat.log2_lt
abbrev Nx:=@Int.natAbs_natCast
abbrev NO:=@ByteArray.ext
abbrev NX:=@Bool.and_false
abbrev Of:=@List.filter_append
abbrev On:=@List.filter_map
abbrev OF:=@List.set_getElem_self
abbrev OK:=@Nat.min_eq_right
abbrev ON:=@List.not_mem_nil
abbrev OR:=@List.drop_length
abbrev OS:=@List.mapM_cons
abbrev P0:=@Option.bind_some
abbrev P2:=@Array.getElem?_push_lt
abbrev P3:=@Array.getElem?_push_size
abbrev P4:=@List.drop_append
abbrev Pa:=@Array.size_setIfInBounds
abbrev Pc:=@List.map_set
abbrev Pl:=@List.length_set
abbrev PA:=@List.find?_some
abbrev PB:=@List.findSome?_cons
abbrev PC:=@List.findSome?_eq_none_iff
abbrev PF:=@Nat.pow_le_pow_right
abbrev PJ:=@List.pairwise_cons
abbrev R0:=@Nat.lt_of_le_of_lt
abbrev R1:=@Nat.div_le_self
abbrev R2:=@Array.toList_push
abbrev Rg:=@List.map_nil
abbrev Rr:=@List.take_take
abbrev RC:=@Nat.le_log2
abbrev RE:=@Nat.mul_lt_mul_of_pos_right
abbrev RK:=@List.reverse_cons
abbrev RM:=@Nat.pow_pos
abbrev RR:=@Nat.le_of_not_lt
abbrev RT:=@ByteArray.data_extract
abbrev RW:=@Array.toList_extract
abbrev Se:=@List.all_append
abbrev Sf:=@Bool.eq_false_iff
abbrev Sh:=@Bool.false_or
abbrev Sp:=@List.nodup_iff_pairwise_ne
abbrev Ss:=@List.getLast?_concat
abbrev SD:=@List.mem_of_getLast?
abbrev SJ:=@List.range_eq_range'
abbrev SR:=@Nat.add_sub_cancel_left
abbrev SU:=@List.length_eq_zero_iff
abbrev SW:=@List.append_eq_nil_iff
abbrev SZ:=@List.mem_or_eq_of_mem_set
abbrev T6:=@Nat.div_div_eq_div_mul
abbrev Tl:=@Int.fdiv_eq_ediv_of_nonneg
abbrev To:=@List.take_eq_take_iff
abbrev TO:=@List.setIfInBounds_toArray
abbrev Up:=@Array.mapM_eq_mapM_toList
abbrev UP:=@Nat.le_of_ble_eq_true
abbrev US:=@List.filterMap_cons
abbrev V0:=@Array.mem_of_getElem?
abbrev Wa:=@List.getElem?_cons_succ
abbrev Wf:=@List.takeWhile_sublist
abbrev Wk:=@List.set_append_left
abbrev Wr:=@List.drop_eq_nil_of_le
abbrev XS:=@List.drop_set_of_lt
abbrev Zs:=@List.set_eq_take_append_cons_drop
abbrev ZS:=@Nat.le_iff_lt_or_eq
abbrev A01:=@Bool.and_eq_false_iff
abbrev A02:=@List.getElem?_concat_length
abbrev A03:=@List.getElem?_take_of_lt
abbrev A04:=@List.pairwise_singleton
abbrev A06:=@List.exists_of_findSome?_eq_some
abbrev A08:=@List.mem_of_mem_erase
abbrev A0a:=@List.cons_lt_cons_iff
abbrev A0d:=@Array.toList_eraseIdx
abbrev A0l:=@List.drop_append_of_le_length
abbrev A0m:=@List.length_filter_le
abbrev A0o:=@Array.getElem?_toList
abbrev A0p:=@List.length_eraseIdx_le
abbrev A0C:=@Nat.two_pow_add_eq_or_of_lt
abbrev A0F:=@List.length_mergeSort
abbrev A0G:=@ByteArray.size_extract
abbrev A0K:=@List.getElem?_singleton
structure al where
 tape:Nat->Question->Nat
 os:Os
 output:Array (Nat×A2K)
abbrev aa:=Array Obj
abbrev A2J:=J0->aa->Prop
def al.at(A:al)(a:aa)(b:Nat):World:= {heap:=a,tape:=A.tape,drawn:=b,os:=A.os,output:=A.output}
abbrev Fw(r:Option Nat):Fence:= {fn:=λ_=>True,depth:=none,alive:=false,round:=r}
theorem AQ3(r:Option Nat)(a:Nat):(Fw r).room a:=λ_ b=>by simp at b
theorem Ws {r:Option Nat}{c:Nat}{P:Q1}{f:Q8}{args:Array J0}{a:World}{b:Ending->World->Prop}:
  CallsIn (Fw r) c P f args a b↔Calls P f args a b:=callsIn_wide
def lG(P:Q1)(l:Nat)(f:Q8)(tmps:Array J0)(assign body:Code)(a:World)(b:J0->World->Prop):Prop:=
 RoundIn (Fw none) 0 P l f tmps assign body a (λc d=> ∃v,c= .returned v/\b v d)
theorem lG.mono {P:Q1}{l:Nat}{f:Q8}{tmps:Array J0}{assign body:Code}{a:World}{b c:J0->World->Prop}
  (e:lG P l f tmps assign body a b) (g: ∀v d,b v d->c v d):lG P l f tmps assign body a c:=
 RoundIn.mono e λ_ _ ⟨v,h,i⟩=>⟨v,h,g _ _ i⟩
theorem AKI {r:Option Nat}{d:Nat}{P:Q1}{l:Nat}{f:Q8}{tmps:Array J0}{assign body:Code}{a:World}{b:Ending->World->Prop}
  (e:RoundIn (Fw none) 0 P l f tmps assign body a b):RoundIn (Fw r) d P l f tmps assign body a b:=
 ⟨trivial,λc g _=>e.2 c g (AQ3 none _)⟩
def Next.out(P:Q1)(K:J0->World->Prop):Result Next->Prop
 | .ok (.value v) a=>K v a
 | .ok .skip a=>K undef a
 | .ok (.enter f args) a=>Calls P f args a (λb c=> ∃v,b= .returned v/\K v c)
 | .ok (.round l f tmps assign body) a=>lG P l f tmps assign body a K
 |_=>False
def EV(P:Q1)(a:Oper)(b:Operand->J0)(c:World)(K:J0->World->Prop):Prop:=Next.out P K ((execOp b a).run P c)
theorem Next.dL {P:Q1}{K d:J0->World->Prop}(c: ∀v b,K v b->d v b){x:Result Next}(a:Next.out P K x):Next.out P d x:=by
 cases x with
 |ok e b=>
  cases e<;>simp only[Next.out] at a ⊢ <;>
   first
    |exact c _ _ a
    |exact Calls.mono a λ_ _ ⟨v,f,g⟩=>⟨v,f,c _ _ g⟩
    |exact lG.mono a c
 |halt x b=>simp only[Next.out] at a
theorem EV.mono {P:Q1}{b:Oper}{c:Operand->J0}{a:World}{K d:J0->World->Prop}(e:EV P b c a K)(f: ∀v a,K v a->d v a):EV P b c a d:=Next.dL f e
def KL(a:Oper):Bool:=match a.op with| .defer _=>false| .select .. =>false|_=>true
theorem EV.wpIn {r:Option Nat}{m:Nat}{P:Q1}{b:Oper}{a:Act}{e:World}{K:Act->World->Prop}{j:Exit->Act->World->Prop}
  (hd:KL b=true) (d:EV P b a.eval e λv g=>K (a.put b.dst v) g):b.wpIn (Fw r) m P a e K j:=by
 refine⟨λ_ _=>trivial,?_⟩;have n:Oper.semAt r a.eval b=execOp a.eval b:=Oper.semAt_eq r a.eval b (λc o=>by simp[KL,o] at hd);show b.uponIn (Fw r) m P a K j ((Oper.semAt r a.eval b).run P e);rw[n];unfold EV at d;generalize (execOp a.eval b).run P e=x at d;cases x with
 |ok k g=>
  cases k<;>simp only[Next.out] at d<;>simp only[Oper.uponIn]
  case value v=>exact d
  case skip=>exact d
  case enter f args=>
   refine⟨λh=>by simp at h,Ws.2 (Calls.mono d ?_)⟩;rintro p q ⟨v,rfl,i⟩;exact i
  case round l f tmps assign body=>
   refine⟨λh=>by simp at h,AKI (RoundIn.mono d ?_)⟩;rintro p q ⟨v,rfl,i⟩;exact i
 |halt k g=>simp only[Next.out] at d
section
variable {P : Q1} {A : al} {r : Option Nat} {ops : Array Oper}
def iG(P:Q1)(A:al)(c:Oper)(d:Operand->J0)(v:J0)(a:aa):Prop:= ∀b,(execOp d c).run P (A.at a b)= .ok (.value v) (A.at a b)
def un(b:Nat->Nat->Bool)(i a:Nat):Bool:= !(b (max i a) (min i a))
def Ji(a:Oper):Prop:= ∀c b,a.op≠ .select c b
def pz(ops:Array Oper):Nat->Nat->Bool:=
 let b:=Region.before ops
 λi a=>(b.getD i 0).testBit a
end
section
variable {P : Q1} {A : al} {r : Option Nat} {ops : Array Oper} {qb : Oper -> Bool} {ord : Nat -> Nat -> Bool}
def left(a:Nat)(listed:Array Bool):List Nat:=(List.range a).filter λi=> !listed.getD i false
theorem mem_left {a:Nat}{listed:Array Bool}{i:Nat}:i∈left a listed↔i<a/\listed.getD i false=false:=by simp[left]
theorem range_split {n i:Nat}(c:i<n):List.range n=List.range i++i::(List.range' (i+1) (n-i-1)):=by
 rw[SJ,SJ];have a:List.range' 0 n=List.range' 0 i++List.range' i (n-i):=by have:=List.range'_append_1 (s:=0) (m:=i) (n:=n-i);rw[AI] at this;rw[this];congr 1;omega
 rw[a];congr 1;have b:n-i=(n-i-1)+1:=by omega
 rw[b,List.range'_succ];simp
theorem AKa {c i:Nat}{listed:Array Bool}(e:i<c)(j:listed.size=c)(g:listed.getD i false=false):
  ∃d f,left c listed=d++i::f/\left c (listed.setIfInBounds i true)=d++f/\ ∀a∈d,a<i/\listed.getD a false=false:=by
 refine⟨(List.range i).filter λa=> !listed.getD a false,(List.range' (i+1) (c-i-1)).filter λa=> !listed.getD a false,?_,?_,?_⟩
 ·unfold left;rw[range_split e,Of,AS];simp only[g,KK,if_true]
 ·unfold left;have h:(listed.setIfInBounds i true).getD i false=true:=by
   have:i<listed.size:=by omega
   simp[this]
  rw[range_split e,Of,AS];simp only[h,Lk,Cd,if_false];congr 1
  ·refine HD λa b=>?_
   have:=List.mem_range.1 b;rw[getD_set_ne false (by omega)]
  ·refine HD λa b=>?_
   have:=(List.mem_range'_1.1 b).1;rw[getD_set_ne false (by omega)]
 ·intro a b;simp only[List.mem_filter,Ln,CD] at b;exact b
def gJ(ord:Nat->Nat->Bool)(listed:Array Bool):Prop:= ∀a b,listed.getD a false=true->b<a->ord a b=true->listed.getD b false=true
theorem YT {a:Oper}(c:KL a=true):Ji a:=λe b d=>by simp[KL,d] at c
theorem AOu(a:Nat):left a (Array.replicate a false)=List.range a:=by unfold left;rw[List.filter_eq_self];intro i _;by_cases b:i<a<;>simp[b]
end
def ah(b:aa)(a:Q6):Option J0:=
 match b[a.block]? with
 |some (.cells c _ _)=>if a.spot.isSome then none else c[a.off]?
 |_=>none
def fX(b:aa)(a:Q6):Bool:=
 match b[a.block]? with
 |some (.cells _ _ (c,d))=>c<=a.off&&a.off<d
 |_=>false
def dc(b:aa)(a:Q6)(v:J0):aa:=
 b.modify a.block λ
  | .cells c d frozen=> .cells (if a.spot.isSome then c else c.setIfInBounds a.off v) d frozen
  |o=>o
theorem AQz(c:al)(b:aa)(d:Nat)(a:Q6):(c.at b d).cell? a=ah b a:=rfl
theorem fB(b:al)(c:aa)(d:Nat)(a:Q6)(v:J0):(b.at c d).setCell a v=b.at (dc c a v) d:=rfl
def At(p:Q2)(K:Q6->Prop):Prop:=match p with|some a=>K a|none=>False
def af(b:Bool)(a c:Prop):Prop:=match b with|true=>a|false=>c
def ao(a:aa)(b:Obj)(K:Nat->aa->Prop):Prop:=K a.size (a.push b)
def Sk(b:aa)(a:Q6)(K:J0->Prop):Prop:= ∃v,ah b a=some v/\K v
def AC(c:IntKind)(d:aa)(a:Q6)(K:Int->Prop):Prop:= ∃b,ah d a=some (.int c b)/\K b
def AZ(c:aa)(a:Q6)(K:Bool->Prop):Prop:= ∃b,ah c a=some (.bool b)/\K b
def AJ(b:aa)(a:Q6)(K:A2K->Prop):Prop:= ∃s,ah b a=some (.string s)/\K s
def AX(b:aa)(a:Q6)(K:Q2->Prop):Prop:= ∃p,ah b a=some (.pointer p)/\K p
structure Sl where
 p:Q2
 len:Nat
 cap:Nat
def Sl.v(s:Sl):J0:= .slice s.p s.len s.cap
def Aa(b:aa)(a:Q6)(K:Sl->Prop):Prop:= ∃s:Sl,ah b a=some (.slice s.p s.len s.cap)/\K s
def ATs(c:FloatKind)(d:aa)(a:Q6)(K:Nat->Prop):Prop:= ∃b,ah d a=some (.float c b)/\K b
def AT2(c:FloatKind)(d:aa)(a:Q6)(K:Nat×Nat->Prop):Prop:= ∃b:Nat×Nat,ah d a=some (.complex c b.1 b.2)/\K b
def Fg(c:aa)(a:Q6)(K:Option Nat->Prop):Prop:= ∃b,ah c a=some (.map b)/\K b
def ae(b:aa)(a:Q6)(v:J0)(K:aa->Prop):Prop:=(∃ u,ah b a=some u)/\fX b a=false/\K (dc b a v)
def bE(p:Q2)(len:Nat)(i:Int)(K:Q6->Prop):Prop:= ∃a,p=some a/\(0<=i/\i<len)/\K a
def aG(c K:Prop):Prop:=c/\K
def ai {a:Type}(c:a->aa->Prop)(body:(a->aa->Prop)->Prop):Prop:= ∀K:a->aa->Prop,(∀ x b,c x b->K x b)->body K
def Loop {a:Type}(c:(a->aa->Prop)->a->aa->Prop)(x:a)(b:aa):Prop:= ∀K:a->aa->Prop,(∀ x b,c K x b->K x b)->K x b
def BD(a:al)(P:Q1)(m:Sem J0)(c:aa)(K:A2J):Prop:= ∀d,∃v b e,m.run P (a.at c d)= .ok v (a.at b e)/\K v b
def AA(a:al)(P:Q1)(f:Q8)(args:Array J0)(c:aa)(d:A2J):Prop:=
 ∀e,Calls P f args (a.at c e) λg h=> ∃v,g= .returned v/\ ∃b i,h=a.at b i/\d v b
theorem AA.mono {b:al}{P:Q1}{f:Q8}{args:Array J0}{a:aa}{c d:A2J}(e:AA b P f args a c)(g: ∀v a,c v a->d v a):AA b P f args a d:=
 λh=>Calls.mono (e h) λ_ _ ⟨v,i,j,k,l,m⟩=>⟨v,i,j,k,l,g _ _ m⟩
def Eh(a:al)(P:Q1)(fv:J0)(args:Array J0)(d:aa)(e:A2J):Prop:=
 ∀f,Next.out P (λv g=> ∃b h,g=a.at b h/\e v b) ((do let c <-Deferred.ofValue fv args;invoke c.target c.args:Sem Next).run P (a.at d f))
theorem Eh.mono {b:al}{P:Q1}{fv:J0}{args:Array J0}{a:aa}{c d:A2J}(e:Eh b P fv args a c)(f: ∀v a,c v a->d v a):Eh b P fv args a d:=
 λg=>Next.dL (λ_ _ ⟨h,i,j,k⟩=>⟨h,i,j,f _ _ k⟩) (e g)
theorem UF {a b:Nat}(c:a≠b):Nat.beq a b=false:=by
 cases d:Nat.beq a b with
 |false=>rfl
 |true=>exact absurd (IF d) c
structure Env where
 get:Nat->Option J0
 ds:List Nat
def kA(a:Nat):Deferred:= {target:= .collected a,args:= #[]}
structure Fits (N:Nat) (a:Act) (e:Env):Prop where
 size:a.tmps.size=N
 get: ∀t v,e.get t=some v->a.tmps[t]? =some v
 ds:a.defers=e.ds.map kA
def Env.set(a:Env)(b:Nat)(v:J0):Env:= {get:=λt=>bif Nat.beq t b then some v else a.get t,ds:=a.ds}
def Env.put(b:Env)(a:Option Tmp)(v:J0):Env:=match a with|none=>b|some a=>b.set a v
def ni(N:Nat)(a:Option Tmp):Bool:=match a with|none=>true|some a=>Nat.blt a N
theorem Fits.set {N:Nat}{a:Act}{f:Env}(d:Fits N a f){c:Nat}{v:J0}(hd:c<N):Fits N (a.put (some c) v) (f.set c v):=by
 refine⟨by simp[Act.put,d.size],?_,d.ds⟩;intro t u b;unfold Env.set at b;simp only at b;by_cases e:t=c
 ·subst e;have:Nat.beq t t=true:=by simp
  rw[this] at b;simp only[cond_true,BE] at b;subst b;simp[Act.put,d.size,hd]
 ·have:Nat.beq t c=false:=UF e;rw[this] at b;simp only[cond_false] at b;have:=d.get t u b;simp only[Act.put];rw[DH (Ne.symm e)];exact this
theorem Fits.put {N:Nat}{a:Act}{c:Env}(d:Fits N a c){b:Option Tmp}{v:J0}(hd:ni N b=true):Fits N (a.put b v) (c.put b v):=by
 cases b with
 |none=>exact d
 |some b=>exact d.set (by simpa [ni] using hd)
theorem Fits.p9 {N:Nat}{a:Act}{e:Env}(d:Fits N a e){c:Nat}{v:J0}(g:a.tmps[c]? =some v):Fits N a (e.set c v):=by
 refine⟨d.size,?_,d.ds⟩;intro t u b;unfold Env.set at b;simp only at b;by_cases f:t=c
 ·subst f;have:Nat.beq t t=true:=by simp
  rw[this] at b;simp only[cond_true,BE] at b;rw[<- b];exact g
 ·have:Nat.beq t c=false:=UF f;rw[this] at b;exact d.get t u b
def rdv(a:Env)(x:Operand):Option J0:=
 match x with
 | .tmp t=>a.get t
 | .const v=>some v
 | .global g=>some (.pointer (some ⟨g,0,none⟩))
 | .func f=>some (.func (.func f) #[] #[])
theorem Fits.rdv {N:Nat}{a:Act}{c:Env}(d:Fits N a c){x:Operand}{v:J0}(b:rdv c x=some v):a.eval x=v:=by
 cases x with
 |tmp t=>
  have:=d.get t v b;simp only[Act.eval];simp[this]
 |const u=>simpa [Lf.rdv,Act.eval] using b
 |global g=>simpa [Lf.rdv,Act.eval] using b
 |func f=>simpa [Lf.rdv,Act.eval] using b
def rd(a:Env)(x:Operand)(K:J0->Prop):Prop:=match rdv a x with|some v=>K v|none=>False
theorem BZ {N:Nat}{a:Act}{c:Env}(e:Fits N a c){x:Operand}{K:J0->Prop}(b:rd c x K):K (a.eval x):=by
 unfold rd at b;cases d:rdv c x with
 |none=>rw[d] at b;exact b.elim
 |some v=>rw[d] at b;rw[e.rdv d];exact b
def ρof(a:Env)(x:Operand):J0:=match rdv a x with|some v=>v|none=>undef
def known(a:Env)(l:List Operand)(K:Prop):Prop:=match l with| []=>K|x::b=>(match rdv a x with|some _=>known a b K|none=>False)
theorem Kj {N:Nat}{a:Act}{c:Env}(f:Fits N a c){K:Prop}: ∀ {l:List Operand},known c l K->(∀ x∈l,ρof c x=a.eval x)/\K
 | [],b=>⟨λ_ b=>(by cases b),b⟩
 |x::j,b=>by
  unfold known at b;cases d:rdv c x with
  |none=>rw[d] at b;exact b.elim
  |some v=>
   rw[d] at b;obtain⟨g,h⟩:=Kj f b;refine⟨λi e=>?_,h⟩;rcases List.mem_cons.1 e with rfl|e
   ·unfold ρof;rw[d,f.rdv d]
   ·exact g i e
end Go.Lf
namespace Go
open Lf
def Sem.calc {b:Type}(P:Q1):Sem b->Option b
 | .pure a=>some a
 | .program f=>(f P).calc P
 |_=>none
end Go
namespace Go.Lf
theorem Da {e:Type}{P:Q1}{s:Sem e}: ∀ {a:e},s.calc P=some a-> ∀d,s.run P d= .ok a d:=by
 induction s with
 |pure a=>intro b c d;simp only[Sem.calc,BE] at c;subst c;rfl
 |program f g=>intro b c d;exact g P c d
 |_=>intro b c;simp only[Sem.calc] at c;cases c
def Sr {b:Type}(P:Q1)(s:Sem b)(K:b->Prop):Prop:=match s.calc P with|some a=>K a|none=>False
theorem Mr {d:Type}{P:Q1}{s:Sem d}{K:d->Prop}(b:Sr P s K): ∃a,(∀ e,s.run P e= .ok a e)/\K a:=by
 unfold Sr at b;cases c:s.calc P with
 |none=>rw[c] at b;exact b.elim
 |some a=>rw[c] at b;exact⟨a,Da c,b⟩
def ML:J0->Bool
 | .agg _| .tuple _=>false
 |_=>true
end Go.Lf
namespace Go
open Lf
def Sem.vc {e:Type}(P:Q1):Sem e->aa->(e->aa->Prop)->Prop
 | .pure a,c,K=>K a c
 | .program f,c,K=>(f P).vc P c K
 | .new g f,c,K=>ao c g λb d=>(f b).vc P d K
 | .load _ a f,c,K=>Sk c a λv=>(f v).vc P c K
 | .store _ a v f,c,K=>match ML v with|true=>ae c a v λd=>f.vc P d K|false=>False
 | .mark _ f,c,K=>f.vc P c K
 |_,_,_=>False
end Go
namespace Go.Lf
theorem th {c:Type}{A:al}{P:Q1}{m:Mode}{a:Q6}{v u:J0}{f:Sem c}{b:aa}{n:Nat}(d:ML v=true)(e:ah b a=some u)(g:fX b a=false):
  (Sem.store m a v f).run P (A.at b n)=f.run P (A.at (dc b a v) n):=by
 have h:(A.at b n).cell? a=some u:=e;have i:(A.at b n).frozen? a=false:=g;cases v<;>first|(simp[ML] at d;done)|(simp[Sem.run,h,i,fB])
theorem AOm {o:Type}{A:al}{P:Q1}{s:Sem o}: ∀ {d:aa} {K:o->aa->Prop},s.vc P d K-> ∀e,∃v h i,s.run P (A.at d e)= .ok v (A.at h i)/\K v h:=by
 induction s with
 |pure a=>intro d K b e;exact⟨a,d,e,rfl,b⟩
 |program f g=>intro d K b e;exact g P b e
 |mark m f g=>intro d K b e;exact g b e
 |new q f g=>intro d K b e;exact g _ b e
 |load m a f g=>
  intro d K b e;obtain⟨v,r,b⟩:=b;obtain⟨j,h,i,k,l⟩:=g v b e;refine⟨j,h,i,?_,l⟩;simp only[Sem.run,AQz,r];exact k
 |store m a v f g=>
  intro d K b e;unfold Sem.vc at b;cases n:ML v with
  |false=>rw[n] at b;exact b.elim
  |true=>
   rw[n] at b;obtain⟨⟨u,t⟩,w,b⟩:=b;obtain⟨j,h,i,k,l⟩:=g b e;refine⟨j,h,i,?_,l⟩;rw[th n t w];exact k
 |shape p f _=>intro d K b;exact b.elim
 |freeze a e f _=>intro d K b;exact b.elim
 |frozen a f _=>intro d K b;exact b.elim
 |getObj p f _=>intro d K b;exact b.elim
 |setObj p q f _=>intro d K b;exact b.elim
 |choose y f _=>intro d K b;exact b.elim
 |sys c f _=>intro d K b;exact b.elim
 |halt x=>intro d K b;exact b.elim
inductive Sc where
 |int (k:IntKind)|bool|str|ptr|sl|map|any|jl (k:FloatKind)|jm (k:FloatKind)
def Sc.Ty:Sc->Type
 | .int _=>Int
 | .bool=>Bool
 | .str=>A2K
 | .ptr=>Q2
 | .sl=>Sl
 | .map=>Option Nat
 | .any=>J0
 | .jl _=>Nat
 | .jm _=>Nat×Nat
def Sc.val:(s:Sc)->s.Ty->J0
 | .int c,(a:Int)=> .int c a
 | .bool,(b:Bool)=> .bool b
 | .str,(s:A2K)=> .string s
 | .ptr,(p:Q2)=> .pointer p
 | .sl,(s:Sl)=> .slice s.p s.len s.cap
 | .map,(d:Option Nat)=> .map d
 | .any,(v:J0)=>v
 | .jl c,(a:Nat)=> .float c a
 | .jm c,(a:Nat×Nat)=> .complex c a.1 a.2
def Sc.load(b:aa)(a:Q6):(s:Sc)->(s.Ty->Prop)->Prop
 | .int c,K=>AC c b a K
 | .bool,K=>AZ b a K
 | .str,K=>AJ b a K
 | .ptr,K=>AX b a K
 | .sl,K=>Aa b a K
 | .map,K=>Fg b a K
 | .any,K=>Sk b a K
 | .jl c,K=>ATs c b a K
 | .jm c,K=>AT2 c b a K
theorem Sc.cw {c:aa}{a:Q6}: ∀ {s:Sc} {K:s.Ty->Prop},s.load c a K-> ∃x,ah c a=some (s.val x)/\K x
 | .int _,_,b=>b
 | .bool,_,b=>b
 | .str,_,b=>b
 | .ptr,_,b=>b
 | .sl,_,b=>b
 | .map,_,b=>b
 | .any,_,b=>b
 | .jl _,_,b=>b
 | .jm _,_,b=>b
def pB(b:aa)(a:Q6):Nat->List Sc->(List J0->Prop)->Prop
 |_,[],K=>K []
 |i,s::l,K=>s.load b (a.add i) λx=>pB b a (i+1) l λc=>K (s.val x::c)
def pC:List Sc->(List J0->Prop)->Prop
 | [],K=>K []
 |s::l,K=> ∃x:s.Ty,pC l λa=>K (s.val x::a)
theorem tj: ∀ {l:List Sc} {K:List J0->Prop},pC l K-> ∃b,K b
 | [],_,a=>⟨[],a⟩
 |_::_,_,⟨_,a⟩=>let ⟨b,c⟩:=tj a;⟨_,c⟩
def jI(P:Q1):Nat->Q7->List Sc
 |0,_=> []
 |d+1,t=>
  match P.underlying t with
  |some .bool=> [.bool]
  |some (.int a)=> [.int a]
  |some (.float a)=> [.jl a]
  |some (.complex a)=> [.jm a]
  |some .string=> [.str]
  |some (.pointer _)=> [.ptr]
  |some (.slice _)=> [.sl]
  |some (.map _ _)=> [.map]
  |some (.struct b)=>b.toList.flatMap λf=>jI P d f.type
  |some (.array c e)=>(List.replicate c (jI P d e)).flatten
  |_=> [.any]
def XC(P:Q1)(t:Q7):Bool:=match P.underlying t with|some (.struct _)=>true|some (.array _ _)=>true|_=>false
mutual
def nj(P:Q1):Nat->Q7->(J0->Prop)->Prop
 |0,_,K=> ∃v,K v
 |d+1,t,K=>
  match P.underlying t with
  |some (.tuple ts)=>nq P d ts.toList λa=>K (.tuple a.toArray)
  |_=>match XC P t with
   |true=>pC (jI P 20 t) λa=>K (.agg a.toArray)
   |false=>match jI P 20 t with
    | [s]=> ∃x:s.Ty,K (s.val x)
    |_=>False
def nq(P:Q1):Nat->List Q7->(List J0->Prop)->Prop
 |_,[],K=>K []
 |0,_::_,_=>False
 |d+1,t::ts,K=>nj P d t λu=>nq P d ts λa=>K (u::a)
end
theorem APA(P:Q1): ∀b,(∀ (t:Q7) (K:J0->Prop),nj P b t K-> ∃v,K v)/\(∀ (ts:List Q7) (K:List J0->Prop),nq P b ts K-> ∃f,K f):=by
 intro b
 induction b with
 |zero=>
  refine⟨λt K a=>a,λts K a=>?_⟩;cases ts with
  |nil=>exact⟨[],a⟩
  |cons t ts=>exact a.elim
 |succ b c=>
  refine⟨λt K a=>?_,λts K a=>?_⟩
  ·unfold nj at a;split at a
   ·exact let ⟨e,d⟩:=c.2 _ _ a;⟨_,d⟩
   ·split at a
    ·exact let ⟨e,d⟩:=tj a;⟨_,d⟩
    ·split at a
     ·exact let ⟨x,g⟩:=a;⟨_,g⟩
     ·exact a.elim
  ·cases ts with
   |nil=>exact⟨[],a⟩
   |cons t ts=>
    unfold nq at a;obtain⟨u,a⟩:=c.1 _ _ a;obtain⟨e,a⟩:=c.2 _ _ a;exact⟨_,a⟩
def QA(P:Q1)(t:Q7)(v:J0)(K:J0->Prop):Prop:=nj P 8 t λu=>v=u/\K u
theorem PM {P:Q1}{t:Q7}{v:J0}{K:J0->Prop}(a:QA P t v K):K v:=by obtain⟨u,rfl,a⟩:=(APA P 8).1 _ _ a;exact a
def bQ(a b:A2K):Bool:=a.toList==b.toList
def aN(a b:A2K):Bool:=Op.bytesLess a.toList b.toList
def dq(s:A2K)(i:Int):Int:=((s[i.toNat]?).getD 0).toNat
def Va(P:Q1)(t:Q7)(a:Operand):Bool:=
 match P.underlying t with
 |some (.pointer _)=>match a with| .const (.pointer none)=>true|_=>false
 |some (.slice _)=>match a with| .const (.slice none 0 0)=>true|_=>false
 |some (.map _ _)=>match a with| .const (.map none)=>true|_=>false
 |some (.func _ _ _)=>match a with| .const .nilFunc=>true|_=>false
 |some (.interface _)=>match a with| .const .nilIface=>true|_=>false
 |_=>false
def jJ:J0->Prop
 | .func .. =>True
 | .nilFunc=>True
 |_=>False
def XR:J0->Bool
 | .nilFunc=>true
 |_=>false
def lJ:J0->Prop
 | .iface .. =>True
 | .nilIface=>True
 |_=>False
def Zr:J0->Bool
 | .nilIface=>true
 |_=>false
def lK(P:Q1)(t:Q7)(v:J0)(K:Bool->Prop):Prop:=
 match P.underlying t with
 |some (.pointer _)=>match v with| .pointer p=>K p.isNone|_=>False
 |some (.slice _)=>match v with| .slice p _ _=>K p.isNone|_=>False
 |some (.map _ _)=>match v with| .map a=>K a.isNone|_=>False
 |some (.func _ _ _)=>aG (jJ v) (K (XR v))
 |some (.interface _)=>aG (lJ v) (K (Zr v))
 |_=>False
def WL(a:BinOp)(b:Bool):J0:=match a with| .eql=> .bool b|_=> .bool !b
def pD(d:BinOp)(v u:J0)(K:J0->Prop):Prop:=
 match v,u with
 | .int c a,.int e b=>
  match decide (c=e) with
  |true=>match d with
   | .quo=>aG (b≠0) (K (.int c (c.wrap (a.tdiv b))))
   | .rem=>aG (b≠0) (K (.int c (a.tmod b)))
   |_=>False
  |false=>False
 |_,_=>False
def pE(d:BinOp)(v u:J0)(K:J0->Prop):Prop:=
 match v,u with
 | .int c a,.int _ b=>
  match d with
  | .shl=>aG (0<=b) (K (.int c (c.wrap (a*2^(min b.toNat c.bits)))))
  | .shr=>aG (0<=b) (K (.int c (a.fdiv (2^(min b.toNat c.bits)))))
  |_=>False
 |_,_=>False
def pF(v u:J0)(K:J0->Prop):Prop:=
 match v,u with
 | .string a,.string b=>aG (((a.size+b.size:Nat):Int)<=IntKind.i64.max) (K (.string (a++b)))
 |_,_=>False
inductive ASz where
 |dZ|div|shift|cat|jn|jo|no
def isConst:Operand->Bool
 | .const _=>true
 |_=>false
def Uq(P:Q1)(b:BinOp)(t:Q7)(x a:Operand):ASz:=
 match b with
 | .quo| .rem=>match P.underlying t with|some (.int _)=>(match isConst a with|true=> .dZ|false=> .div)|_=> .no
 | .shl| .shr=>match isConst a with|true=> .dZ|false=> .shift
 | .add=>match P.underlying t with|some .string=> .cat|some (.int _)=> .dZ|_=> .no
 | .eql| .neq=>
  match P.underlying t with
  |some (.int _)=> .dZ
  |some .string=> .dZ
  |some .bool=> .dZ
  |some (.pointer _)|some (.slice _)|some (.map _ _)|some (.func _ _ _)|some (.interface _)=>(match Va P t a with|true=> .jn|false=>match Va P t x with|true=> .jo|false=> .no)
  |_=> .no
 |_=>match P.underlying t with|some (.int _)=> .dZ|some .string=> .dZ|_=> .no
def pG(P:Q1)(a:BinOp)(t:Q7)(x c:Operand)(v u:J0)(K:J0->Prop):Prop:=
 match Uq P a t x c with
 | .dZ=>Sr P (do eqGuard a t x c v u;binOp a t v u) K
 | .div=>pD a v u K
 | .shift=>pE a v u K
 | .cat=>pF v u K
 | .jn=>lK P t v λb=>K (WL a b)
 | .jo=>lK P t u λb=>K (WL a b)
 | .no=>False
def pH(P:Q1)(t:Q7)(v i:J0)(K:J0->Prop):Prop:=
 match P.underlying t with
 |some (.slice c)=>match v,i,P.info? c with
  | .slice p len _,.int _ b,some d=>bE p len b λa=>K (.pointer (some (a.add (b.toNat*d.size))))
  |_,_,_=>False
 |some (.array len c)=>match v,i,P.info? c with
  | .pointer p,.int _ b,some d=>At p λa=>aG (0<=b/\b<(len:Int)) (K (.pointer (some (a.add (b.toNat*d.size)))))
  |_,_,_=>False
 |_=>False
def pI(P:Q1)(t:Q7)(v i:J0)(K:J0->Prop):Prop:=
 match P.underlying t with
 |some .string=>match v,i with
  | .string s,.int _ a=>aG (0<=a/\a<(s.size:Int)) (K (.int .u8 (dq s a)))
  |_,_=>False
 |some (.array _ _)=>Sr P (Instr.index t v i) K
 |_=>False
def gK(x:Option J0)(b max:Nat)(K:Nat->Prop):Prop:=
 match x with
 |some (.int _ a)=>aG (0<=a/\a<=(max:Int)) (K a.toNat)
 |none=>K b
 |_=>False
def Az(p:Q2)(a l b:Nat):Q2:=if a=l then p else p.map (·.add (l*b))
def pJ(P:Q1)(t:Q7)(v:J0)(d e:Option J0)(K:J0->Prop):Prop:=
 match P.underlying t with
 |some .string=>match v with
  | .string s=>gK e s.size s.size λb=>gK d 0 b λl=>K (.string (s.extract l b))
  |_=>False
 |some (.slice f)=>match v,P.info? f with
  | .slice p len g,some h=>gK e len g λb=>gK d 0 b λl=>K (.slice (Az p g l h.size) (b-l) (g-l))
  |_,_=>False
 |some (.array c f)=>match v,P.info? f with
  | .pointer p,some h=>At p λa=>gK e c c λb=>gK d 0 b λl=>K (.slice (some (if c=l then a else a.add (l*h.size))) (b-l) (c-l))
  |_,_=>False
 |_=>False
def pK(P:Q1)(t:Q7)(v:J0)(c d:Option J0)(e:J0)(K:J0->Prop):Prop:=
 match P.underlying t with
 |some (.slice f)=>match v,P.info? f,d,e with
  | .slice p _ g,some h,some (.int _ b),.int _ a=>aG (0<=a/\a<=(g:Int)) (aG (0<=b/\b<=(a.toNat:Int)) (gK c 0 b.toNat λl=>K (.slice (Az p a.toNat l h.size) (b.toNat-l) (a.toNat-l))))
  |_,_,_,_=>False
 |_=>False
def pL(c:Bool)(a b:Option J0)(K:J0->Prop):Prop:=
 match a,b with
 |some (.bool x),some (.bool d)=>K (.bool (cond c x d))
 |some x,some d=>af c (K x) (K d)
 |some x,none=>af c (K x) False
 |none,some d=>af c False (K d)
 |none,none=>False
def tm(v:J0)(K:J0->Prop):Prop:=
 match v with
 | .pointer p=>At p λa=>K (.pointer (some a))
 |_=>False
def lL(a:Env)(x:Option Operand)(K:Option J0->Prop):Prop:=match x with|none=>K none|some x=>rd a x λv=>K (some v)
def ZZ(b:Bool)(K:Prop):Prop:=match b with|true=>K|false=>False
def lM(P:Q1)(t:Q7)(v:J0)(K:Array J0->Prop):Prop:=
 match XC P t with
 |true=>K v.cells
 |false=>ZZ (ML v) (K #[v])
theorem AKd {v:J0}(a:ML v=true):v.cells= #[v]:=by cases v<;>first|rfl|(simp[ML] at a)
theorem RY {P:Q1}{t:Q7}{v:J0}{K:Array J0->Prop}(a:lM P t v K):K v.cells:=by
 unfold lM at a;split at a
 ·exact a
 ·cases b:ML v with
  |false=>rw[b] at a;exact a.elim
  |true=>rw[b] at a;rw[AKd b];exact a
def kB(b:Nat->Option (Nat×Nat))(cells:Array J0):List (Nat×Array J0)->Option (Array J0)
 | []=>some cells
 |(i,a)::rest=>
  match b i with
  |none=>none
  |some (off,d)=>
   if a.size≠d||off+a.size>cells.size then none
   else kB b (a.zipIdx.foldl (λe (c,f)=>e.setIfInBounds (off+f) c) cells) rest
theorem nv(a:Nat->Option (Nat×Nat)): ∀(l:List (Nat×J0)) (cells:Array J0),Instr.fill a cells l=kB a cells (l.map λp=>(p.1,p.2.cells))
 | [],cells=>rfl
 |(i,v)::rest,cells=>by
  simp only[Instr.fill,BT,kB];cases a i with
  |none=>rfl
  |some p=>obtain⟨off,b⟩:=p;simp only[];split<;>first|rfl|exact nv a rest _
def ASm(P:Q1)(t:Q7)(i:Nat):Option Q7:=
 match P.underlying t with
 |some (.struct b)=>(b[i]?).map (·.type)
 |some (.array _ a)=>some a
 |some (.slice a)=>some a
 |_=>none
def lN(P:Q1)(t:Q7)(a:Env):List (Nat×Operand)->(List (Nat×Array J0)->Prop)->Prop
 | [],K=>K []
 |(i,x)::b,K=>match ASm P t i with
  |some ft=>rd a x λv=>lM P ft v λc=>lN P t a b λl=>K ((i,c)::l)
  |none=>False
def placesOf(P:Q1):List Field->Option (List (Nat×Nat))
 | []=>some []
 |f::a=>match P.info? f.type with
  |some i=>match placesOf P a with
   |some l=>some ((f.offset,i.size)::l)
   |none=>none
  |none=>none
def pM(P:Q1)(t:Q7)(a:List (Nat×Array J0)):Option (Array J0):=
 match P.info? t with
 |some i=>match i.zero with
  |some z=>match P.underlying t with
   |some (.struct c)=>match placesOf P c.toList with
    |some l=>kB (l.toArray[·]?) z.cells a
    |none=>none
   |some (.array _ d)=>match P.info? d with
    |some b=>kB (λe=>some (e*b.size,b.size)) z.cells a
    |none=>none
   |_=>none
  |none=>none
 |none=>none
def ASL(P:Q1)(t:Q7)(a:Array (Nat×Operand))(b:Env)(K:J0->Prop):Prop:=
 lN P t b a.toList λl=>match pM P t l with|some cells=>K (.agg cells)|none=>False
def nw(P:Q1)(e:Oper)(d:Env)(K:J0->Prop):Prop:=
 match e.op with
 | .nilCheck x=>rd d x λv=>tm v K
 | .binOp k t x g _=>rd d x λv=>rd d g λu=>pG P k t x g v u K
 | .indexAddr t x i=>rd d x λv=>rd d i λu=>pH P t v u K
 | .index t x i=>rd d x λv=>rd d i λu=>pI P t v u K
 | .slice t x h j n=>match n with
  |none=>rd d x λv=>lL d h λl=>lL d j λf=>pJ P t v l f K
  |some m=>rd d x λv=>lL d h λl=>lL d j λf=>rd d m λo=>pK P t v l f o K
 | .pick c a b=>rd d c λv=>match v with| .bool c=>pL c (rdv d a) (rdv d b) K|_=>False
 | .build t q=>ASL P t q d K
 | .fieldAddr t x i=>rd d x λv=>match v with| .pointer p=>At p λa=>Sr P (Instr.fieldAt t (.pointer (some a)) i) K|_=>False
 |_=>known d e.op.operands.toList (Sr P (execOp (ρof d) e) λx=>match x with| .value v=>K v|_=>False)
theorem At.mk {p:Q2}{K:Q6->Prop}(b:At p K): ∃a,p=some a/\K a:=by
 cases p with
 |none=>exact b.elim
 |some a=>exact⟨a,rfl,b⟩
theorem iZ {P:Q1}{s:Sem J0}{v:J0}{w a:World}(b:s.run P w= .ok v a):(do pure (.value (<- s)):Sem Next).run P w= .ok (.value v) a:=by rw[Sem.run_bind,b];rfl
theorem ATw {P:Q1}{s:Sem Unit}{w a:World}(b:s.run P w= .ok () a):(do s;pure .skip:Sem Next).run P w= .ok .skip a:=by rw[Sem.run_bind,b];rfl
section
variable {P : Q1} {w : World}
theorem BL {t:Q7}{a:TypeDesc}(b:P.underlying t=some a):(underlying t).run P w= .ok a w:=run_underlying b w
theorem tq {t:Q7}{i:TypeInfo}(a:P.info? t=some i):(typeInfo t).run P w= .ok i w:=by simp[typeInfo,a]
theorem run_sizeOf {t:Q7}{i:TypeInfo}(a:P.info? t=some i):(sizeOf t).run P w= .ok i.size w:=by simp[sizeOf,tq a]
def UR(P:Q1)(t:Q7):Option J0:=
 match P.underlying t with
 |some (.pointer _)=>some (.pointer none)
 |some (.slice _)=>some (.slice none 0 0)
 |some (.map _ _)=>some (.map none)
 |some (.func _ _ _)=>some .nilFunc
 |some (.interface _)=>some .nilIface
 |_=>none
theorem X8 {t:Q7}{b:Operand}(a:Va P t b=true): ∃u,b= .const u/\UR P t=some u:=by unfold Va at a;unfold UR;split at a<;>first|(cases a;done)|(split at a<;>first|(cases a;done)|exact⟨_,rfl,rfl⟩)
theorem AGR(g:Nat){t:Q7}{v u:J0}{K:Bool->Prop}(c:lK P t v K)(d:UR P t=some u):
  ∃b,(∀ w,(Op.equalIn (g+1) t v u).run P w= .ok b w)/\(∀ w,(Op.equalIn (g+1) t u v).run P w= .ok b w)/\K b:=by
 unfold lK at c;unfold UR at d;cases e:P.underlying t with
 |none=>rw[e] at c;exact c.elim
 |some i=>
  rw[e] at c d;cases i<;>simp only[] at c d<;>try exact c.elim
  case pointer h=>
   simp only[BE] at d;subst d;cases v<;>simp only[] at c<;>try exact c.elim
   case pointer p=>
    refine⟨_,λw=>?_,λw=>?_,c⟩
    ·cases p<;>simp[Op.equalIn,BL e]
    ·cases p<;>simp[Op.equalIn,BL e]
  case slice h=>
   simp only[BE] at d;subst d;cases v<;>simp only[] at c<;>try exact c.elim
   case slice p a b=>
    refine⟨_,λw=>?_,λw=>?_,c⟩
    ·cases p<;>simp[Op.equalIn,BL e]
    ·cases p<;>simp[Op.equalIn,BL e]
  case map j h=>
   simp only[BE] at d;subst d;cases v<;>simp only[] at c<;>try exact c.elim
   case map p=>
    refine⟨_,λw=>?_,λw=>?_,c⟩
    ·cases p<;>simp[Op.equalIn,BL e]
    ·cases p<;>simp[Op.equalIn,BL e]
  case func ps k l=>
   simp only[BE] at d;subst d;obtain⟨f,c⟩:=c;cases v<;>simp only[jJ] at f
   ·refine⟨_,λw=>?_,λw=>?_,c⟩<;>simp[Op.equalIn,BL e,XR]
   ·refine⟨_,λw=>?_,λw=>?_,c⟩<;>simp[Op.equalIn,BL e,XR]
  case interface m=>
   simp only[BE] at d;subst d;obtain⟨f,c⟩:=c;cases v<;>simp only[lJ] at f
   ·refine⟨_,λw=>?_,λw=>?_,c⟩<;>simp[Op.equalIn,BL e,Zr]
   ·refine⟨_,λw=>?_,λw=>?_,c⟩<;>simp[Op.equalIn,BL e,Zr]
end
section
variable {P : Q1}
def PR(P:Q1)(s:Sem J0)(K:J0->Prop):Prop:= ∃v,(∀ a,s.run P a= .ok v a)/\K v
theorem AEy {N:Nat}{a:Act}{c:Env}(f:Fits N a c){o:Oper}{K:J0->Prop}(g:Ji o)
  (h:known c o.op.operands.toList (Sr P (execOp (ρof c) o) λx=>match x with| .value v=>K v|_=>False)):
  ∃v,(∀ d,(execOp a.eval o).run P d= .ok (.value v) d)/\K v:=by
 obtain⟨i,j⟩:=Kj f h;obtain⟨x,b,e⟩:=Mr j;rw[execOp_congr o g (λx b=>i x (by simpa using b))] at b;cases x<;>simp only[] at e
 exact⟨_,b,e⟩
theorem AMr {d:BinOp}{t:Q7}{x g:Operand}{v u:J0}{K:J0->Prop}(h:d= .quo\/d= .rem)(c:pD d v u K):PR P (do eqGuard d t x g v u;binOp d t v u) K:=by
 unfold pD at c;cases v<;>cases u<;>simp only[] at c<;>try exact c.elim
 rename_i i a j b;by_cases f:i=j
 ·subst f;rcases h with rfl|rfl
  ·simp only[decide_true] at c;obtain⟨e,c⟩:=c;exact⟨_,λk=>by simp[eqGuard,binOp,Op.intDiv,e],c⟩
  ·simp only[decide_true] at c;obtain⟨e,c⟩:=c;exact⟨_,λk=>by simp[eqGuard,binOp,Op.intDiv,e],c⟩
 ·rw[decide_eq_false f] at c;exact c.elim
theorem AP4 {b:BinOp}{t:Q7}{x d:Operand}{v u:J0}{K:J0->Prop}(e:b= .shl\/b= .shr)(a:pE b v u K):PR P (do eqGuard b t x d v u;binOp b t v u) K:=by
 unfold pE at a;cases v<;>cases u<;>simp only[] at a<;>try exact a.elim
 rcases e with rfl|rfl
 ·simp only[] at a;obtain⟨c,a⟩:=a;exact⟨_,λf=>by simp[eqGuard,binOp,Op.shift,Int.not_lt.2 c],a⟩
 ·simp only[] at a;obtain⟨c,a⟩:=a;exact⟨_,λf=>by simp[eqGuard,binOp,Op.shift,Int.not_lt.2 c],a⟩
theorem ANM {t:Q7}{x b:Operand}{v u:J0}{K:J0->Prop}(a:pF v u K):PR P (do eqGuard .add t x b v u;binOp .add t v u) K:=by
 unfold pF at a;cases v<;>cases u<;>simp only[] at a<;>try exact a.elim
 obtain⟨c,a⟩:=a;refine⟨_,λe=>?_,a⟩;have d: ¬(((_:A2K).size+(_:A2K).size:Nat):Int)>IntKind.i64.max:=Int.not_lt.2 c;simp only[eqGuard,binOp,Op.stringOp,if_neg d];rfl
theorem tt {t:Q7}{v u:J0}{K:Bool->Prop}(c:lK P t v K)(d:UR P t=some u):
  ∃b,(∀ a,(Op.equal t v u).run P a= .ok b a)/\(∀ a,(Op.equal t u v).run P a= .ok b a)/\K b:=AGR 9999 c d
theorem binOp_eql {a:BinOp}{t:Q7}{v u:J0}{b:Bool}(g:a= .eql\/a= .neq)(c:UR P t=some u){d:World}(e:(Op.equal t v u).run P d= .ok b d):
  (binOp a t v u).run P d= .ok (WL a b) d/\True:=by
 have f:u= .pointer none\/u= .slice none 0 0\/u= .map none\/u= .nilFunc\/u= .nilIface:=by unfold UR at c;split at c<;>simp at c<;>subst c<;>simp
 refine⟨?_,trivial⟩;rcases g with rfl|rfl
 ·rcases f with rfl|rfl|rfl|rfl|rfl<;>cases v<;>simp[binOp,e,WL]
 ·rcases f with rfl|rfl|rfl|rfl|rfl<;>cases v<;>simp[binOp,e,WL]
theorem AJc {a:BinOp}{t:Q7}{v u:J0}{b:Bool}(g:a= .eql\/a= .neq)(c:UR P t=some u){d:World}(e:(Op.equal t u v).run P d= .ok b d):
  (binOp a t u v).run P d= .ok (WL a b) d/\True:=by
 have f:u= .pointer none\/u= .slice none 0 0\/u= .map none\/u= .nilFunc\/u= .nilIface:=by unfold UR at c;split at c<;>simp at c<;>subst c<;>simp
 refine⟨?_,trivial⟩;rcases g with rfl|rfl
 ·rcases f with rfl|rfl|rfl|rfl|rfl<;>cases v<;>simp[binOp,e,WL]
 ·rcases f with rfl|rfl|rfl|rfl|rfl<;>cases v<;>simp[binOp,e,WL]
theorem tu {b:BinOp}{t:Q7}{x e:Operand}{v u:J0}{d:World}(f:b= .eql\/b= .neq)(a:UR P t=some u)(g:(∃ c,x= .const c)\/(∃ c,e= .const c)):
  (eqGuard b t x e v u).run P d= .ok () d/\(eqGuard b t x e u v).run P d= .ok () d:=by
 have h:u= .pointer none\/u= .slice none 0 0\/u= .map none\/u= .nilFunc\/u= .nilIface:=by unfold UR at a;split at a<;>simp at a<;>subst a<;>simp
 clear a;rcases f with rfl|rfl<;>rcases g with⟨c,rfl⟩|⟨c,rfl⟩<;>rcases h with rfl|rfl|rfl|rfl|rfl<;>cases v<;>exact⟨by simp[eqGuard],by simp[eqGuard]⟩
theorem ANP {d:BinOp}{t:Q7}{x h:Operand}{v u:J0}{K:J0->Prop}(n: ∀c,x= .const c->v=c)(o: ∀c,h= .const c->u=c)(e:pG P d t x h v u K):
  PR P (do eqGuard d t x h v u;binOp d t v u) K:=by
 unfold pG at e;cases a:Uq P d t x h with
 |dZ=>rw[a] at e;exact Mr e
 |no=>rw[a] at e;exact e.elim
 |div=>
  rw[a] at e;refine AMr ?_ e;unfold Uq at a;cases d<;>simp only[] at a<;>first|exact .inl rfl|exact .inr rfl|(exfalso;split at a<;>first|(cases a;done)|(split at a<;>first|(cases a;done)|(split at a<;>cases a)))
 |shift=>
  rw[a] at e;refine AP4 ?_ e;unfold Uq at a;cases d<;>simp only[] at a<;>first|exact .inl rfl|exact .inr rfl|(exfalso;split at a<;>first|(cases a;done)|(split at a<;>first|(cases a;done)|(split at a<;>cases a)))
 |cat=>
  rw[a] at e;have:d= .add:=by unfold Uq at a;cases d<;>simp only[] at a<;>first|rfl|(exfalso;split at a<;>first|(cases a;done)|(split at a<;>first|(cases a;done)|(split at a<;>cases a)))
  subst this;exact ANM e
 |jn=>
  rw[a] at e;have f:(d= .eql\/d= .neq)/\Va P t h=true:=by
   unfold Uq at a;cases d<;>simp only[] at a<;>first
    |(refine⟨.inl rfl,?_⟩;split at a<;>first|(cases a;done)|(split at a<;>first|assumption|(split at a<;>cases a)))
    |(refine⟨.inr rfl,?_⟩;split at a<;>first|(cases a;done)|(split at a<;>first|assumption|(split at a<;>cases a)))
    |(exfalso;split at a<;>first|(cases a;done)|(split at a<;>first|(cases a;done)|(split at a<;>cases a)))
  obtain⟨f,i⟩:=f;obtain⟨c,l,g⟩:=X8 i;have:=o c l;subst this;obtain⟨b,p,_,j⟩:=tt e g;refine⟨WL d b,λk=>?_,j⟩;rw[Sem.run_bind,(tu f g (.inr ⟨_,l⟩)).1];exact(binOp_eql f g (p k)).1
 |jo=>
  rw[a] at e;have f:(d= .eql\/d= .neq)/\Va P t x=true:=by
   unfold Uq at a;cases d<;>simp only[] at a<;>first
    |(refine⟨.inl rfl,?_⟩;split at a<;>first|(cases a;done)|(split at a<;>first|(cases a;done)|(split at a<;>first|assumption|(cases a;done))))
    |(refine⟨.inr rfl,?_⟩;split at a<;>first|(cases a;done)|(split at a<;>first|(cases a;done)|(split at a<;>first|assumption|(cases a;done))))
    |(exfalso;split at a<;>first|(cases a;done)|(split at a<;>first|(cases a;done)|(split at a<;>cases a)))
  obtain⟨f,i⟩:=f;obtain⟨c,m,g⟩:=X8 i;have:=n c m;subst this;obtain⟨b,_,q,j⟩:=tt e g;refine⟨WL d b,λk=>?_,j⟩;rw[Sem.run_bind,(tu f g (.inl ⟨_,m⟩)).2];exact(AJc f g (q k)).1
end
section
variable {P : Q1}
theorem AEV {t:Q7}{v i:J0}{K:J0->Prop}(b:pH P t v i K):PR P (Instr.indexAt t v i) K:=by
 unfold pH at b;split at b
 ·rename_i h d;split at b
  ·rename_i p len c j k l e;obtain⟨a,rfl,⟨f,g⟩,b⟩:=b;refine⟨_,λm=>?_,b⟩;simp[Instr.indexAt,asIntOf,BL d,run_sizeOf e,f,g]
  ·exact b.elim
 ·rename_i len h d;split at b
  ·rename_i p j k l e;obtain⟨a,rfl,b⟩:=At.mk b;obtain⟨⟨f,g⟩,b⟩:=b;refine⟨_,λm=>?_,b⟩;simp[Instr.indexAt,asIntOf,BL d,run_sizeOf e,f,g,Instr.sureAddr]
  ·exact b.elim
 ·exact b.elim
theorem AIH {t:Q7}{v i:J0}{K:J0->Prop}(a:pI P t v i K):PR P (Instr.index t v i) K:=by
 unfold pI at a;split at a
 ·rename_i c;split at a
  ·rename_i s g b;obtain⟨⟨d,h⟩,a⟩:=a;refine⟨_,λj=>?_,a⟩;have e:b.toNat<s.size:=by omega
   have f:s[b.toNat]? =some s[b.toNat]:=by simp[e]
   simp[Instr.index,asIntOf,BL c,d,f,dq]
  ·exact a.elim
 ·exact Mr a
 ·exact a.elim
theorem VF {x:Option J0}{d max:Nat}{K:Nat->Prop}(a:gK x d max K):
  (x=none/\K d)\/ ∃c b,x=some (.int c b)/\0<=b/\b<=(max:Int)/\K b.toNat:=by
 unfold gK at a;split at a
 ·rename_i c b;obtain⟨⟨e,f⟩,a⟩:=a;exact .inr ⟨c,b,rfl,e,f,a⟩
 ·exact .inl ⟨rfl,a⟩
 ·exact a.elim
theorem run_sliceBound {d:IntKind}{a:Int}{b:Nat}{e:BoundsCode}(f:0<=a)(g:a<=(b:Int))(c:World):
  (Instr.sliceBound (.int d a) b e).run P c= .ok a.toNat c:=by
 simp[Instr.sliceBound,asIntOf,f,g]
theorem NV {b:Bool}{len g:Nat}{k m:Option J0}{K:Nat->Nat->Prop}
  (p:gK m len g λe=>gK k 0 e λl=>K l e): ∃l e,(∀ d,(Instr.sliceBounds b len g k m none).run P d= .ok (l,e,g) d)/\K l e:=by
 obtain⟨f,h⟩|⟨s,t,f,n,o,h⟩:=VF p
 ·obtain⟨a,c⟩|⟨q,r,a,i,j,c⟩:=VF h
  ·exact⟨_,_,λd=>by simp[Instr.sliceBounds,f,a],c⟩
  ·exact⟨_,_,λd=>by simp[Instr.sliceBounds,f,a,run_sliceBound i j],c⟩
 ·obtain⟨a,c⟩|⟨q,r,a,i,j,c⟩:=VF h
  ·exact⟨_,_,λd=>by simp[Instr.sliceBounds,f,a,run_sliceBound n o],c⟩
  ·exact⟨_,_,λd=>by simp[Instr.sliceBounds,f,a,run_sliceBound n o,run_sliceBound i j],c⟩
theorem AH4 {t:Q7}{v:J0}{g h:Option J0}{K:J0->Prop}(c:pJ P t v g h K):PR P (Instr.sliceAt t v g h none) K:=by
 unfold pJ at c;split at c
 ·rename_i d;split at c
  ·rename_i s;obtain⟨l,i,e,c⟩:=NV (P:=P) (b:=false) c;refine⟨_,λj=>?_,c⟩;simp[Instr.sliceAt,Instr.slice,BL d,e]
  ·exact c.elim
 ·rename_i k d;split at c
  ·rename_i p len o m f;obtain⟨l,i,e,c⟩:=NV (P:=P) (b:=true) c;refine⟨_,λj=>?_,c⟩;simp[Instr.sliceAt,Instr.slice,BL d,e,run_sizeOf f,Az]
  ·exact c.elim
 ·rename_i q k d;split at c
  ·rename_i p m f;obtain⟨a,rfl,n⟩:=At.mk c;obtain⟨l,i,e,c⟩:=NV (P:=P) (b:=false) n;refine⟨_,λj=>?_,c⟩;simp[Instr.sliceAt,BL d,e,run_sizeOf f,Instr.sureAddr]
  ·exact c.elim
 ·exact c.elim
theorem AG2 {t:Q7}{v d:J0}{e f:Option J0}{K:J0->Prop}(a:pK P t v e f d K):PR P (Instr.sliceAt t v e f (some d)) K:=by
 unfold pK at a;split at a
 ·rename_i q g;split at a
  ·rename_i p len r s u w b x h;obtain⟨⟨i,j⟩,⟨k,l⟩,a⟩:=a;obtain⟨c,b⟩|⟨y,z,c,m,n,b⟩:=VF a
   ·refine⟨_,λo=>?_,b⟩;simp[Instr.sliceAt,Instr.slice,Instr.sliceBounds,BL g,run_sizeOf h,Az,c,run_sliceBound i j,run_sliceBound k l]
   ·refine⟨_,λo=>?_,b⟩;simp[Instr.sliceAt,Instr.slice,Instr.sliceBounds,BL g,run_sizeOf h,Az,c,run_sliceBound i j,run_sliceBound k l,run_sliceBound m n]
  ·exact a.elim
 ·exact a.elim
theorem af.mk {b:Bool}{c d:Prop}(a:af b c d):(b=true->c)/\(b=false->d):=by
 cases b
 ·exact⟨λa=>(by cases a),λ_=>a⟩
 ·exact⟨λ_=>a,λa=>(by cases a)⟩
theorem AJf {c:Bool}{a b:Option J0}{va vb:J0}(e: ∀v,a=some v->va=v)(f: ∀v,b=some v->vb=v){K:J0->Prop}(d:pL c a b K):
  K (if c then va else vb):=by
 unfold pL at d;split at d
 ·rename_i x g;rw[e _ rfl,f _ rfl];cases c<;>exact d
 ·rename_i x g _;rw[e _ rfl,f _ rfl];cases c<;>exact d
 ·rename_i x;rw[e _ rfl];cases c
  ·exact d.elim
  ·exact d
 ·rename_i g;rw[f _ rfl];cases c
  ·exact d
  ·exact d.elim
 ·exact d.elim
theorem Rl {N:Nat}{a:Act}{b:Env}(d:Fits N a b){x:Option Operand}{K:Option J0->Prop}(c:lL b x K):K (x.map a.eval):=by
 cases x with
 |none=>exact c
 |some x=>exact BZ d c
theorem SE {N:Nat}{a:Act}{c:Env}(d:Fits N a c){t:Q7}: ∀ {l:List (Nat×Operand)} {K:List (Nat×Array J0)->Prop},lN P t c l K->K (l.map λp=>(p.1,(a.eval p.2).cells))
 | [],K,b=>b
 |(i,x)::g,K,b=>by
  unfold lN at b;split at b
  ·have e:=RY (BZ d b);have f:=SE d e;exact f
  ·exact b.elim
theorem ua: ∀(a:List Field),placesOf P a=a.mapM (λf=>(P.info? f.type).map λi=>(f.offset,i.size))
 | []=>rfl
 |f::b=>by
  simp only[placesOf,OS,Option.bind_eq_bind,Option.pure_def,ua b];cases P.info? f.type with
  |none=>rfl
  |some i=>simp only[HP,P0];cases b.mapM (λf=>(P.info? f.type).map λi=>(f.offset,i.size))<;>rfl
theorem AKu {t:Q7}{b:Array (Nat×J0)}{cells:Array J0}(a:pM P t (b.toList.map λp=>(p.1,p.2.cells))=some cells)(c:World):
  (Instr.build t b).run P c= .ok (.agg cells) c:=by
 unfold pM at a;split at a
 ·rename_i j e;split at a
  ·rename_i z f;split at a
   ·rename_i k d;split at a
    ·rename_i l g;rw[<- nv] at a;rw[ua] at g;have h:Instr.fill (λx=>l[x]?) z.cells b.toList=some cells:=by simpa using a
     simp[Instr.build,run_underlying d,typeInfo,zeroValue,e,f,Up,run_places c _ _ g,h]
    ·cases a
   ·rename_i m n d;split at a
    ·rename_i o i;rw[<- nv] at a;simp[Instr.build,run_underlying d,sizeOf,typeInfo,zeroValue,e,f,i,a]
    ·cases a
   ·cases a
  ·cases a
 ·cases a
theorem ub {N:Nat}{a:Act}{n:Env}(e:Fits N a n){o:Oper}{K:J0->Prop}(r:Ji o)(d:nw P o n K):
  ∃v,(∀ g,(execOp a.eval o).run P g= .ok (.value v) g)/\K v:=by
 have lift: ∀ {s:Sem J0},PR P s K->(execOp a.eval o=do pure (.value (<- s)))-> ∃v,(∀ g,(execOp a.eval o).run P g= .ok (.value v) g)/\K v:=by intro s ⟨v,j,u⟩ w;exact⟨v,λg=>by rw[w];exact iZ (j g),u⟩
 have y:=AEy (P:=P) e (o:=o) (K:=K) r;unfold nw at d;cases f:o.op
 case nilCheck x=>
  rw[f] at d;have d:=BZ e d;unfold tm at d;cases k:a.eval x<;>rw[k] at d<;>simp only[] at d
  rename_i p;obtain⟨b,rfl,d⟩:=At.mk d;exact⟨_,λg=>by simp[execOp,f,k],d⟩
 case binOp A t x q t'=>
  rw[f] at d;have d:=BZ e (BZ e d);refine lift (ANP (λc h=>by subst h;rfl) (λc h=>by subst h;rfl) d) ?_;simp[execOp,f]
 case indexAddr t x i=>
  rw[f] at d;have d:=BZ e (BZ e d);refine lift (AEV d) ?_;simp[execOp,f]
 case index t x i=>
  rw[f] at d;have d:=BZ e (BZ e d);refine lift (AIH d) ?_;simp[execOp,f]
 case slice t x B C z=>
  rw[f] at d;cases z with
  |some m=>
   have d:=BZ e (Rl e (Rl e (BZ e d)));refine lift (AG2 d) ?_;simp[execOp,f]
  |none=>
   have d:=Rl e (Rl e (BZ e d));refine lift (AH4 d) ?_;simp[execOp,f]
 case build t D=>
  rw[f] at d;have d:=SE e d;split at d
  ·rename_i cells h;refine⟨_,λg=>?_,d⟩;simp only[execOp,f];refine iZ (AKu ?_ g);rw[<- h];congr 1;simp
  ·exact d.elim
 case pick c x q=>
  rw[f] at d;have d:=BZ e d;cases h:a.eval c<;>rw[h] at d<;>simp only[] at d
  rename_i b;have d:=AJf (va:=a.eval x) (vb:=a.eval q) (λv j=>e.rdv j) (λv j=>e.rdv j) d;exact⟨_,λg=>by simp[execOp,f,h,asBool],d⟩
 case fieldAddr t x i=>
  rw[f] at d;have d:=BZ e d;cases k:a.eval x<;>rw[k] at d<;>simp only[] at d
  obtain⟨b,rfl,l⟩:=At.mk d;clear d;unfold Sr at l;split at l
  ·rename_i v h;exact⟨v,λg=>by simp only[execOp,f,k];exact iZ (Da h g),l⟩
  ·exact l.elim
 all_goals (rw[f] at d;simp only[] at d;rw[<- f] at d;exact y d)
def Mt(b:aa)(a:Q6):Nat->List J0->Prop
 |_,[]=>True
 |i,[v]=>ah b (a.add i)=some v
 |i,v::c=>ah b (a.add i)=some v/\Mt b a (i+1) c
def loadT(P:Q1)(t:Q7)(c:aa)(a:Q6)(K:J0->(aa->Prop)->Prop):Prop:=
 match XC P t with
 |true=>match P.info? t with
  |some i=>match Nat.beq (jI P 20 t).length i.size with
   |true=>pB c a 0 (jI P 20 t) λd=>K (.agg d.toArray) (λb=>Mt b a 0 d)
   |false=>False
  |none=>False
 |false=>match P.underlying t with
  |some _=>match jI P 20 t with
   | [s]=>s.load c a λx=>K (s.val x) (λb=>ah b a=some (s.val x))
   |_=>False
  |none=>False
def nJ(P:Q1)(b:Oper)(c:Env)(d:aa)(K:J0->(aa->Prop)->Prop):Prop:=
 match b.op with
 | .load t x=>rd c x λv=>match v with
  | .pointer p=>At p λa=>loadT P t d a K
  |_=>False
 |_=>False
theorem WG {b:aa}{a:Q6}{i:Nat}{v:J0}{c:List J0}:Mt b a i (v::c)↔ah b (a.add i)=some v/\Mt b a (i+1) c:=by
 cases c with
 |nil=>simp[Mt]
 |cons u d=>simp[Mt]
theorem WH {d:aa}{a:Q6}: ∀ {l:List Sc} {i:Nat} {K:List J0->Prop},pB d a i l K-> ∃c,c.length=l.length/\Mt d a i c/\K c
 | [],_,_,b=>⟨[],rfl,trivial,b⟩
 |s::l,i,K,b=>by
  obtain⟨x,e,b⟩:=Sc.cw b;obtain⟨c,f,g,b⟩:=WH b;exact⟨s.val x::c,by simp[f],WG.2 ⟨e,g⟩,b⟩
theorem run_loadCellsFrom {A:al}{b:aa}{a:Q6}{n:Nat}: ∀ {c:List J0} {i:Nat} {acc:Array J0},Mt b a i c->
  (loadCellsFrom a i c.length acc).run P (A.at b n)= .ok (acc++c.toArray) (A.at b n)
 | [],_,acc,_=>by simp[loadCellsFrom]
 |v::c,i,acc,d=>by
  obtain⟨e,f⟩:=WG.1 d;have g:=run_loadCellsFrom (A:=A) (n:=n) (acc:=acc.push v) f;have h:(load (a.add i)).run P (A.at b n)= .ok v (A.at b n):=by have j:(A.at b n).cell? (a.add i)=some v:=e;simp[load,Sem.run,j]
  simp only[A6,loadCellsFrom,Sem.run_bind,h,Result.andThen_ok,g];simp
theorem uc {t:Q7}{b:World}(c: ∃a,P.underlying t=some a):(isAgg t).run P b= .ok (XC P t) b:=by obtain⟨a,hd⟩:=c;unfold isAgg XC;rw[hd];cases a<;>simp[BL hd]
theorem ud {A:al}{t:Q7}{i:aa}{a:Q6}{K:J0->(aa->Prop)->Prop}(b:loadT P t i a K):
  ∃v st,(∀ c,st c-> ∀n,(loadVar t a).run P (A.at c n)= .ok v (A.at c n))/\st i/\K v st:=by
 unfold loadT at b;cases d:XC P t with
 |true=>
  rw[d] at b;simp only[] at b;have f: ∃e,P.underlying t=some e:=by
   cases f:P.underlying t with
   |none=>simp[XC,f] at d
   |some e=>exact⟨e,rfl⟩
  split at b
  ·rename_i q j;split at b
   ·rename_i g;have g:=IF g;obtain⟨r,k,l,b⟩:=WH b;refine⟨_,_,λc h n=>?_,l,b⟩;have m:=run_loadCellsFrom (P:=P) (A:=A) (n:=n) (acc:= #[]) h;simp only[loadVar,Sem.run_bind,uc f,d,Result.andThen_ok,if_true,run_sizeOf j];rw[<- g,<-k];simp only[loadCells,m,Result.andThen_ok];simp
   ·exact b.elim
  ·exact b.elim
 |false=>
  rw[d] at b;simp only[] at b;split at b
  ·rename_i e hd;split at b
   ·rename_i s _;obtain⟨x,o,b⟩:=Sc.cw b;refine⟨_,_,λc h n=>?_,o,b⟩;have p:(A.at c n).cell? a=some (s.val x):=h;simp[loadVar,uc ⟨e,hd⟩,d,load,Sem.run,p]
   ·exact b.elim
  ·exact b.elim
theorem cw {A:al}{N:Nat}{a:Act}{e:Env}(h:Fits N a e){f:Oper}{g:aa}{K:J0->(aa->Prop)->Prop}(c:nJ P f e g K):
  ∃v st,(∀ d,st d->iG P A f a.eval v d)/\st g/\K v st:=by
 unfold nJ at c;split at c
 ·rename_i t x i;have c:=BZ h c;split at c
  ·rename_i p d;obtain⟨b,rfl,c⟩:=At.mk c;obtain⟨v,st,j,k,c⟩:=ud (A:=A) c;refine⟨v,st,λl m n=>?_,k,c⟩;have:=j l m n;simp only[execOp,i,d];refine iZ ?_;simp only[Instr.loadAt,Instr.sureAddr,Sem.run_bind,Sem.run_pure,Result.andThen_ok];exact this
  ·exact c.elim
 ·exact c.elim
end
section
variable {P : Q1} {A : al} {r : Option Nat} {ops : Array Oper} {qb : Oper -> Bool} {ord : Nat -> Nat -> Bool}
abbrev Kt:=Act->aa->List (Nat×(aa->Prop))->Prop
def FB(P:Q1)(A:al)(ops:Array Oper)(qb:Oper->Bool)(ord:Nat->Nat->Bool)(i:Nat)(K:Kt):Kt:=λa c d=>
 match ops[i]? with
 |none=>False
 |some b=>
  if Region.wanted b (yielded ops a.tmps)=true then
   if qb b=true then
    ∃v,iG P A b a.eval v c/\K (a.put b.dst v) c ((i,iG P A b a.eval v)::d)
   else
    ∀f,EV P b a.eval (A.at c f) λv g=> ∃e h,g=A.at e h/\(∀ p∈d,un ord i p.1=true->p.2 e)/\K (a.put b.dst v) e d
  else K (a.put b.dst undef) c d
def mo(K:Kt):Prop:= ∀a b c d,K a b c->(∀ p∈d,p∈c)->K a b d
theorem FB.mono {i:Nat}{K f:Kt}(h: ∀a c d,K a c d->f a c d){a:Act}{c:aa}{d:List (Nat×(aa->Prop))}
  (b:FB P A ops qb ord i K a c d):FB P A ops qb ord i f a c d:=by
 unfold FB at b ⊢;cases g:ops[i]? with
 |none=>rw[g] at b;exact b
 |some l=>
  rw[g] at b;simp only at b ⊢;split
  ·rename_i e;rw[if_pos e] at b;split
   ·grind
   ·rename_i j;rw[if_neg j] at b;intro k;refine(b k).mono ?_
    grind
  ·rename_i e;rw[if_neg e] at b;exact h _ _ _ b
theorem FB.fx {i:Nat}{K:Kt}(c:mo K):mo (FB P A ops qb ord i K):=by
 intro a s t u b d;unfold FB at b ⊢;cases h:ops[i]? with
 |none=>rw[h] at b;exact b
 |some w=>
  rw[h] at b;simp only at b ⊢;split
  ·rename_i e;rw[if_pos e] at b;split
   ·rename_i f;rw[if_pos f] at b;obtain⟨v,k,g⟩:=b;refine⟨v,k,c _ _ _ _ g (λp j=>?_)⟩
    grind
   ·rename_i f;rw[if_neg f] at b;intro l;refine(b l).mono ?_;rintro v x ⟨m,n,o,q,g⟩;exact⟨m,n,o,λp j=>q p (d p j),c _ _ _ _ g d⟩
  ·rename_i e;rw[if_neg e] at b;exact c _ _ _ _ b d
theorem FB.swap {i f:Nat}{c d:Oper}(m:ops[i]? =some c)(g:ops[f]? =some d)(E:c.apart ops d=true)(F:Ji c)(G:Ji d)
  (T:un ord i f=true) (k:qb d=true) {K:Kt} (H:mo K) {a:Act} {q:aa} {s:List (Nat×(aa->Prop))}
  (b:FB P A ops qb ord f (FB P A ops qb ord i K) a q s):FB P A ops qb ord i (FB P A ops qb ord f K) a q s:=by
 obtain⟨t,I,w⟩:=Oper.apart_spec E;have U:un ord f i=true:=by unfold un at *;grind
 have x: ∀u,execOp (a.put d.dst u).eval c=execOp a.eval c:=λu=>execOp_put c F a d.dst u w
 have V: ∀u,execOp (a.put c.dst u).eval d=execOp a.eval d:=λu=>execOp_put d G a c.dst u t
 have y: ∀u,Region.wanted c (yielded ops (a.put d.dst u).tmps)=Region.wanted c (yielded ops a.tmps):=λu=>wanted_put c a d.dst u w
 have l: ∀u,Region.wanted d (yielded ops (a.put c.dst u).tmps)=Region.wanted d (yielded ops a.tmps):=λu=>wanted_put d a c.dst u t
 have z: ∀u,iG P A c (a.put d.dst u).eval=iG P A c a.eval:=λu=>by grind [iG]
 have n: ∀u,iG P A d (a.put c.dst u).eval=iG P A d a.eval:=λu=>by grind [iG]
 have B: ∀v u,(a.put c.dst v).put d.dst u=(a.put d.dst u).put c.dst v:=λv u=>Act.put_comm a v u I
 unfold FB at b ⊢;rw[g] at b;rw[m];simp only at b ⊢;by_cases e:Region.wanted d (yielded ops a.tmps)=true
 ·rw[if_pos e] at b;rw[if_pos k] at b;obtain⟨J,L,b⟩:=b;rw[m] at b;simp only[y,z] at b;by_cases h:Region.wanted c (yielded ops a.tmps)=true
  ·rw[if_pos h] at b ⊢;by_cases j:qb c=true
   ·rw[if_pos j] at b ⊢;obtain⟨C,M,b⟩:=b;refine⟨C,M,?_⟩;rw[g];simp only[l,n];rw[if_pos e,if_pos k];refine⟨J,L,?_⟩;rw[B];exact H _ _ _ _ b λp D=>by grind
   ·rw[if_neg j] at b ⊢;intro o;have:=b o;unfold EV at this;rw[x] at this;refine EV.mono this ?_;rintro C W ⟨N,O,R,D,b⟩;refine⟨N,O,R,λp S=>D p (AG _ S),?_⟩;rw[g];simp only[l,n];rw[if_pos e,if_pos k]
    grind [List.mem_cons_self]
  ·rw[if_neg h] at b ⊢;rw[g];simp only[l,n];rw[if_pos e,if_pos k]
   grind
 ·rw[if_neg e] at b;rw[m] at b;simp only[y,z] at b;by_cases h:Region.wanted c (yielded ops a.tmps)=true
  ·rw[if_pos h] at b ⊢;by_cases j:qb c=true
   ·rw[if_pos j] at b ⊢
    simp_all
   ·rw[if_neg j] at b ⊢;intro o;have:=b o;unfold EV at this ⊢;rw[x] at this;refine Next.dL ?_ this
    simp_all
  ·rw[if_neg h] at b ⊢;rw[g];simp only[l];rw[if_neg e,B];exact b
def RP(ord:Nat->Nat->Bool)(l:List Nat)(i:Nat):Bool:=l.all λa=> !ord i a
def UB(ops:Array Oper)(qb:Oper->Bool)(i:Nat):Bool:=match ops[i]? with|some a=>qb a|none=>false
def kS(ops:Array Oper)(qb:Oper->Bool)(ord:Nat->Nat->Bool)(l:List Nat):Option Nat:=l.find? λi=>UB ops qb i&&RP ord l i
def FT(P:Q1)(A:al)(ops:Array Oper)(qb:Oper->Bool)(ord:Nat->Nat->Bool)(Q:Act->aa->Prop):Nat->List Nat->Kt
 |_,[]=>λa b _=>Q a b
 |0,_::_=>λ_ _ _=>False
 |k+1,x::l=>λa b c=>
  match kS ops qb ord (x::l) with
  |some i=>FB P A ops qb ord i (FT P A ops qb ord Q k ((x::l).erase i)) a b c
  |none=> ∀i∈x::l,RP ord (x::l) i=true->FB P A ops qb ord i (FT P A ops qb ord Q k ((x::l).erase i)) a b c
variable {Q : Act -> aa -> Prop}
theorem FT.fx: ∀(k:Nat) (l:List Nat),mo (FT P A ops qb ord Q k l)
 |_,[]=>by intro a d _ _ b _;unfold FT at b ⊢;exact b
 |0,_::_=>by intro a d _ _ b _;unfold FT at b;exact b.elim
 |k+1,x::l=>by
  intro a d h j b e;unfold FT at b ⊢;split
  ·rename_i i c;rw[c] at b;exact FB.fx (FT.fx k _) _ _ _ _ b e
  ·rename_i c;rw[c] at b;exact λi f g=>FB.fx (FT.fx k _) _ _ _ _ (b i f g) e
def og(ops:Array Oper)(qb:Oper->Bool)(ord:Nat->Nat->Bool):Bool:=
 (ops.toList.all λe=>KL e)&&
 (List.range ops.size).all λi=>
  match ops[i]? with
  |none=>false
  |some c=>
   (c.after.toList.all λa=> !Region.binds .any a||decide (a.on<i))&&
   (List.range ops.size).all λb=>
    match ops[b]? with
    |none=>false
    |some d=>
     if decide (b<i) then
      if ord i b then c.after.toList.any λa=>Region.binds .any a&&(a.on==b||(decide (b<a.on)&&ord a.on b))
      else(!(qb c||qb d))||(c.apart ops d&&d.apart ops c)
     else !ord i b
structure mq (ops:Array Oper) (qb:Oper->Bool) (ord:Nat->Nat->Bool):Prop where
 nd: ∀(i:Nat) (o:Oper),ops[i]? =some o->KL o=true
 back: ∀(i:Nat) (o:Oper),ops[i]? =some o-> ∀e∈o.after,Region.binds .any e=true->e.on<i
 low: ∀i j,i<ops.size->j<ops.size->ord i j=true->j<i
 pair: ∀(i j:Nat) (oi oj:Oper),ops[i]? =some oi->ops[j]? =some oj->j<i->
   (ord i j=true/\ ∃e∈oi.after,Region.binds .any e=true/\(e.on=j\/(j<e.on/\ord e.on j=true)))\/
   (ord i j=false/\(qb oi=true\/qb oj=true->oi.apart ops oj=true/\oj.apart ops oi=true))
theorem AHj(c:og ops qb ord=true):mq ops qb ord:=by
 unfold og at c;simp only[A3,DO,Ln] at c;obtain⟨k,l⟩:=c;refine⟨λi f a=>k f (by grind),λi f a g h j=>?_,λi b d e a=>?_,λi b q s d e m=>?_⟩
 ·grind
 ·grind
 ·have n:i<ops.size:=(Array.getElem?_eq_some_iff.1 d).1;have o:b<ops.size:=(Array.getElem?_eq_some_iff.1 e).1;have:=l i n;rw[d] at this;simp only[A3,DO,Ln] at this;have:=this.2 b o;rw[e] at this;simp only at this;rw[if_pos (by simpa using m)] at this;cases a:ord i b with
  |true=>
   rw[a] at this;simp only[if_true,List.any_eq_true,A3,Ds,beq_iff_eq,decide_eq_true_eq] at this;obtain⟨g,h,j,p⟩:=this;exact .inl ⟨rfl,g,by simpa using h,j,p⟩
  |false=>
   rw[a] at this;simp only[Cd,if_false,A3,Ds,CD,GC] at this;refine .inr ⟨rfl,λt=>?_⟩
   grind
theorem YN {l:List Nat}{i a:Nat}(b:RP ord l i=true)(c:a∈l):ord i a=false:=by simp_all [RP,DO,CD]
theorem Rf {l:List Nat}{i a:Nat}(b:RP ord l i=true):RP ord (l.erase a) i=true:=by grind [RP,List.all_eq_true,List.mem_of_mem_erase]
theorem SX {l:List Nat}{a:Nat}(b:kS ops qb ord l=some a):a∈l/\UB ops qb a=true/\RP ord l a=true:=by
 unfold kS at b
 grind
theorem AKM {l:List Nat}(b:kS ops qb ord l=none){a:Nat}(c:a∈l)(d:UB ops qb a=true):RP ord l a=false:=by simp_all [kS,GW,E0]
theorem vT {i:Nat}(b:UB ops qb i=true): ∃a,ops[i]? =some a/\qb a=true:=by
 unfold UB at b
 grind
theorem mq.swap(f:mq ops qb ord){i b:Nat}(q:i≠b)(s:i<ops.size)(t:UB ops qb b=true)(u:ord i b=false)(v:ord b i=false){K:Kt}(l:mo K){a:Act}{g:aa}
  {h:List (Nat×(aa->Prop))}:
  (FB P A ops qb ord b (FB P A ops qb ord i K) a g h->FB P A ops qb ord i (FB P A ops qb ord b K) a g h)/\
  (UB ops qb i=true->FB P A ops qb ord i (FB P A ops qb ord b K) a g h->FB P A ops qb ord b (FB P A ops qb ord i K) a g h):=by
 obtain⟨j,d,m⟩:=vT t;have e:ops[i]? =some ops[i]:=Fo s;have n:=YT (f.nd _ _ e);have o:=YT (f.nd _ _ d);have p:(ops[i]).apart ops j=true/\j.apart ops (ops[i])=true:=by
  rcases Mz q with k|k
  ·rcases f.pair b i j _ d e k with⟨c,_⟩|⟨_,c⟩
   ·rw[v] at c;cases c
   simp_all
  ·rcases f.pair i b _ j e d k with⟨c,_⟩|⟨_,c⟩
   ·rw[u] at c;cases c
   ·exact c (.inr m)
 have w:un ord i b=true:=by grind [un,Nat.lt_or_gt_of_ne,Nat.max_eq_right,Nat.min_eq_left,Nat.max_eq_left,Nat.min_eq_right]
 have x:un ord b i=true:=by unfold un at *;grind
 exact⟨FB.swap e d p.1 n o w m l,λy=>FB.swap d e p.2 o n x (by grind [vT]) l⟩
theorem FT.both(D:mq ops qb ord): ∀(h:Nat) (l:List Nat),l.length=h+1->(∀ i∈l,i<ops.size)-> ∀(i:Nat),i∈l->RP ord l i=true->
  (∀ a c d,FT P A ops qb ord Q (h+1) l a c d->FB P A ops qb ord i (FT P A ops qb ord Q h (l.erase i)) a c d)/\
  (UB ops qb i=true-> ∀a c d,FB P A ops qb ord i (FT P A ops qb ord Q h (l.erase i)) a c d->FT P A ops qb ord Q (h+1) l a c d):=by
 intro h
 induction h with
 |zero=>
  intro l z s i f m;obtain⟨x,rfl⟩:=List.length_eq_one_iff.1 z;have:i=x:=by simpa using f
  subst this;constructor
  ·intro a c d e;unfold FT at e;split at e
   ·rename_i b j;have:=(SX j).1;have:b=i:=by simpa using this
    subst this;exact e
   ·exact e i (by simp) m
  ·intro j a c d e;unfold FT;split
   ·rename_i b B;have:=(SX B).1;have:b=i:=by simpa using this
    subst this;exact e
   ·intro E F _;have:E=i:=by simpa using F
    subst this;exact e
 |succ h t=>
  intro l z s i f m;obtain⟨x,g,rfl⟩: ∃x g,l=x::g:=by cases l with|nil=>cases z|cons x g=>exact⟨x,g,rfl⟩
  have u: ∀ {b},b∈x::g->((x::g).erase b).length=h+1:=λj=>by simp_all
  have v: ∀ {b},∀i∈(x::g).erase b,i<ops.size:=λi f=>s i (A08 f)
  have w: ∀ {p b},p∈x::g->p≠b->p∈(x::g).erase b:=λG H=>(List.mem_erase_of_ne H).2 G
  constructor
  ·intro a c d e;unfold FT at e;split at e
   ·rename_i b j;obtain⟨n,y,o⟩:=SX j;by_cases k:b=i
    ·subst k;exact e
    ·have C:=FB.mono (λa c d=>(t ((x::g).erase b) (u n) v i (w f (Ne.symm k)) (Rf m)).1 a c d) e;have q:=(D.swap (Ne.symm k) (s i f) y (YN m n) (YN o f) (FT.fx _ _)).1 C;rw[List.erase_comm] at q;exact FB.mono (λa c d=>(t ((x::g).erase i) (u f) v b (w n k) (Rf o)).2 y a c d) q
   ·exact e i f m
  ·intro j a c d e;unfold FT;split
   ·rename_i b B;obtain⟨n,y,o⟩:=SX B;by_cases k:b=i
    ·subst k;exact e
    ·have C:=FB.mono (λa c d=>(t ((x::g).erase i) (u f) v b (w n k) (Rf o)).1 a c d) e;have q:=(D.swap (Ne.symm k) (s i f) y (YN m n) (YN o f) (FT.fx _ _)).2 j C;rw[List.erase_comm] at q;exact FB.mono (λa c d=>(t ((x::g).erase b) (u n) v i (w f (Ne.symm k)) (Rf m)).2 j a c d) q
   ·rename_i I;have:=AKM I f j;rw[m] at this;cases this
theorem AJX {a i:Nat}{listed:Array Bool}(b:i<a)(c:listed.size=a)(d:listed.getD i false=false):left a (listed.setIfInBounds i true)=(left a listed).erase i:=by grind [AKa,List.erase_append_right]
theorem FT.any {m:Nat}{I:Exit->Act->World->Prop}(S: ∀a e d,Q a e->I .normal a (A.at e d))(l:mq ops qb ord):
  ∀(fuel:Nat) (listed:Array Bool) (a:Act) (e:aa) (aM:List (Nat×(aa->Prop))),(left ops.size listed).length=fuel->listed.size=ops.size->
   gJ ord listed->FT P A ops qb ord Q fuel (left ops.size listed) a e aM-> ∀d,wpAnyIn (Fw r) m P .any ops I fuel listed a (A.at e d):=by
 intro fuel
 induction fuel with
 |zero=>
  intro listed a e aM y z _ q d;have n:left ops.size listed= []:=CT y;refine⟨?_,?_⟩
  ·rcases J:Region.ready .any ops listed with _|⟨i,t⟩
   ·rfl
   ·exfalso;have f:i∈Region.ready .any ops listed:=by simp_all
    obtain⟨K,al,o,_⟩:=mem_ready.1 f;have h:i<ops.size:=(Array.getElem?_eq_some_iff.1 o).1;have:i∈left ops.size listed:=mem_left.2 ⟨h,by simp_all⟩;rw[n] at this;cases this
  ·rw[n] at q;unfold FT at q;exact S _ _ _ q
 |succ fuel B=>
  intro listed a e aM y z L q d;refine⟨λJ=>?_,λi f=>?_⟩
  ·exfalso;have T: ∀j i,i<j->i∈left ops.size listed->False:=by
    intro j
    induction j with
    |zero=>intro i f;omega
    |succ j U=>
     intro i _ f;obtain⟨h,K⟩:=mem_left.1 f;have o:ops[i]? =some ops[i]:=Fo h;by_cases s: ∀g∈ops[i].after,Region.binds .any g=true->listed.getD g.on false=true
     ·have:i∈Region.ready .any ops listed:=mem_ready.2 ⟨by simp_all,_,o,s⟩;rw[J] at this;cases this
     ·simp only[Classical.not_forall] at s;obtain⟨g,n,k,C⟩:=s;have am:=l.back i _ o g n k;exact U g.on (by omega) (mem_left.2 ⟨by omega,by simpa using C⟩)
   have C:left ops.size listed≠ []:=by grind
   obtain⟨i,f⟩:=List.exists_mem_of_ne_nil _ C;exact T (i+1) i (by omega) f
  ·obtain⟨K,w,p,s⟩:=mem_ready.1 f;have h:i<ops.size:=(Array.getElem?_eq_some_iff.1 p).1;have M:listed.getD i false=false:=by simp_all
   have V: ∀b,b<i->listed.getD b false=false->ord i b=false:=by
    intro b u x;have W:ops[b]? =some ops[b]:=Fo (by omega);rcases l.pair i b w _ p W u with⟨_,g,n,k,D⟩|⟨D,_⟩
    ·exfalso;have N:=s g n k;rcases D with rfl|⟨X,Y⟩
     ·rw[N] at x;cases x
     ·have:=L g.on b N X Y;rw[this] at x;cases x
    ·exact D
   have Z:i∈left ops.size listed:=mem_left.2 ⟨h,M⟩;have ab:RP ord (left ops.size listed) i=true:=by
    unfold RP;simp only[DO,CD];intro b u;obtain⟨ac,ad⟩:=mem_left.1 u;cases k:ord i b with
    |false=>rfl
    |true=>rw[V b (l.low i b h ac k) ad] at k;cases k
   have c:=(FT.both (Q:=Q) (P:=P) (A:=A) l fuel _ y (λb u=>(mem_left.1 u).1) i Z ab).1 a e aM q;have E:gJ ord (listed.setIfInBounds i true):=by
    intro j b O ae o;by_cases af:b=i
    ·simp_all
    ·rw[getD_set_ne false (Ne.symm af)];by_cases ag:j=i
     ·grind
     ·rw[getD_set_ne false (Ne.symm ag)] at O;exact L j b O ae o
   have ah:=AJX h z M;have F:(left ops.size (listed.setIfInBounds i true)).length=fuel:=by simp_all
   have G:(listed.setIfInBounds i true).size=ops.size:=by simp[z]
   rw[<- ah] at c;unfold FB at c;rw[p] at c;unfold wpOpIn;simp only[p];split
   ·rename_i H;simp only[H,if_true] at c;by_cases R:qb w=true
    ·rw[if_pos R] at c;obtain⟨v,ai,c⟩:=c;refine EV.wpIn (l.nd i w p) ?_;unfold EV;rw[ai d];exact B _ _ _ _ F G E c d
    ·rw[if_neg R] at c;refine EV.wpIn (l.nd i w p) ((c d).mono ?_);rintro v an ⟨ao,aj,rfl,_,ak⟩;exact B _ _ _ _ F G E ak aj
   ·rename_i H;simp only at c;rw[if_neg H] at c;exact⟨λ_ _=>trivial,B _ _ _ _ F G E c d⟩
theorem AAV {id m:Nat}{d:Exit->Act->World->Prop}(f: ∀a b c,Q a b->d .normal a (A.at b c))(g:P.follows .mixedOrders=true)
  (h:og ops qb ord=true) {a:Act} {b:aa} {c:Nat} (i:FT P A ops qb ord Q ops.size (List.range ops.size) a b []):(Code.region id ops true).wpIn (Fw r) m P d a (A.at b c):=by
 refine wpIn_region_any g ?_;have e:=AOu ops.size;refine FT.any (Q:=Q) (ord:=ord) (qb:=qb) (aM:= []) f (AHj h) _ _ _ b (by rw[e];simp) (by simp) ?_ (by rw[e];exact i) (c+1);intro j l k;exfalso;by_cases b:j<ops.size<;>simp[b] at k
end
inductive Cls where
 |pure|load|fq
def cls(P:Q1)(b:Oper):Cls:=
 match b.op with
 | .load _ _=> .load
 | .binOp d t x e _=>match Uq P d t x e with| .no=> .fq|_=> .pure
 | .convert s a _=>match P.underlying s with
  |some (.int _)=>(match P.underlying a with|some (.int _)=> .pure|_=> .fq)
  |some .string=>(match P.underlying a with|some .string=> .pure|_=> .fq)
  |_=> .fq
 | .call c=>match c.callee with
  | .builtin .min=>(match c.argTypes[0]? with
   |some t=>(match P.underlying t with|some (.float _)=> .fq|_=> .pure)
   |none=> .pure)
  | .builtin .max=>(match c.argTypes[0]? with
   |some t=>(match P.underlying t with|some (.float _)=> .fq|_=> .pure)
   |none=> .pure)
  | .builtin .cap=> .pure
  | .builtin .len=>(match c.argTypes[0]? with
   |some t=>(match P.underlying t with|some (.map _ _)=> .fq|_=> .pure)
   |none=> .fq)
  |_=> .fq
 | .move _| .assign _| .pick .. | .build .. | .nilCheck _| .unOp .. | .makeInterface .. | .makeFunc .. | .fieldAddr .. | .field .. | .indexAddr .. | .index .. | .slice .. | .extract .. => .pure
 |_=> .fq
def gN(A:al)(P:Q1)(m:Sem Unit)(b:aa)(K:aa->Prop):Prop:= ∀c,∃a d,m.run P (A.at b c)= .ok () (A.at a d)/\K a
def KZ(a:Env)(l:Array Operand):Array J0:=(l.toList.map (ρof a)).toArray
def ARk(P:Q1)(f:Q8):Bool:=match P.funcs[f]? with|some fn=>(match fn.body with|none=>true|some _=>false)|none=>false
def nK(A:al)(P:Q1)(f:Q8)(args:Array J0)(b:aa)(K:A2J):Prop:= ∀c,∃v a d,(callFunc f args).run P (A.at b c)= .ok (.value v) (A.at a d)/\K v a
def qn(A:al)(P:Q1)(d:Oper)(c:Call)(e:Env)(g:aa)(K:A2J):Prop:=
 match c.callee with
 | .value (.func f)=>known e c.args.toList (match ARk P f with
  |true=>nK A P f (KZ e c.args) g λv a=>QA P d.type v λv=>K v a
  |false=>Sr P (callFunc f (KZ e c.args)) λx=>match x with
   | .enter h i=>AA A P h i g λv a=>QA P d.type v λv=>K v a
   |_=>False)
 | .value x=>rd e x λfv=>known e c.args.toList (Eh A P fv (KZ e c.args) g λv a=>QA P d.type v λv=>K v a)
 | .builtin b=>known e c.args.toList (match b with
  | .append=>BD A P (Builtin.append_ c.argTypes d.type (KZ e c.args)) g λv a=>QA P d.type v λv=>K v a
  | .copy=>BD A P (Builtin.copy_ c.argTypes d.type (KZ e c.args)) g λv a=>QA P d.type v λv=>K v a
  | .delete=>BD A P (Builtin.delete_ c.argTypes d.type (KZ e c.args)) g λv a=>QA P d.type v λv=>K v a
  | .clear=>BD A P (Builtin.clear_ c.argTypes d.type (KZ e c.args)) g λv a=>QA P d.type v λv=>K v a
  | .len=>BD A P (Builtin.len_ c.argTypes d.type (KZ e c.args)) g λv a=>QA P d.type v λv=>K v a
  | .real=>BD A P (Builtin.real_ c.argTypes d.type (KZ e c.args)) g λv a=>QA P d.type v λv=>K v a
  | .imag=>BD A P (Builtin.imag_ c.argTypes d.type (KZ e c.args)) g λv a=>QA P d.type v λv=>K v a
  | .complex=>BD A P (Builtin.complex_ c.argTypes d.type (KZ e c.args)) g λv a=>QA P d.type v λv=>K v a
  | .min=>BD A P (Builtin.min_ c.argTypes d.type (KZ e c.args)) g λv a=>QA P d.type v λv=>K v a
  | .max=>BD A P (Builtin.max_ c.argTypes d.type (KZ e c.args)) g λv a=>QA P d.type v λv=>K v a
  |_=>False)
 |_=>False
def VQ(a:Q6):aa->Nat->List J0->(aa->Prop)->Prop
 |h,_,[],K=>K h
 |h,i,v::b,K=>ZZ (ML v) (ae h (a.add i) v λc=>VQ a c (i+1) b K)
def qo(P:Q1)(t:Q7)(c v:J0)(d:aa)(K:aa->Prop):Prop:=
 match c with
 | .pointer p=>At p λa=>match P.info? t with
  |some i=>lM P t v λb=>match Nat.beq b.size i.size with
   |true=>VQ a d 0 b.toList K
   |false=>False
  |none=>False
 |_=>False
def AUJ(P:Q1)(t:Q7)(v:J0)(a:aa)(K:A2J):Prop:=
 lM P t v λc=>ao a (.cells c t) λb d=>K (.pointer (some ⟨b,0,none⟩)) d
def rowOf(P:Q1)(b:Q7)(len:Nat)(c:List (Nat×Array J0)):Option (Array J0):=
 match P.info? b with
 |some a=>match a.zero with
  |some z=>match Nat.ble (len*a.size) (2^24) with
   |true=>kB (λi=>some (i*a.size,a.size)) ((Array.range (len*a.size)).map (z.cells[· % z.cells.size]!)) c
   |false=>none
  |none=>none
 |none=>none
def ue(P:Q1)(t:Q7)(len:Nat)(c:Array (Nat×Operand))(d:Env)(e:aa)(K:A2J):Prop:=
 match P.underlying t with
 |some (.slice a)=>lN P t d c.toList λl=>match rowOf P a len l with
  |some cells=>ao e (.cells cells a) λb f=>K (.slice (some ⟨b,0,none⟩) len len) f
  |none=>False
 |_=>False
def R6(ops:List Oper)(b:Option Tmp)(a:Nat):Option Q7:=
 match b with
 |none=>none
 |some t=>match ops with
  | []=>none
  |o::r=>match o.op with
   | .extract (.tmp t') c=>(match Nat.beq t' t with|true=>(match Nat.beq c a with|true=>some o.type|false=>R6 r (some t) a)|false=>R6 r (some t) a)
   |_=>R6 r (some t) a
def jN(P:Q1)(t:Option Q7)(v:J0)(K:J0->Prop):Prop:=
 match t with
 |none=>K v
 |some t=>QA P t v K
theorem MR {P:Q1}{t:Option Q7}{v:J0}{K:J0->Prop}(a:jN P t v K):K v:=by
 cases t with
 |none=>exact a
 |some t=>exact PM a
def jO(A:al)(P:Q1)(ops:Array Oper)(f:Oper)(d:Env)(g:aa)(K:A2J):Prop:=
 match f.op with
 | .call c=>qn A P f c d g K
 | .makeSlice t l c=>rd d l λl=>rd d c λc=>BD A P (Instr.makeSlice t l c) g λv a=>QA P f.type v λv=>K v a
 | .lookup t x i ok=>rd d x λx=>rd d i λi=>BD A P (Instr.lookup t x i ok) g λv a=>QA P f.type v λv=>K v a
 | .mapUpdate t m e x=>rd d m λm=>rd d e λe=>rd d x λx=>gN A P (Instr.mapUpdate t m e x) g λa=>K undef a
 | .mapEntry t m e=>rd d m λm=>rd d e λe=>BD A P (Instr.mapEntry t m e) g λv a=> ∃e u:J0,v= .tuple #[e,u]/\jN P (R6 ops.toList f.dst 0) e λe=>jN P (R6 ops.toList f.dst 1) u λu=>K (.tuple #[e,u]) a
 | .entryStore t m s x=>rd d m λm=>rd d s λs=>rd d x λx=>gN A P (Instr.entryStore t m s x) g λa=>K undef a
 | .convert s k x=>rd d x λx=>BD A P (convert s k x) g λv a=>QA P f.type v λv=>K v a
 | .binOp j t x h _=>rd d x λv=>rd d h λu=>BD A P (do eqGuard j t x h v u;binOp j t v u) g λv a=>QA P f.type v λv=>K v a
 | .typeAssert x t u ok=>rd d x λx=>BD A P (Instr.typeAssert x t u ok) g λv a=>QA P f.type v λv=>K v a
 | .store t x h=>rd d x λn=>rd d h λv=>qo P t n v g λa=>K undef a
 | .box t x=>rd d x λv=>AUJ P t v g K
 | .buildSlice t len o=>ue P t len o d g K
 | .range t x=>rd d x λx=>BD A P (Instr.range t x) g λv a=> ∃b:Nat,v= .pointer (some ⟨b,0,none⟩)/\K (.pointer (some ⟨b,0,none⟩)) a
 | .next x s=>rd d x λx=>BD A P (Instr.next x s f.type) g λv a=>(v= .tuple #[.bool false]/\K (.tuple #[.bool false]) a)\/(∃ e u:J0,v= .tuple #[.bool true,e,u]/\jN P (R6 ops.toList f.dst 1) e λe=>jN P (R6 ops.toList f.dst 2) u λu=>K (.tuple #[.bool true,e,u]) a)
 | .entry x=>rd d x λx=>BD A P (Instr.entry x) g λv a=> ∃e u:J0,v= .tuple #[e,u]/\jN P (R6 ops.toList f.dst 0) e λe=>jN P (R6 ops.toList f.dst 1) u λu=>K (.tuple #[e,u]) a
 | .alloc .. | .makeMap .. =>known d f.op.operands.toList (Sem.vc P (execOp (ρof d) f) g λx a=>match x with
  | .value v=>K v a
  | .skip=>K undef a
  |_=>False)
 |_=>False
theorem Zn {N:Nat}{a:Act}{b:Env}(d:Fits N a b){l:Array Operand}(c: ∀x∈l.toList,ρof b x=a.eval x):KZ b l=l.map a.eval:=by unfold KZ;rw[CH c];apply Array.toList_inj.1;rw[Array.toList_map]
section
variable {P : Q1} {A : al}
theorem IC {b:Oper}{e:Operand->J0}{s:Sem J0}{f:aa}{K:A2J}(g:execOp e b=do pure (.value (<- s)))
  (h:BD A P s f λv a=>QA P b.type v λv=>K v a): ∀c,EV P b e (A.at f c) λv i=> ∃a d,i=A.at a d/\K v a:=by
 intro c;obtain⟨v,a,d,j,hd⟩:=h c;unfold EV;rw[g,iZ j];exact⟨a,d,rfl,PM hd⟩
theorem Xp {d:Oper}{e:Operand->J0}{s:Sem J0}{f:aa}{K g:A2J}(h:execOp e d=do pure (.value (<- s)))
  (i:BD A P s f g) (j: ∀v a,g v a->K v a): ∀b,EV P d e (A.at f b) λv k=> ∃a c,k=A.at a c/\K v a:=by
 intro b;obtain⟨v,a,c,l,hd⟩:=i b;unfold EV;rw[h,iZ l];exact⟨a,c,rfl,j _ _ hd⟩
theorem qp {d:Oper}{e:Operand->J0}{s:Sem Unit}{f:aa}{K:A2J}(g:execOp e d=do s;pure .skip)
  (h:gN A P s f λa=>K undef a): ∀b,EV P d e (A.at f b) λv i=> ∃a c,i=A.at a c/\K v a:=by
 intro b;obtain⟨a,c,j,hd⟩:=h b;unfold EV;rw[g,ATw j];exact⟨a,c,rfl,hd⟩
theorem AJK {N:Nat}{a:Act}{u:Env}(l:Fits N a u){n:Oper}{c:Call}(h:n.op= .call c){k:aa}{K:A2J}(d:qn A P n c u k K):
  ∀g,EV P n a.eval (A.at k g) λv o=> ∃i j,o=A.at i j/\K v i:=by
 have y: ∀ {fv:J0} {s:A2J} {x:Operand},c.callee= .value x->a.eval x=fv->Eh A P fv (c.args.map a.eval) k s->
   ∀g,EV P n a.eval (A.at k g) λv o=> ∃i j,o=A.at i j/\s v i:=by
  intro fv s x e t z g;have:=z g;unfold EV;have p:execOp a.eval n=(do let w <-Deferred.ofValue fv (c.args.map a.eval);invoke w.target w.args:Sem Next):=by simp only[execOp,h,resolve,e,t]
  rw[p];exact this
 unfold qn at d;split at d
 ·rename_i f e;obtain⟨q,d⟩:=Kj l d;rw[Zn l q] at d;split at d
  ·intro g;obtain⟨v,i,j,B,hd⟩:=d g;have p:(execOp a.eval n).run P (A.at k g)= .ok (.value v) (A.at i j):=by simp only[execOp,h,resolve,e,Act.eval,Deferred.ofValue];simp only[Sem.run_bind,Sem.run_pure,Result.andThen_ok,invoke];simpa using B
   unfold EV;rw[p];exact⟨i,j,rfl,PM hd⟩
  ·obtain⟨x,t,d⟩:=Mr d;split at d
   ·rename_i C D;intro g;have p:(execOp a.eval n).run P (A.at k g)= .ok (.enter C D) (A.at k g):=by simp only[execOp,h,resolve,e,Act.eval,Deferred.ofValue];simp only[Sem.run_bind,Sem.run_pure,Result.andThen_ok,invoke];have:=t (A.at k g);simpa using this
    unfold EV;rw[p];refine Calls.mono (d g) ?_;rintro E o ⟨v,rfl,i,j,rfl,hd⟩;exact⟨v,rfl,i,j,rfl,PM hd⟩
   ·exact d.elim
 ·rename_i x e;have d:=BZ l d;obtain⟨q,d⟩:=Kj l d;rw[Zn l q] at d;intro g;refine EV.mono (y e rfl d g) ?_;rintro v o ⟨i,j,rfl,hd⟩;exact⟨i,j,rfl,PM hd⟩
 ·rename_i b e;obtain⟨q,d⟩:=Kj l d;rw[Zn l q] at d;split at d
  ·exact IC (by simp only[execOp,h,resolve,e];rfl) d
  ·exact IC (by simp only[execOp,h,resolve,e];rfl) d
  ·exact IC (by simp only[execOp,h,resolve,e];rfl) d
  ·exact IC (by simp only[execOp,h,resolve,e];rfl) d
  ·exact IC (by simp only[execOp,h,resolve,e];rfl) d
  ·exact IC (by simp only[execOp,h,resolve,e];rfl) d
  ·exact IC (by simp only[execOp,h,resolve,e];rfl) d
  ·exact IC (by simp only[execOp,h,resolve,e];rfl) d
  ·exact IC (by simp only[execOp,h,resolve,e];rfl) d
  ·exact IC (by simp only[execOp,h,resolve,e];rfl) d
  ·exact d.elim
 ·exact d.elim
theorem YW {A:al}{a:Q6}: ∀ {l:List J0} {b:aa} {i:Nat} {K:aa->Prop},VQ a b i l K-> ∀n,∃d,(storeCells a l i).run P (A.at b n)= .ok () (A.at d n)/\K d
 | [],b,i,K,c,n=>⟨b,rfl,c⟩
 |v::s,b,i,K,c,n=>by
  unfold VQ at c;cases e:ML v with
  |false=>rw[e] at c;exact c.elim
  |true=>
   rw[e] at c;obtain⟨⟨u,g⟩,h,j⟩:=c;obtain⟨d,k,o⟩:=YW j n;refine⟨d,?_,o⟩;have p:=th (A:=A) (P:=P) (m:= .plain) (f:=(.pure ():Sem Unit)) (n:=n) e g h;simp only[storeCells,Sem.run_bind];have q:(store (a.add i) v).run P (A.at b n)= .ok () (A.at (dc b (a.add i) v) n):=p;rw[q];exact k
theorem AHw {A:al}{t:Q7}{f v:J0}{g:aa}{K:aa->Prop}(b:qo P t f v g K):gN A P (Instr.storeAt t f v) g K:=by
 intro h;unfold qo at b;split at b
 ·rename_i p;obtain⟨a,rfl,c⟩:=At.mk b;split at c
  ·rename_i n i;have d:=RY c;split at d
   ·rename_i e;have e:=IF e;obtain⟨j,k,l⟩:=YW (P:=P) (A:=A) d h;refine⟨j,h,?_,l⟩;simp[Instr.storeAt,Instr.sureAddr,storeVar,run_sizeOf i,e,k]
   ·exact d.elim
  ·exact c.elim
 ·exact b.elim
theorem ARz {A:al}{t:Q7}{v:J0}{a:aa}{b:Nat}:(Instr.box t v).run P (A.at a b)= .ok (.pointer (some ⟨a.size,0,none⟩)) (A.at (a.push (.cells v.cells t)) b):=rfl
theorem AQu {A:al}{t c:Q7}(j:P.underlying t=some (.slice c)){len:Nat}{d:Array (Nat×J0)}{cells:Array J0}{h:aa}{n:Nat}
  (a:rowOf P c len (d.toList.map λp=>(p.1,p.2.cells))=some cells):
  (Instr.buildSlice t len d).run P (A.at h n)= .ok (.slice (some ⟨h.size,0,none⟩) len len) (A.at (h.push (.cells cells c)) n):=by
 unfold rowOf at a;split at a
 ·rename_i b f;split at a
  ·rename_i z k;split at a
   ·rename_i g;have g:=UP g;rw[<- nv] at a;have l: ¬(len*b.size>2^24):=by omega
    unfold Instr.buildSlice;simp only[Sem.run_bind,BL j,Result.andThen_ok,run_sizeOf f,if_neg l];by_cases e:len*b.size=0
    ·have o:Instr.fill (λi=>some (i*b.size,b.size)) ((Array.range (len*b.size)).map ((#[]:Array J0)[· % (#[]:Array J0).size]!)) d.toList=some cells:=by rw[<- a];congr 1;simp[e]
     rw[if_pos e];simp only[Sem.run_bind,Sem.run_pure,Result.andThen_ok,o];rfl
    ·rw[if_neg e];have q:(zeroValue c).run P (A.at h n)= .ok z (A.at h n):=by simp[zeroValue,tq f,k]
     simp only[Sem.run_bind,q,Sem.run_pure,Result.andThen_ok,a];rfl
   ·cases a
  ·cases a
 ·cases a
theorem uf {N:Nat}{a:Act}{q:Env}(f:Fits N a q){ops:Array Oper}{j:Oper}{h:aa}{K:A2J}(e:jO A P ops j q h K):
  ∀n,EV P j a.eval (A.at h n) λv y=> ∃g o,y=A.at g o/\K v g:=by
 have z:Ji j->known q j.op.operands.toList (Sem.vc P (execOp (ρof q) j) h λx g=>match x with
   | .value v=>K v g
   | .skip=>K undef g
   |_=>False)-> ∀n,EV P j a.eval (A.at h n) λv y=> ∃g o,y=A.at g o/\K v g:=by
  intro C e n;obtain⟨D,e⟩:=Kj f e;obtain⟨x,g,o,B,e⟩:=AOm (A:=A) e n;rw[execOp_congr j C (λx E=>D x (by simpa using E))] at B;unfold EV;rw[B];split at e
  ·exact⟨g,o,rfl,e⟩
  ·exact⟨g,o,rfl,e⟩
  ·exact e.elim
 unfold jO at e;split at e
 ·rename_i c d;exact AJK f d e
 ·rename_i t l c d;exact IC (by simp only[execOp,d]) (BZ f (BZ f e))
 ·rename_i t x i ok d;exact IC (by simp only[execOp,d]) (BZ f (BZ f e))
 ·rename_i t m w x d;exact qp (by simp only[execOp,d]) (BZ f (BZ f (BZ f e)))
 ·rename_i t m w d;refine Xp (by simp only[execOp,d]) (BZ f (BZ f e)) ?_;rintro v g ⟨w,u,rfl,h⟩;exact MR (MR h)
 ·rename_i t m s x d;exact qp (by simp only[execOp,d]) (BZ f (BZ f (BZ f e)))
 ·rename_i s I x d;exact IC (by simp only[execOp,d]) (BZ f e)
 ·rename_i J t x F _ d;exact IC (by simp only[execOp,d]) (BZ f (BZ f e))
 ·rename_i x t u ok d;exact IC (by simp only[execOp,d]) (BZ f e)
 ·rename_i t x F d;exact qp (by simp only[execOp,d]) (AHw (BZ f (BZ f e)))
 ·rename_i t x d;intro n;have p:=RY (BZ f e);unfold EV;simp only[execOp,d];rw[iZ ARz];exact⟨_,_,rfl,p⟩
 ·rename_i t len L d;intro n;unfold ue at e;split at e
  ·rename_i M G;have p:=SE f e;split at p
   ·rename_i cells k;unfold EV;simp only[execOp,d];rw[iZ (AQu (A:=A) (n:=n) (h:=h) G (cells:=cells) (by rw[<- k];congr 1;simp))];exact⟨_,_,rfl,p⟩
   ·exact p.elim
  ·exact e.elim
 ·rename_i t x d;refine Xp (by simp only[execOp,d]) (BZ f e) ?_;rintro v g ⟨b,rfl,h⟩;exact h
 ·rename_i x s d;refine Xp (by simp only[execOp,d]) (BZ f e) ?_;rintro v g (⟨rfl,h⟩|⟨w,u,rfl,h⟩)
  ·exact h
  ·exact MR (MR h)
 ·rename_i x d;refine Xp (by simp only[execOp,d]) (BZ f e) ?_;rintro v g ⟨w,u,rfl,h⟩;exact MR (MR h)
 ·rename_i d;exact z (λH b k=>by rw[d] at k;cases k) e
 ·rename_i d;exact z (λH b k=>by rw[d] at k;cases k) e
 ·exact e.elim
end
def qs:List Prop->Prop->Prop
 | [],K=>K
 |p::l,K=>p/\qs l K
theorem ug: ∀ {l:List Prop} {K:Prop},qs l K->(∀ p∈l,p)/\K
 | [],_,a=>⟨λ_ b=>(by cases b),a⟩
 |p::l,_,⟨b,a⟩=>by
  obtain⟨d,e⟩:=ug a;refine⟨λf c=>?_,e⟩;rcases List.mem_cons.1 c with rfl|c
  ·exact b
  ·exact d f c
def AQk(ord:Nat->Nat->Bool)(i:Nat)(a:aa)(b:List (Nat×(aa->Prop))):List Prop:=(b.filter λp=>un ord i p.1).map λp=>p.2 a
def nL(ops:Array Oper)(e:Oper)(a:Env)(c d:Env->Prop):Prop:=
 match e.guard with
 |none=>c a
 |some (f,h)=>match ops[f]? with
  |some i=>match i.dst with
   |some b=>match a.get b with
    |some (.bool g)=>match h with
     |true=>af g (c (a.set b (.bool true))) (d (a.set b (.bool false)))
     |false=>af g (d (a.set b (.bool true))) (c (a.set b (.bool false)))
    |some _=>d a
    |none=>False
   |none=>False
  |none=>False
def UY(A:al)(P:Q1)(N:Nat)(ops:Array Oper):List Oper->Env->aa->(Env->aa->Prop)->Prop
 | [],a,b,c=>c a b
 |o::rest,a,b,c=>
  match ni N o.dst with
  |false=>False
  |true=>nL ops o a
   (λa=>match cls P o with
    | .pure=>nw P o a λv=>UY A P N ops rest (a.put o.dst v) b c
    | .load=>nJ P o a b λv _=>UY A P N ops rest (a.put o.dst v) b c
    | .fq=>jO A P ops o a b λv d=>UY A P N ops rest (a.put o.dst v) d c)
   (λa=>UY A P N ops rest (a.put o.dst undef) b c)
theorem uh {ops:Array Oper}{k:Oper}{N:Nat}{a:Act}{e:Env}(f:Fits N a e){q s:Env->Prop}(b:nL ops k e q s):
  (Region.wanted k (yielded ops a.tmps)=true/\ ∃h,Fits N a h/\q h)\/(Region.wanted k (yielded ops a.tmps)=false/\ ∃h,Fits N a h/\s h):=by
 unfold nL at b;split at b
 ·rename_i c;exact .inl ⟨by simp[Region.wanted,c],e,f,b⟩
 ·rename_i t x c;split at b
  ·rename_i y u;split at b
   ·rename_i l hd;split at b
    ·rename_i g n;have i:=f.get l _ n;have d:yielded ops a.tmps t=some g:=by simp[yielded,u,hd,i]
     have j:Fits N a (e.set l (.bool g)):=f.p9 i;split at b
     ·obtain⟨o,p⟩:=af.mk b;cases g with
      |true=>exact .inl ⟨by simp[Region.wanted,c,d],_,j,o rfl⟩
      |false=>exact .inr ⟨by simp[Region.wanted,c,d],_,j,p rfl⟩
     ·obtain⟨o,p⟩:=af.mk b;cases g with
      |true=>exact .inr ⟨by simp[Region.wanted,c,d],_,j,o rfl⟩
      |false=>exact .inl ⟨by simp[Region.wanted,c,d],_,j,p rfl⟩
    ·rename_i v w n;have i:=f.get l _ n;refine .inr ⟨?_,e,f,b⟩;have d:yielded ops a.tmps t=none:=by simp only[yielded,u,hd,i,P0];cases v<;>first|rfl|exact absurd rfl (w _)
     simp[Region.wanted,c,d]
    ·exact b.elim
   ·exact b.elim
  ·exact b.elim
structure QL (W:List Nat) (a a':Act):Prop where
 get: ∀t,t∉W->a'.tmps[t]? =a.tmps[t]?
 ds:a'.defers=a.defers
theorem QL.refl(W:List Nat)(a:Act):QL W a a:=⟨λ_ _=>rfl,rfl⟩
theorem QL.put {W:List Nat}{a d:Act}(c:QL W a d){b:Option Tmp}{v:J0}(hd: ∀t,b=some t->t∈W):QL W a (d.put b v):=by
 cases b with
 |none=>exact c
 |some b=>
  refine⟨λt e=>?_,c.ds⟩;have:b≠t:=λf=>e (f▸hd b rfl)
  simp only[Act.put];rw[DH this];exact c.get t e
def dstsOf(l:List Oper):List Nat:=l.filterMap (·.dst)
theorem ui {l:List Oper}{a:Oper}(c:a∈l){b:Nat}(hd:a.dst=some b):b∈dstsOf l:=List.mem_filterMap.2 ⟨a,c,hd⟩
section
variable {P : Q1} {A : al} {r : Option Nat} {m N : Nat} {ops : Array Oper} {ord : Nat -> Nat -> Bool}
theorem Wj {a:Oper}(c:cls P a≠ .fq):Ji a:=λe b d=>c (by simp[cls,d])
theorem Ye {b:Oper}(c:cls P b≠ .fq):KL b=true:=by
 unfold KL;split
 ·rename_i a;exact absurd (by simp[cls,a]) c
 ·rename_i a;exact absurd (by simp[cls,a]) c
 ·rfl
theorem AGp {ops:Array Oper}{b:Oper}{d:Env}{e:aa}{K:A2J}(c:jO A P ops b d e K):KL b=true:=by
 unfold KL;split
 ·rename_i a;simp[jO,a] at c
 ·rename_i a;simp[jO,a] at c
 ·rfl
theorem uj {n:Env->aa->Prop}{p:Exit->Act->World->Prop}: ∀(l:List Oper) (i:Env) (e:aa) (a:Act) (f:Nat),UY A P N ops l i e n->Fits N a i->
  (∀ q c g h,Fits N q c->QL (dstsOf l) a q->n c g->p .normal q (A.at g h))->wpListIn (Fw r) m P ops p l a (A.at e f)
 | [],i,e,a,f,b,s,u=>u a i e f s (QL.refl _ _) b
 |o::rest,i,e,a,f,b,s,u=>by
  unfold UY at b;split at b
  ·exact b.elim
  ·rename_i hd;have next: ∀(v:J0) (c:Env) (g:aa) (h:Nat),Fits N a c->UY A P N ops rest (c.put o.dst v) g n->wpListIn (Fw r) m P ops p rest (a.put o.dst v) (A.at g h):=by
    intro v c g h d w;refine uj rest _ g _ h w (d.put hd) ?_;intro C D E F G B H;refine u C D E F G ⟨λt j=>?_,B.ds.trans ?_⟩ H
    ·have I:t∉dstsOf rest:=λK=>j (by simp only[dstsOf,US];split<;>simp_all [dstsOf])
     rw[B.get t I];exact(QL.put (W:=dstsOf (o::rest)) (QL.refl _ a) (λt j=>ui CC j)).get t j
    ·cases o.dst<;>rfl
   unfold wpListIn;rcases uh s b with⟨y,c,d,b⟩|⟨y,c,d,b⟩
   ·rw[if_pos y];split at b
    ·rename_i k;have w:Ji o:=Wj (P:=P) (by rw[k];intro x;cases x);obtain⟨v,z,b⟩:=ub d w b;refine EV.wpIn (Ye (P:=P) (by rw[k];intro x;cases x)) ?_;unfold EV;rw[z];exact next v c e f d b
    ·rename_i k;obtain⟨v,st,z,J,b⟩:=cw (A:=A) d b;refine EV.wpIn (Ye (P:=P) (by rw[k];intro x;cases x)) ?_;unfold EV;rw[z e J f];exact next v c e f d b
    ·refine EV.wpIn (AGp b) ((uf d b f).mono ?_);rintro v L ⟨g,h,rfl,b⟩;exact next v c g h d b
   ·rw[if_neg (by rw[y];simp)];exact⟨λ_ _=>trivial,next undef c e f d b⟩
def gO(P:Q1)(a:Oper):Bool:=match cls P a with| .fq=>false|_=>true
abbrev Ke:=Env->aa->List (Nat×(aa->Prop))->Prop
def nM(A:al)(P:Q1)(N:Nat)(ops:Array Oper)(ord:Nat->Nat->Bool)(i:Nat)(K:Ke):Ke:=λa c d=>
 match ops[i]? with
 |none=>False
 |some b=>match ni N b.dst with
  |false=>False
  |true=>nL ops b a
   (λa=>match cls P b with
    | .pure=>nw P b a λv=>K (a.put b.dst v) c d
    | .load=>nJ P b a c λv st=>K (a.put b.dst v) c ((i,st)::d)
    | .fq=>jO A P ops b a c λv e=>qs (AQk ord i e d) (K (a.put b.dst v) e d))
   (λa=>K (a.put b.dst undef) c d)
def qt(a:Nat->Prop):List Nat->Prop
 | []=>True
 | [i]=>a i
 |i::l=>a i/\qt a l
theorem uk {c:Nat->Prop}: ∀ {l:List Nat},qt c l-> ∀i∈l,c i
 | [],_,_,a=>by cases a
 | [j],a,i,b=>by
  have:i=j:=by simpa using b
  subst this;exact a
 |j::x::l,a,i,b=>by
  rcases List.mem_cons.1 b with rfl|b
  ·exact a.1
  ·exact uk a.2 i b
def jP(A:al)(P:Q1)(N:Nat)(ops:Array Oper)(ord:Nat->Nat->Bool)(c:Env->aa->Prop):Nat->List Nat->Ke
 |_,[]=>λa b _=>c a b
 |0,_::_=>λ_ _ _=>False
 |f+1,x::l=>λa b d=>
  match kS ops (gO P) ord (x::l) with
  |some i=>nM A P N ops ord i (jP A P N ops ord c f ((x::l).erase i)) a b d
  |none=>qt (λi=>nM A P N ops ord i (jP A P N ops ord c f ((x::l).erase i)) a b d) ((x::l).filter (RP ord (x::l)))
def qv(c d:List (Nat×(aa->Prop))):Prop:= ∀b∈d,(∀ a,b.2 a)\/ ∃p∈c,p.1=b.1/\ ∀a,p.2 a->b.2 a
theorem ZI {y:Act}{i:Nat}{K:Ke}{F:Kt}
  (u: ∀j e a k l,K j e k->Fits N a j->QL (dstsOf ops.toList) y a->qv k l->F a e l)
  {j:Env} {e:aa} {a:Act} {k:List (Nat×(aa->Prop))} {l:List (Nat×(aa->Prop))}
  (b:nM A P N ops ord i K j e k) (H:Fits N a j) (I:QL (dstsOf ops.toList) y a) (n:qv k l):FB P A ops (gO P) ord i F a e l:=by
 unfold nM at b;unfold FB;split at b
 ·exact b.elim
 ·rename_i g G;have J:g∈ops.toList:=by rw[Array.mem_toList_iff];exact V0 G
  try rw[G]
  try simp only
  split at b
  ·exact b.elim
  ·rename_i hd;have w: ∀v,QL (dstsOf ops.toList) y (a.put g.dst v):=λv=>I.put (λt L=>ui J L)
   rcases uh H b with⟨z,M,d,b⟩|⟨z,M,d,b⟩
   ·rw[if_pos z];split at b
    ·rename_i h;have o:gO P g=true:=by simp[gO,h]
     rw[if_pos o];have O:Ji g:=Wj (P:=P) (by rw[h];intro x;cases x);obtain⟨v,q,b⟩:=ub d O b;refine⟨v,λB=>q _,?_⟩;refine u _ _ _ _ _ b (d.put hd) (w v) ?_;intro s c;rcases List.mem_cons.1 c with rfl|c
     ·exact .inl λe B=>q _
     ·exact n s c
    ·rename_i h;have o:gO P g=true:=by simp[gO,h]
     rw[if_pos o];obtain⟨v,st,q,Q,b⟩:=cw (A:=A) d b;refine⟨v,q e Q,?_⟩;refine u _ _ _ _ _ b (d.put hd) (w v) ?_;intro s c;rcases List.mem_cons.1 c with rfl|c
     ·exact .inr ⟨(i,st),CC,rfl,q⟩
     ·rcases n s c with f|⟨p,C,f,D⟩
      ·exact .inl f
      ·exact .inr ⟨p,AG _ C,f,D⟩
    ·rename_i h;have o: ¬gO P g=true:=by simp[gO,h]
     rw[if_neg o];intro B;refine(uf d b B).mono ?_;rintro v U ⟨E,R,rfl,b⟩;obtain⟨S,b⟩:=ug b;refine⟨E,R,rfl,?_,?_⟩
     ·intro s c T;rcases n s c with f|⟨p,C,f,D⟩
      ·exact f E
      ·exact D E (S _ (List.mem_map.2 ⟨p,List.mem_filter.2 ⟨C,by rw[f];exact T⟩,rfl⟩))
     ·exact u _ _ _ _ _ b (d.put hd) (w v) n
   ·rw[if_neg (by rw[z];simp)];exact u _ _ _ _ _ b (d.put hd) (w undef) n
theorem qw {q:Env->aa->Prop}{a0:Act}{Q:Act->aa->Prop}(n: ∀o s t,Fits N o s->QL (dstsOf ops.toList) a0 o->q s t->Q o t):
  ∀(f:Nat) (l:List Nat) (c:Env) (d:aa) (a:Act) (e:List (Nat×(aa->Prop))) (g:List (Nat×(aa->Prop))),
   jP A P N ops ord q f l c d e->Fits N a c->QL (dstsOf ops.toList) a0 a->qv e g->FT P A ops (gO P) ord Q f l a d g
 |_,[],c,d,a,e,g,b,h,j,_=>by
  unfold jP at b;unfold FT;exact n a c d h j b
 |0,_::_,c,d,a,e,g,b,_,_,_=>by
  unfold jP at b;exact b.elim
 |f+1,x::l,c,d,a,e,g,b,h,j,k=>by
  unfold jP at b;unfold FT;split
  ·rename_i i p;rw[p] at b;exact ZI (λc d a e g b h j k=>qw n f _ c d a e g b h j k) b h j k
  ·rename_i p;rw[p] at b;intro i u v;exact ZI (λc d a e g b h j k=>qw n f _ c d a e g b h j k) (uk b i (List.mem_filter.2 ⟨u,v⟩)) h j k
def lU(A:al)(P:Q1)(N:Nat)(ops:Array Oper)(d:Bool)(a:Env)(b:aa)(c:Env->aa->Prop):Prop:=
 match d with
 |false=>UY A P N ops ops.toList a b c
 |true=>match og ops (gO P) (pz ops) with
  |true=>jP A P N ops (pz ops) c ops.size (List.range ops.size) a b []
  |false=>False
theorem AGJ {id:Nat}{g:Bool}{h:Env}{i:aa}{f:Env->aa->Prop}{a:Act}{q:Nat}{Q:Exit->Act->World->Prop}(s:P.follows .mixedOrders=true)
  (e:lU A P N ops g h i f) (o:Fits N a h) (p: ∀b c d j,Fits N b c->QL (dstsOf ops.toList) a b->f c d->Q .normal b (A.at d j)):
  (Code.region id ops g).wpIn (Fw r) m P Q a (A.at i q):=by
 unfold lU at e;cases g with
 |false=>exact wpIn_region_list (uj _ _ _ _ _ e o p)
 |true=>
  simp only[] at e;split at e
  ·rename_i t;refine AAV (qb:=gO P) (ord:=pz ops) (Q:=λb d=> ∃c,Fits N b c/\QL (dstsOf ops.toList) a b/\f c d) ?_ s t ?_
   ·rintro b d j ⟨c,k,l,n⟩;exact p b c d j k l n
   ·exact qw (Q:=λb d=> ∃c,Fits N b c/\QL (dstsOf ops.toList) a b/\f c d) (a0:=a) (λb c d k l n=>⟨c,k,l,n⟩) _ _ h i a [] []
     e o (QL.refl _ _) (λ_ u=>by cases u)
  ·exact e.elim
end
inductive Lv where
 |one (s:Sc)
 |agg (l:List Sc)
def lX:List Sc->Type
 | []=>Unit
 |s::l=>s.Ty×lX l
def jQ:(l:List Sc)->lX l->List J0
 | [],_=> []
 |s::l,x=>s.val x.1::jQ l x.2
def Lv.Ty:Lv->Type
 | .one s=>s.Ty
 | .agg l=>lX l
def Lv.val:(v:Lv)->v.Ty->J0
 | .one s,x=>s.val x
 | .agg l,x=> .agg (jQ l x).toArray
def Sc.un(v:J0):(s:Sc)->(s.Ty->Prop)->Prop
 | .int a,K=>match v with| .int d e=>(match decide (d=a) with|true=>K e|false=>False)|_=>False
 | .bool,K=>match v with| .bool b=>K b|_=>False
 | .str,K=>match v with| .string s=>K s|_=>False
 | .ptr,K=>match v with| .pointer p=>K p|_=>False
 | .sl,K=>match v with| .slice p l c=>K ⟨p,l,c⟩|_=>False
 | .map,K=>match v with| .map f=>K f|_=>False
 | .any,K=>K v
 | .jl a,K=>match v with| .float d e=>(match decide (d=a) with|true=>K e|false=>False)|_=>False
 | .jm a,K=>match v with| .complex d e m=>(match decide (d=a) with|true=>K (e,m)|false=>False)|_=>False
theorem Sc.dz {v:J0}: ∀ {s:Sc} {K:s.Ty->Prop},s.un v K-> ∃x,v=s.val x/\K x
 | .int c,K,a=>by
  cases v<;>simp only[Sc.un] at a
  rename_i d b;split at a
  ·rename_i hd;have hd:=of_decide_eq_true hd;subst hd;exact⟨b,rfl,a⟩
  ·exact a.elim
 | .bool,K,a=>by cases v<;>simp only[Sc.un] at a;exact⟨_,rfl,a⟩
 | .str,K,a=>by cases v<;>simp only[Sc.un] at a;exact⟨_,rfl,a⟩
 | .ptr,K,a=>by cases v<;>simp only[Sc.un] at a;exact⟨_,rfl,a⟩
 | .sl,K,a=>by cases v<;>simp only[Sc.un] at a;exact⟨_,rfl,a⟩
 | .map,K,a=>by cases v<;>simp only[Sc.un] at a;exact⟨_,rfl,a⟩
 | .any,K,a=>⟨v,rfl,a⟩
 | .jl c,K,a=>by
  cases v<;>simp only[Sc.un] at a
  rename_i d b;split at a
  ·rename_i hd;have hd:=of_decide_eq_true hd;subst hd;exact⟨b,rfl,a⟩
  ·exact a.elim
 | .jm c,K,a=>by
  cases v<;>simp only[Sc.un] at a
  rename_i d b m;split at a
  ·rename_i hd;have hd:=of_decide_eq_true hd;subst hd;exact⟨(b,m),rfl,a⟩
  ·exact a.elim
def qD:(l:List Sc)->List J0->(lX l->Prop)->Prop
 | [],[],K=>K ()
 |s::l,v::a,K=>s.un v λx=>qD l a λb=>K (x,b)
 | [],_::_,_=>False
 |_::_,[],_=>False
theorem uY: ∀ {l:List Sc} {c:List J0} {K:lX l->Prop},qD l c K-> ∃b,c=jQ l b/\K b
 | [],[],_,a=>⟨(),rfl,a⟩
 |s::l,v::c,K,a=>by
  obtain⟨x,d,e⟩:=Sc.dz a;obtain⟨b,f,g⟩:=uY e;exact⟨(x,b),by rw[d,f];rfl,g⟩
 | [],_::_,_,a=>a.elim
 |_::_,[],_,a=>a.elim
def Lv.un(v:J0):(a:Lv)->(a.Ty->Prop)->Prop
 | .one s,K=>s.un v K
 | .agg l,K=>match v with| .agg b=>qD l b.toList K|_=>False
theorem Lv.dz {v:J0}: ∀ {b:Lv} {K:b.Ty->Prop},b.un v K-> ∃x,v=b.val x/\K x
 | .one s,K,a=>Sc.dz a
 | .agg l,K,a=>by
  cases v<;>simp only[Lv.un] at a
  rename_i e;obtain⟨c,d,a⟩:=uY a;refine⟨c,?_,a⟩;simp only[Lv.val];rw[<- d]
abbrev Live:=List (Nat×Lv)
def gP:Live->Type
 | []=>Unit
 |x::a=>x.2.Ty×gP a
def NP:(L:Live)->Env->(gP L->Prop)->Prop
 | [],_,K=>K ()
 |x::b,a,K=>match a.get x.1 with|some v=>x.2.un v λc=>NP b a λd=>K (c,d)|none=>False
def Lm:(L:Live)->gP L->Nat->Option J0
 | [],_,_=>none
 |x::b,a,t=>bif Nat.beq t x.1 then some (x.2.val a.1) else Lm b a.2 t
def j7(t:Nat):List Nat->Bool
 | []=>false
 |x::a=>bif Nat.beq t x then true else j7 t a
def GZ(L:Live)(b:List Nat)(a:Env)(c:gP L):Env:=
 {get:=λt=>match Lm L c t with|some v=>some v|none=>bif j7 t b then a.get t else none,ds:=a.ds}
def NY(b a:List Nat):Bool:=match b with| []=>true|x::c=>bif j7 x a then false else NY c a
theorem Y9 {t:Nat}: ∀ {l:List Nat},j7 t l=true↔t∈l
 | []=>by simp[j7]
 |x::b=>by
  unfold j7;by_cases a:t=x
  ·subst a;simp
  ·rw[UF a];simp only[cond_false,HM,a,false_or];exact Y9
theorem Ui {c:List Nat}: ∀ {e:List Nat},NY e c=true-> ∀t∈e,t∉c
 | [],_,_,f=>by cases f
 |x::h,a,t,d=>by
  unfold NY at a;cases b:j7 x c with
  |true=>rw[b] at a;cases a
  |false=>
   rw[b] at a;rcases List.mem_cons.1 d with rfl|d
   ·intro g;rw[Y9.2 g] at b;cases b
   ·exact Ui a t d
theorem JR {d:Env}: ∀ {L:Live} {K:gP L->Prop},NP L d K-> ∃c,(∀ t v,Lm L c t=some v->d.get t=some v)/\K c
 | [],K,b=>⟨(),λ_ _ a=>(by cases a),b⟩
 |(e,g)::h,K,b=>by
  unfold NP at b;split at b
  ·rename_i v i;obtain⟨x,j,k⟩:=Lv.dz b;obtain⟨c,l,m⟩:=JR k;refine⟨(x,c),λt v a=>?_,m⟩;change (bif Nat.beq t e then some (g.val x) else Lm h c t)=some v at a;by_cases f:t=e
   ·subst f;have n:Nat.beq t t=true:=by simp
    rw[n] at a;rw[<- a,cond_true,<-j];exact i
   ·rw[UF f] at a;exact l t v a
  ·exact b.elim
theorem uZ {L:Live}{b:List Nat}{f:Env}{c:gP L}{t:Nat}{v:J0}(a:(GZ L b f c).get t=some v):
  Lm L c t=some v\/(Lm L c t=none/\t∈b/\f.get t=some v):=by
 unfold GZ at a;simp only at a;split at a
 ·rename_i u d;rw[d];exact .inl a
 ·rename_i d;cases e:j7 t b with
  |false=>rw[e] at a;cases a
  |true=>rw[e] at a;exact .inr ⟨d,Y9.1 e,a⟩
theorem AGt {L:Live}{c d:gP L}{t:Nat}(a:Lm L c t=none):Lm L d t=none:=by
 induction L with
 |nil=>rfl
 |cons x f e=>
  unfold Lm at a ⊢;by_cases b:t=x.1
  ·subst b;simp at a
  ·rw[UF b] at a ⊢;exact e a
structure Fh (W:List Nat) (nd:Bool) (a a':Act):Prop where
 get: ∀t,t∉W->a'.tmps[t]? =a.tmps[t]?
 ds:nd=true->a'.defers=a.defers
theorem Fh.refl {W:List Nat}{nd:Bool}{a:Act}:Fh W nd a a:=⟨λ_ _=>rfl,λ_=>rfl⟩
theorem Fh.trans {e f V:List Nat}{nd g h:Bool}{a b c:Act}(i:Fh e nd a b)(j:Fh f g b c)(m: ∀t∈e,t∈V)(n: ∀t∈f,t∈V)(k:h=true->nd=true/\g=true):Fh V h a c:=
 ⟨λt l=>(j.get t λd=>l (n t d)).trans (i.get t λd=>l (m t d)),λd=>(j.ds (k d).2).trans (i.ds (k d).1)⟩
theorem Fh.aj {d V:List Nat}{nd e:Bool}{a b:Act}(f:Fh d nd a b)(g: ∀t∈d,t∈V)(h:e=true->nd=true):Fh V e a b:=
 ⟨λt i=>f.get t λc=>i (g t c),λc=>f.ds (h c)⟩
theorem Fits.join {N:Nat}{a b:Act}{d e:Env}(f:Fits N a d)(g:Fits N b e){h:List Nat}{nd:Bool}(l:nd=true)(i:Fh h nd a b){L:Live}{j:List Nat}(m:NY j h=true){k:gP L}
  (n: ∀t v,Lm L k t=some v->e.get t=some v):Fits N b (GZ L j d k):=by
 refine⟨g.size,λt v o=>?_,(i.ds l).trans f.ds⟩;rcases uZ o with c|⟨_,p,c⟩
 ·exact g.get t v (n t v c)
 ·rw[i.get t (Ui m t p)];exact f.get t v c
theorem Fits.again {N:Nat}{a b:Act}{e f:Env}{L:Live}{c:List Nat}{m g:gP L}(h:Fits N a (GZ L c e m))(i:Fits N b f){j:List Nat}{nd:Bool}(n:nd=true)(k:Fh j nd a b)
  (o:NY c j=true) (p: ∀t v,Lm L g t=some v->f.get t=some v):Fits N b (GZ L c e g):=by
 refine⟨i.size,λt v q=>?_,(k.ds n).trans h.ds⟩;rcases uZ q with d|⟨r,l,d⟩
 ·exact i.get t v (p t v d)
 ·rw[k.get t (Ui o t l)];refine h.get t v ?_;unfold GZ;simp only;rw[AGt r,Y9.2 l];exact d
inductive bT where
 |none
 |bz (L:Live) (kept:List Nat)
 |seq (x y:bT)
 |bC (L:Live) (kept:List Nat) (x y:bT)
 |cond (x y:bT)
 |block (x:bT)
 |bL (L:Live) (kept:List Nat) (x:bT)
 |loop (L:Live) (kept:List Nat) (x:bT)
 |range (ps:List Lv) (x y:bT)
 |scope (L:Live) (kept:List Nat) (x y z:bT)
def writes:Code->List Nat
 | .region _ c _=>dstsOf c.toList
 | .seq a b=>writes a++writes b
 | .cond _ a b=>writes a++writes b
 | .block _ a=>writes a
 | .loop a=>writes a
 | .scope a=>writes a
 |_=> []
def GQ:Code->Bool
 | .rangeFunc .. =>false
 | .seq a b=>GQ a&&GQ b
 | .cond _ a b=>GQ a&&GQ b
 | .block _ a=>GQ a
 | .loop a=>GQ a
 | .scope a=>GQ a
 |_=>true
inductive iK where
 |ag (i:Nat)
 |eG (l:Nat)
def kO:Option Nat->Code
 |none=> .ret
 |some id=> .exit id
def iL:List Lv->Type
 | []=>Unit
 |lv::l=>lv.Ty×iL l
def kP:(l:List Lv)->iL l->List J0
 | [],_=> []
 |lv::l,x=>lv.val x.1::kP l x.2
theorem YV: ∀(l:List Lv) (x:iL l),(kP l x).length=l.length
 | [],_=>rfl
 |_::l,x=>by simp[kP,YV l x.2]
def jR:Env->List Tmp->List J0->Env
 |e,p::ps,v::a=>jR (e.set p v) ps a
 |e,_,_=>e
def XN(k:al)(P:Q1)(fv:J0)(e:List Lv)(body:iL e->Nat->aa->(aa->Prop)->(Option Nat->aa->Prop)->Prop)(a:aa)(n:aa->Prop)(o:Option Nat->aa->Prop):Prop:=
 ∀(rec:Go.Loop),rec.state= .ready->rec.pending=none->rec.params.size=e.length->
  (∀ (x:iL e) (h:aa) (i:A2J),h[a.size+1]? =some (.loop rec)->
   body x (a.size+1) h
    (λc=> ∃d,c[a.size+1]? =some (.loop d)/\i (.bool true) (c.setIfInBounds (a.size+1) (.loop {d with state:= .ready,pending:=none})))
    (λg c=> ∃d,c[a.size+1]? =some (.loop d)/\i (.bool false) (c.setIfInBounds (a.size+1) (.loop {d with state:= .done,pending:=some (kO g)})))->
   Eh k P (.func (.yield (a.size+1)) #[] #[]) (kP e x).toArray h i)->
  ∃f l,Sr P (do let m <-Deferred.ofValue fv #[.func (.yield (a.size+1)) #[] #[]];invoke m.target m.args:Sem Next) (λx=>x= .enter f l)/\
   AA k P f l ((a.push (.deferred (some []))).push (.loop rec)) λ_ j=>
    ∃b,j[a.size+1]? =some (.loop b)/\b.state≠ .busy/\
     ((b.pending=none/\n (j.setIfInBounds (a.size+1) (.loop {b with state:= .exhausted})))\/
     ∃g,b.pending=some (kO g)/\o g (j.setIfInBounds (a.size+1) (.loop {b with state:= .exhausted})))
def F3(n:al)(P:Q1)(N:Nat)(q:Bool):Code->bT->Env->aa->(Env->aa->Prop)->(iK->Env->aa->Prop)->(Env->aa->Prop)->Prop
 | .skip,_,d,e,k,_,_=>k d e
 | .exit id,_,d,e,_,kb,_=>kb (.ag id) d e
 | .ret,_,d,e,_,_,m=>m d e
 | .label _,_,d,e,k,_,_=>k d e
 | .goto l,_,d,e,_,kb,_=>kb (.eG l) d e
 | .region _ y u,r,d,e,k,_,_=>match r with
  | .bz L o=>match NY o (dstsOf y.toList) with
   |true=>ai (λj e=>k (GZ L o d j) e) λK=>lU n P N y u d e λh g=>NP L h λj=>K j g
   |false=>False
  |_=>lU n P N y u d e k
 | .seq a b,r,d,e,k,kb,m=>match r with
  | .seq x t=>F3 n P N q a x d e (λd e=>F3 n P N q b t d e k kb m) kb m
  | .bC L o x t=>match NY o (writes a)&&GQ a with
   |true=>ai (λj e=>F3 n P N q b t (GZ L o d j) e k kb m) λK=>F3 n P N q a x d e (λh g=>NP L h λj=>K j g) kb m
   |false=>False
  |_=>False
 | .cond c p C,r,d,e,k,kb,m=>match r with
  | .cond x t=>rd d c λv=>match v with| .bool b=>af b (F3 n P N q p x d e k kb m) (F3 n P N q C t d e k kb m)|_=>False
  |_=>False
 | .block id c,r,d,e,k,kb,m=>match r with
  | .block x=>F3 n P N q c x d e k (λs h g=>match s with| .ag i=>(match Nat.beq i id with|true=>k h g|false=>kb (.ag i) h g)| .eG l=>kb (.eG l) h g) m
  | .bL L o x=>match NY o (writes c)&&GQ c with
   |true=>ai (λj e=>k (GZ L o d j) e) λK=>
     F3 n P N q c x d e (λh g=>NP L h λj=>K j g) (λs h g=>match s with| .ag i=>(match Nat.beq i id with|true=>NP L h λj=>K j g|false=>kb (.ag i) h g)| .eG l=>kb (.eG l) h g) m
   |false=>False
  |_=>False
 | .loop c,r,d,e,_,kb,m=>match r with
  | .loop L o x=>match NY o (writes c)&&GQ c with
   |true=>NP L d λj=>Loop (λK j e=>F3 n P N q c x (GZ L o d j) e (λh g=>NP L h λj=>K j g) kb m) j e
   |false=>False
  |_=>False
 | .rangeFunc f ps D c,r,d,e,k,kb,m=>match r with
  | .range z x t=>match (!q)&&Nat.beq z.length ps.size&&ps.toList.all λp=>Nat.blt p N with
   |true=>rd d f λfv=>XN n P fv z
     (λargs l E F B=>F3 n P N true D x (jR {get:=d.get,ds:= []} ps.toList (kP z args)) E
      (λh g=> ∃A,g[l]? =some (.loop A)/\A.state= .ready/\
       F3 n P N true c t h (g.setIfInBounds l (.loop {A with state:= .busy})) (λ_ w=>F w) (λs _ w=>match s with| .ag i=>B (some i) w| .eG _=>False) (λ_ w=>B none w))
      (λ_ _ _=>False) (λ_ _=>False))
     e
     (λg=>k {get:=d.get,ds:=e.size::d.ds} g)
     (λs g=>match s with|none=>m {get:=d.get,ds:=e.size::d.ds} g|some i=>kb (.ag i) {get:=d.get,ds:=e.size::d.ds} g)
   |false=>False
  |_=>False
 | .scope (.seq b (.seq c (.seq (.label l) u))),r,d,e,k,kb,m=>match r with
  | .scope L o G x t=>match ((findLabel b l).isNone&&(findLabel c l).isNone)&&(NY o (writes c++writes u)&&(GQ b&&(GQ c&&GQ u))) with
   |true=>F3 n P N q b G d e (λd e=>F3 n P N q c x d e
     (λh g=>NP L h λj=>Loop (λK j e=>F3 n P N q u t (GZ L o d j) e k
      (λs h g=>match s with| .ag i=>kb (.ag i) h g| .eG H=>match Nat.beq H l with|true=>NP L h λj=>K j g|false=>False) m) j g)
     (λs h g=>match s with| .ag i=>kb (.ag i) h g| .eG _=>False) m) (λs h g=>match s with| .ag i=>kb (.ag i) h g| .eG _=>False) m
   |false=>False
  |_=>False
 |_,_,_,_,_,_,_=>False
def dr(d:al)(N:Nat)(e:List Nat)(nd:Bool)(f:Act)(g:Env->aa->Prop)(kb:iK->Env->aa->Prop)(h:Env->aa->Prop):Exit->Act->World->Prop:=
 λx a i=> ∃b c j,i=d.at c j/\Fits N a b/\Fh e nd f a/\(match x with
  | .normal=>g b c
  | .exit id=>kb (.ag id) b c
  | .goto l=>kb (.eG l) b c
  | .ret=>h b c
  |_=>False)
theorem dr.mono {e:al}{N:Nat}{f V:List Nat}{nd g:Bool}{h:Act}{j k:Env->aa->Prop}{kb l:iK->Env->aa->Prop}{m n:Env->aa->Prop}
  (q: ∀t∈f,t∈V) (r:g=true->nd=true) (s: ∀b c,j b c->k b c) (o: ∀i b c,kb i b c->l i b c) (u: ∀b c,m b c->n b c) {x:Exit} {a:Act} {p:World}
  (v:dr e N f nd h j kb m x a p):dr e N V g h k l n x a p:=by
 obtain⟨b,c,w,y,z,A,d⟩:=v;refine⟨b,c,w,y,z,A.aj q r,?_⟩;cases x<;>simp only at d ⊢
 ·exact s _ _ d
 ·exact o _ _ _ d
 ·exact o _ _ _ d
 ·exact u _ _ d
section
variable {F : Fence} {n : Nat} {P : Q1} {c : Code} {Q : Exit -> Act -> World -> Prop} {a : Act} {w : World}
def lY(F:Fence)(n:Nat)(P:Q1)(c:Code)(Q:Exit->Act->World->Prop)(a:Act)(w:World):Prop:=
 ∀(b:Frame) (e:List Item) (d:List Frame),b.roundOf=F.round->F.fn b.fn->F.room (d.length+1+n)->
  ∃f g h,Q f g h/\ArrivesIn (Machine.fenced P F) P (lone (b.atR a (.inLoop c::e)) d w) b e d f g h
theorem vd(r:c.wpIn F n P (Exit.then (lY F n P c Q) Q) a w)(b:Frame)(i:List Item)(f:List Frame)(k:b.roundOf=F.round)(m:F.fn b.fn)(o:F.room (f.length+1+n)):
  ∃j p q,Q j p q/\ArrivesIn (Machine.fenced P F) P (lone (b.atR a (.code c:: .inLoop c::i)) f w) b i f j p q:=by
 obtain⟨j,g,h,d,e⟩:=r b (.inLoop c::i) f k m o;cases j with
 |normal=>
  obtain⟨s,t,u,v,y⟩:=d b i f k m o;exact⟨s,t,u,v,.of_steps e y⟩
 |exit id=>exact⟨_,g,h,d,.pass (x:= .inLoop c) rfl (λ_ _=> .inl (by simp)) e⟩
 |goto l=>exact⟨_,g,h,d,.pass (x:= .inLoop c) rfl (λ_ _=> .inl (by simp)) e⟩
 |ret=>exact⟨_,g,h,d,.pass (x:= .inLoop c) rfl (λ_ _=> .inl (by simp)) e⟩
 |panic z=>exact⟨_,g,h,d,.pass (x:= .inLoop c) rfl (λ_ _=> .inl (by simp)) e⟩
 |outgrown=>exact⟨_,g,h,d,.pass (x:= .inLoop c) rfl (λ_ _=> .inl (by simp)) e⟩
theorem AHm(f:c.wpIn F n P (Exit.then (lY F n P c Q) Q) a w):lY F n P c Q a w:=λb g h i d e=>
 let ⟨j,k,l,m,o⟩:=vd f b g h i d e
 ⟨j,k,l,m,.of_steps (.one (fenced_calm d e rfl) stepR_inLoop) o⟩
theorem AGK(f:c.wpIn F n P (Exit.then (lY F n P c Q) Q) a w):(Code.loop c).wpIn F n P Q a w:=λb g h i d e=>
 let ⟨j,k,l,m,o⟩:=vd f b g h i d e
 ⟨j,k,l,m,.of_steps (.one (fenced_calm d e rfl) stepR_loop) o⟩
end
def X9(F:Fence)(n:Nat)(P:Q1)(c rest:Code)(Q:Exit->Act->World->Prop)(a:Act)(w:World):Prop:=
 ∀(b:Frame) (e:List Item) (d:List Frame),b.roundOf=F.round->F.fn b.fn->F.room (d.length+1+n)->
  ∃f g h,Q f g h/\ArrivesIn (Machine.fenced P F) P (lone (b.atR a (.code rest:: .inScope c::e)) d w) b e d f g h
def nU(l:Nat)(b:Act->World->Prop)(Q:Exit->Act->World->Prop):Exit->Act->World->Prop
 | .goto d,a,w=>d=l/\b a w
 |e,a,w=>Q e a w
section
variable {F : Fence} {n : Nat} {P : Q1} {Q : Exit -> Act -> World -> Prop} {a : Act} {w : World}
theorem AER {P:Q1}{b:Frame}{a:Act}{d:List Item}{e:List Frame}{w:World}{c:Code}:step P (lone (b.atR a (.inScope c::d)) e w)= .next (lone (b.atR a d) e w):=
 step_lone_go (by simp[stepG,stepG.exec,Frame.atR])
theorem AHh {P:Q1}{b:Frame}{a:Act}{d:List Item}{e:List Frame}{w:World}{c:Code}:step P (lone (b.atR a (.code (.scope c)::d)) e w)= .next (lone (b.atR a (.code c:: .inScope c::d)) e w):=
 step_lone_go (by simp[stepG,stepG.exec,Frame.atR])
theorem vg {c rest x:Code}{l:Nat}(q:findLabel c l=some rest)(r:x.wpIn F n P (nU l (X9 F n P c rest Q) Q) a w):X9 F n P c x Q a w:=by
 intro b e m o i j;have s:gotoIn l (.inScope c::e)=some (.code rest:: .inScope c::e):=by simp[gotoIn,q]
 obtain⟨t,g,h,f,d⟩:=r b (.inScope c::e) m o i j;cases t with
 |normal=>exact⟨.normal,g,h,f,StepsIn.trans d (.one (fenced_calm i j rfl) AER)⟩
 |exit id=>
  have p:exitTo id (.inScope c::e)=exitTo id e:=by simp[exitTo]
  exact⟨.exit id,g,h,f,λu k=>d.1 u (by rw[p];exact k),λv k=>d.2 v (by rw[p];exact k)⟩
 |goto E=>
  obtain⟨rfl,y⟩:=f;obtain⟨z,A,B,C,D⟩:=y b e m o i j;exact⟨z,A,B,C,.of_steps (d.1 _ s) D⟩
 |ret=>exact⟨_,g,h,f,d⟩
 |panic G=>exact⟨_,g,h,f,d⟩
 |outgrown=>exact⟨_,g,h,f,d⟩
theorem AEY {c rest:Code}{l:Nat}(f:findLabel c l=some rest)(g:c.wpIn F n P (nU l (X9 F n P c rest Q) Q) a w):(Code.scope c).wpIn F n P Q a w:=λb h i j d e=>
 let ⟨k,m,o,p,q⟩:=vg f g b h i j d e
 ⟨k,m,o,p,.of_steps (.one (fenced_calm d e rfl) AHh) q⟩
end
theorem QL.g {b:List Nat}{nd:Bool}{a d:Act}(e:QL b a d):Fh b nd a d:=⟨e.get,λ_=>e.ds⟩
theorem ARt(d:al)(b:aa)(n:Nat):(d.at b n).heap=b:=rfl
theorem run_getLoop {P:Q1}{d:al}{b:aa}{n l:Nat}{rec:Go.Loop}(e:b[l]? =some (.loop rec)):(Instr.getLoop l).run P (d.at b n)= .ok rec (d.at b n):=by simp[Instr.getLoop,Sem.run_bind,getObj,Sem.run,ARt,e]
theorem XJ {P:Q1}{d:al}{b:aa}{n l:Nat}{rec:Go.Loop}{e:Obj}(f:b[l]? =some (.loop rec)):(setObj l e).run P (d.at b n)= .ok () (d.at (b.setIfInBounds l e) n):=by simp[setObj,Sem.run,f,al.at]
theorem run_beginRound {P:Q1}{d:al}{b:aa}{n l:Nat}{rec:Go.Loop}(e:b[l]? =some (.loop rec))(f:rec.state= .ready):
  (Instr.beginRound l).run P (d.at b n)= .ok () (d.at (b.setIfInBounds l (.loop {rec with state:= .busy})) n):=by
 simp[Instr.beginRound,Sem.run_bind,run_getLoop e,XJ e,f]
theorem run_endRound {P:Q1}{e:al}{d:aa}{n l:Nat}{rec:Go.Loop}{b:Option Code}(f:d[l]? =some (.loop rec)):
  (Instr.endRound l b).run P (e.at d n)= .ok (.bool b.isNone) (e.at (d.setIfInBounds l (.loop {rec with state:=if b.isNone then .ready else .done,pending:=b})) n):=by
 simp[Instr.endRound,Sem.run_bind,run_getLoop f,XJ f]
theorem run_endLoop {P:Q1}{d:al}{b:aa}{n l:Nat}{rec:Go.Loop}(e:b[l]? =some (.loop rec))(f:rec.state≠ .busy):
  (Instr.endLoop l).run P (d.at b n)= .ok rec.pending (d.at (b.setIfInBounds l (.loop {rec with state:= .exhausted})) n):=by
 simp_all [Instr.endLoop,Sem.run_bind,run_getLoop,XJ,absurd]
theorem AE2 {P:Q1}{d:al}{b:aa}{n:Nat}{fn:Q8}{tmps:Array J0}{ps:Array Tmp}{e body:Code}:
  (Instr.enterLoop fn tmps ps e body none).run P (d.at b n)=
   .ok (b.size+1,[kA b.size]) (d.at ((b.push (.deferred (some []))).push (.loop {state:= .ready,pending:=none,fn,tmps,params:=ps,assign:=e,body,defers:=b.size})) n):=by
 simp[Instr.enterLoop,Sem.run_bind,newObj,Sem.run,al.at,kA];rfl
theorem vm {N:Nat}: ∀(ps:List Tmp) (d:List J0) (e:Env) (tmps:Array J0),(∀ p∈ps,p<N)->Fits N {tmps:=tmps,defers:= []} e->
  Fits N {tmps:=(ps.zip d).foldl (λtmps (t,a)=>tmps.setIfInBounds t a) tmps,defers:= []} (jR e ps d)
 | [],_,_,_,_,b=>by simpa [jR] using b
 |_::_,[],_,_,_,b=>by simpa [jR] using b
 |p::ps,v::d,e,tmps,f,b=>by
  have g:=b.set (v:=v) (f p CC);exact vm ps d (e.set p v) (tmps.setIfInBounds p v) (λh i=>f h (AG _ i)) g
def YP(P:Q1)(b:al)(N:Nat)(c:Code):Prop:= ∀(m:Nat) (d:Bool) (e:Option Nat) (j:bT) (f:Env) (g:aa) (h:Env->aa->Prop) (kb:iK->Env->aa->Prop) (i:Env->aa->Prop) (a:Act) (n:Nat),
  (d=false->e=none)->F3 b P N d c j f g h kb i->Fits N a f->c.wpIn (Fw e) m P (dr b N (writes c) (GQ c) a h kb i) a (b.at g n)
theorem AJO {P:Q1}{h:al}{N:Nat}{c b body:Code}{l:Nat}(ak:YP P h N c)(am:YP P h N b){m:Nat}{q:Bool}{j:Option Nat}{L:Live}{z:List Nat}{U V:bT}{r:Env}{d:aa}{W:Env->aa->Prop}{kb:iK->Env->aa->Prop}{s:Env->aa->Prop}{X a:Act}{n:Nat}{Y:List Nat}{nd:Bool}{Q:Exit->Act->World->Prop}{A:Act->World->Prop}
  (Z:q=false->j=none) (an:findLabel body l=some (.seq .skip b)) (ab:NY z (writes c++writes b)=true) (ao:GQ c=true) (ap:GQ b=true)
  (aq:F3 h P N q c U r d
     (λk o=>NP L k λe=>Loop (λK e d=>F3 h P N q b V (GZ L z r e) d W
      (λB k o=>match B with| .ag i=>kb (.ag i) k o| .eG C=>match Nat.beq C l with|true=>NP L k λe=>K e o|false=>False) s) e o)
     (λB k o=>match B with| .ag i=>kb (.ag i) k o| .eG _=>False) s)
  (ac:Fits N a r) (ad: ∀f,Fh (writes c++writes b) true a f->Fh Y nd X f) (u:dr h N Y nd X W kb s=Q) (ar:A=X9 (Fw j) m P body (.seq .skip b) Q):(Code.seq c (.seq (.label l) b)).wpIn (Fw j) m P (nU l A Q) a (h.at d n):=by
 have au: ∀t∈writes c,t∈writes c++writes b:=λt D=>List.mem_append.2 (.inl D)
 have av: ∀t∈writes b,t∈writes c++writes b:=λt D=>List.mem_append.2 (.inr D)
 let aw:gP L->aa->Prop:=λe E=> ∀f G,Fits N f (GZ L z r e)->Fh (writes c++writes b) true a f->b.wpIn (Fw j) m P (nU l A Q) f (h.at E G)
 refine wpIn_seq (wpIn_mono (ak m q j U r d _ _ s a n Z aq ac) ?_);rintro H I aK ⟨ae,af,J,rfl,M,ax,p⟩;have O:Fh (writes c++writes b) true a I:=ax.aj au (λ_=>ao);have ag:=ad I O;cases H with
 |normal=>
  obtain⟨e,ay,az⟩:=JR p;refine wpIn_seq (wpIn_label ?_);have aA:=az aw ?_
  ·exact aA I J (ac.join M rfl O ab ay) O
  ·intro e E aC f G ah aD;refine wpIn_mono (am m q j V _ E _ _ s f G Z aC ah) ?_;rintro H v aL ⟨R,S,x,rfl,y,aE,g⟩;have ai:Fh (writes c++writes b) true f v:=aE.aj av (λ_=>ap);have aj:Fh (writes c++writes b) true a v:=aD.trans ai (λ_ d=>d) (λ_ d=>d) (λ_=>⟨rfl,rfl⟩);have T:=ad v aj;cases H with
   |normal=>rw[<- u];exact⟨R,S,x,rfl,y,T,g⟩
   |exit i=>rw[<- u];exact⟨R,S,x,rfl,y,T,g⟩
   |goto C=>
    simp only at g;split at g
    ·rename_i aF;have aG:=IF aF;subst aG;obtain⟨aM,aH,aI⟩:=JR g;refine⟨rfl,?_⟩;have hd:=aI v x (ah.again y rfl ai ab aH) aj;rw[ar] at hd ⊢;exact vg an (wpIn_seq (wpIn_skip hd))
    ·exact g.elim
   |ret=>rw[<- u];exact⟨R,S,x,rfl,y,T,g⟩
   |panic aJ=>exact g.elim
   |outgrown=>exact g.elim
 |exit i=>rw[<- u];exact⟨ae,af,J,rfl,M,ag,p⟩
 |goto C=>exact p.elim
 |ret=>rw[<- u];exact⟨ae,af,J,rfl,M,ag,p⟩
 |panic aJ=>exact p.elim
 |outgrown=>exact p.elim
theorem AJE {P:Q1}{e:al}{N:Nat}{b c d:Code}{l:Nat}(S:YP P e N b)(T:YP P e N c)(U:YP P e N d){m:Nat}{p:Bool}{s:Option Nat}{L:Live}{z:List Nat}{A V W:bT}{j:Env}{f:aa}{u:Env->aa->Prop}{kb:iK->Env->aa->Prop}{k:Env->aa->Prop}{a:Act}{n:Nat}
  (B:p=false->s=none) (X:(findLabel b l).isNone=true) (Y:(findLabel c l).isNone=true) (Z:NY z (writes c++writes d)=true) (ab:GQ b=true) (ac:GQ c=true) (ad:GQ d=true)
  (ae:F3 e P N p b A j f (λj f=>F3 e P N p c V j f
     (λg h=>NP L g λq=>Loop (λK q f=>F3 e P N p d W (GZ L z j q) f u
      (λr g h=>match r with| .ag i=>kb (.ag i) g h| .eG C=>match Nat.beq C l with|true=>NP L g λq=>K q h|false=>False) k) q h)
     (λr g h=>match r with| .ag i=>kb (.ag i) g h| .eG _=>False) k) (λr g h=>match r with| .ag i=>kb (.ag i) g h| .eG _=>False) k)
  (af:Fits N a j):(Code.scope (.seq b (.seq c (.seq (.label l) d)))).wpIn (Fw s) m P (dr e N (writes (.scope (.seq b (.seq c (.seq (.label l) d))))) (GQ (.scope (.seq b (.seq c (.seq (.label l) d))))) a u kb k) a (e.at f n):=by
 have ag:findLabel b l=none:=by simpa using X
 have ah:findLabel c l=none:=by simpa using Y
 have D:findLabel (.seq b (.seq c (.seq (.label l) d))) l=some (.seq .skip d):=by simp[findLabel,ag,ah]
 have ai:GQ (.scope (.seq b (.seq c (.seq (.label l) d))))=true:=by grind [GQ]
 have E: ∀t∈writes b,t∈writes (.scope (.seq b (.seq c (.seq (.label l) d)))):=λt aj=>by simp_all [writes,HS]
 have G: ∀t∈writes c++writes d,t∈writes (.scope (.seq b (.seq c (.seq (.label l) d)))):=λt aj=>by
  simp_all [HS,writes]
 generalize ap:writes (.scope (.seq b (.seq c (.seq (.label l) d))))=H at E G ⊢;rw[ai];generalize v:dr e N H true a u kb k=Q;obtain⟨I,J⟩: ∃I:Act->World->Prop,I=X9 (Fw s) m P (.seq b (.seq c (.seq (.label l) d))) (.seq .skip d) Q:=⟨_,rfl⟩;refine AEY D ?_;rw[<- J];refine wpIn_seq (wpIn_mono (S m p s A j f _ _ k a n B ae af) ?_);rintro ak am aq ⟨M,O,R,rfl,x,an,o⟩;have y:Fh H true a am:=an.aj E λ_=>ab
 cases ak with
 |normal=>exact AJO T U B D Z ac ad o x (λar ao=>y.trans ao (λ_ f=>f) G λ_=>⟨rfl,rfl⟩) v J
 |exit i=>rw[<- v];exact⟨M,O,R,rfl,x,y,o⟩
 |goto C=>exact o.elim
 |ret=>rw[<- v];exact⟨M,O,R,rfl,x,y,o⟩
 |panic au=>exact o.elim
 |outgrown=>exact o.elim
theorem AIi {P:Q1}{y:al}{N:Nat}(a7:P.follows .mixedOrders=true): ∀(aE:Nat) (c:Code),SizeOf.sizeOf c<aE-> ∀(m:Nat) (C:Bool) (A:Option Nat) (G:bT) (k:Env) (d:aa) (q:Env->aa->Prop) (kb:iK->Env->aa->Prop) (r:Env->aa->Prop) (a:Act) (n:Nat),
  (C=false->A=none)->F3 y P N C c G k d q kb r->Fits N a k->c.wpIn (Fw A) m P (dr y N (writes c) (GQ c) a q kb r) a (y.at d n):=by
 intro aE
 induction aE with
 |zero=>intro c Z;omega
 |succ aE T=>
  intro c Z;cases c with
  |skip=>intro m C A G k d q kb r a n _ e o;exact wpIn_skip ⟨k,d,n,rfl,o,Fh.refl,e⟩
  |exit id=>intro m C A G k d q kb r a n _ e o;exact wpIn_exit ⟨k,d,n,rfl,o,Fh.refl,e⟩
  |ret=>intro m C A G k d q kb r a n _ e o;exact wpIn_ret ⟨k,d,n,rfl,o,Fh.refl,e⟩
  |label l=>intro m C A G k d q kb r a n _ e o;exact wpIn_label ⟨k,d,n,rfl,o,Fh.refl,e⟩
  |goto l=>intro m C A G k d q kb r a n _ e o;exact wpIn_goto ⟨k,d,n,rfl,o,Fh.refl,e⟩
  |refuse S=>intro m C A G k d q kb r a n _ e o;simp only[F3] at e
  |region id ah V=>
   intro m C A G k d q kb r a n _ e o;have plain: ∀X,(∀ av ai ad aw,Fits N av ai->QL (dstsOf ah.toList) a av->X ai ad->dr y N (writes (.region id ah V)) (GQ (.region id ah V)) a q kb r .normal av (y.at ad aw))->
     lU y P N ah V k d X->(Code.region id ah V).wpIn (Fw A) m P (dr y N (writes (.region id ah V)) (GQ (.region id ah V)) a q kb r) a (y.at d n):=
    λX a8 a9=>AGJ a7 a9 o a8
   cases G with
   |bz L aj=>
    simp only[F3] at e;split at e
    ·rename_i H;have e:=e _ (λ_ _ d=>d);refine plain _ ?_ e;intro av ai ad aw aM ap I;obtain⟨ae,s,O⟩:=JR I;exact⟨_,ad,aw,rfl,o.join aM rfl (ap.g (nd:=true)) H s,ap.g,O⟩
    ·exact e.elim
   |_=>exact plain q (λav ai ad aw aM ap I=>⟨ai,ad,aw,rfl,aM,ap.g,I⟩) e
  |seq x S=>
   have ax:=T x (by simp at Z;omega);have aN:=T S (by simp at Z;omega);intro m C A G k d q kb r a n Y e o;have tail: ∀(X:Env->aa->Prop) (aO aP:bT),F3 y P N C x aO k d X kb r->
     (∀ h g j,Fits N h g->Fh (writes x) (GQ x) a h->X g j-> ∃D,Fits N h D/\F3 y P N C S aP D j q kb r)->
     (Code.seq x S).wpIn (Fw A) m P (dr y N (writes (.seq x S)) (GQ (.seq x S)) a q kb r) a (y.at d n):=by
    intro X aO aP I ak;refine wpIn_seq (wpIn_mono (ax m C A aO k d X kb r a n Y I o) ?_);intro am h aF E;have aq: ∀t∈writes x,t∈writes (.seq x S):=λt aQ=>by grind [writes]
    have ba: ∀t∈writes S,t∈writes (.seq x S):=λt aQ=>by grind [writes]
    have ar:GQ (.seq x S)=true->GQ x=true/\GQ S=true:=λd=>by simpa [GQ] using d
    cases am with
    |normal=>
     obtain⟨g,j,U,rfl,u,B,s⟩:=E;obtain⟨D,ab,aR⟩:=ak h g j u B s;refine wpIn_mono (aN m C A aP D j q kb r h U Y aR ab) ?_;rintro aY aG aZ ⟨bb,aS,bc,rfl,bd,be,bf⟩;exact⟨bb,aS,bc,rfl,bd,B.trans be aq ba ar,bf⟩
    |exit id=>obtain⟨g,j,U,rfl,u,B,s⟩:=E;exact⟨g,j,U,rfl,u,B.aj aq (λd=>(ar d).1),s⟩
    |ret=>obtain⟨g,j,U,rfl,u,B,s⟩:=E;exact⟨g,j,U,rfl,u,B.aj aq (λd=>(ar d).1),s⟩
    |goto l=>obtain⟨g,j,U,rfl,u,B,s⟩:=E;exact⟨g,j,U,rfl,u,B.aj aq (λd=>(ar d).1),s⟩
    |panic a0=>obtain⟨_,_,_,_,_,_,s⟩:=E;exact s.elim
    |outgrown=>obtain⟨_,_,_,_,_,_,s⟩:=E;exact s.elim
   cases G with
   |seq J ag=>
    simp only[F3] at e;exact tail _ J ag e (λh g j u _ I=>⟨g,u,I⟩)
   |bC L aj J ag=>
    simp only[F3] at e;split at e
    ·rename_i H;simp only[A3] at H;have e:=e _ (λ_ _ d=>d);refine tail _ J ag e ?_;intro h g j u B I;obtain⟨ae,s,O⟩:=JR I;exact⟨_,o.join u H.2 B H.1 s,O⟩
    ·exact e.elim
   |_=>simp only[F3] at e
  |cond v x S=>
   have ax:=T x (by simp at Z;omega);have aN:=T S (by simp at Z;omega);intro m C A G k d q kb r a n Y e o;cases G with
   |cond J ag=>
    simp only[F3] at e;have e:=BZ o e;cases aH:a.eval v<;>rw[aH] at e<;>simp only[] at e
    rename_i b;obtain⟨j,M⟩:=af.mk e;refine wpIn_cond aH ?_;cases b with
    |true=>exact wpIn_mono (ax m C A J k d q kb r a n Y (j rfl) o) (λ_ _ _ E=>E.mono (λt aQ=>by grind [writes]) (λd=>by grind [GQ]) (λ_ _ d=>d) (λ_ _ _ d=>d) (λ_ _ d=>d))
    |false=>exact wpIn_mono (aN m C A ag k d q kb r a n Y (M rfl) o) (λ_ _ _ E=>E.mono (λt aQ=>by grind [writes]) (λd=>by grind [GQ]) (λ_ _ d=>d) (λ_ _ _ d=>d) (λ_ _ d=>d))
   |_=>simp only[F3] at e
  |block id x=>
   have T:=T x (by simp at Z;omega);intro m C A G k d q kb r a n Y e o;have tail: ∀(X:Env->aa->Prop) (ay:iK->Env->aa->Prop) (J:bT),F3 y P N C x J k d X ay r->
     (∀ h g j,Fits N h g->Fh (writes x) (GQ x) a h->X g j-> ∃D,Fits N h D/\q D j)->
     (∀ i h g j,Fits N h g->Fh (writes x) (GQ x) a h->ay (.ag i) g j->(i=id/\ ∃D,Fits N h D/\q D j)\/(i≠id/\kb (.ag i) g j))->(∀ l g j,ay (.eG l) g j->kb (.eG l) g j)->
     (Code.block id x).wpIn (Fw A) m P (dr y N (writes (.block id x)) (GQ (.block id x)) a q kb r) a (y.at d n):=by
    intro X ay J I j M aS;refine wpIn_block (wpIn_mono (T m C A J k d X ay r a n Y I o) ?_);intro am h aF E;obtain⟨g,R,U,rfl,u,B,s⟩:=E;cases am with
    |normal=>obtain⟨D,ab,ak⟩:=j h g R u B s;exact⟨D,R,U,rfl,ab,B,ak⟩
    |exit i=>
     simp only[Exit.inBlock];rcases M i h g R u B s with⟨an,D,ab,ak⟩|⟨an,ak⟩
     ·rw[if_pos an];exact⟨D,R,U,rfl,ab,B,ak⟩
     ·rw[if_neg an];exact⟨g,R,U,rfl,u,B,ak⟩
    |ret=>exact⟨g,R,U,rfl,u,B,s⟩
    |goto l=>exact⟨g,R,U,rfl,u,B,aS l _ _ s⟩
    |panic a0=>exact s.elim
    |outgrown=>exact s.elim
   cases G with
   |block J=>
    simp only[F3] at e;refine tail _ _ J e (λh g j u _ I=>⟨g,u,I⟩) ?_ (λ_ _ _ d=>d);intro i h g j u _ I;by_cases an:i=id
    ·subst an;simp only[Nat.beq_refl] at I
     grind
    grind [UF]
   |bL L aj J=>
    simp only[F3] at e;split at e
    ·rename_i H;simp only[A3] at H;have e:=e _ (λ_ _ d=>d);have a1: ∀h g j,Fits N h g->Fh (writes x) (GQ x) a h->NP L g (λae=>q (GZ L aj k ae) j)-> ∃D,Fits N h D/\q D j:=by intro h g j u B I;obtain⟨ae,s,O⟩:=JR I;exact⟨_,o.join u H.2 B H.1 s,O⟩
     refine tail _ _ J e a1 ?_ (λ_ _ _ d=>d);intro i h g j u B I;by_cases an:i=id
     ·subst an;simp only[Nat.beq_refl] at I;exact .inl ⟨rfl,a1 h g j u B I⟩
     grind [UF]
    ·exact e.elim
   |_=>simp only[F3] at e
  |loop x=>
   have T:=T x (by simp at Z;omega);intro m C A G k d q kb r a n Y e o;cases G with
   |loop L aj J=>
    simp only[F3] at e;split at e
    ·rename_i H;simp only[A3] at H;obtain⟨ae,s,e⟩:=JR e;have bg:Fits N a (GZ L aj k ae):=o.join o H.2 (Fh.refl (W:=writes x)) H.1 s
     let K:gP L->aa->Prop:=λae d=> ∀h n,Fits N h (GZ L aj k ae)->Fh (writes x) (GQ x) a h->
      x.wpIn (Fw A) m P (Exit.then (lY (Fw A) m P x (dr y N (writes x) (GQ x) a q kb r)) (dr y N (writes x) (GQ x) a q kb r)) h (y.at d n)
     have ap:=e K ?_
     ·exact AGK (ap a n bg Fh.refl)
     ·intro ae d bh h n u B;refine wpIn_mono (T m C A J _ d _ kb r h n Y bh u) ?_;intro am aG aZ E;obtain⟨D,M,au,rfl,ab,aT,O⟩:=E;have aI:Fh (writes x) (GQ x) a aG:=B.trans aT (λ_ d=>d) (λ_ d=>d) (λd=>⟨d,d⟩);cases am with
      |normal=>
       obtain⟨bW,bi,aR⟩:=JR O;exact AHm (aR aG au (u.again ab H.2 aT H.1 bi) aI)
      |exit i=>exact⟨D,M,au,rfl,ab,aI,O⟩
      |ret=>exact⟨D,M,au,rfl,ab,aI,O⟩
      |goto l=>exact⟨D,M,au,rfl,ab,aI,O⟩
      |panic a0=>exact O.elim
      |outgrown=>exact O.elim
    ·exact e.elim
   |_=>simp only[F3] at e
  |rangeFunc f ps aJ x=>
   have bj:=T aJ (by simp at Z;omega);have ax:=T x (by simp at Z;omega);intro m C A G k d q kb r a n Y e o;cases G with
   |range a2 J ag=>
    simp only[F3] at e;split at e
    ·rename_i a3;simp only[A3,CD,DO] at a3;obtain⟨⟨bk,aK⟩,bm⟩:=a3;have aK:=IF aK;have bn:=Y bk;subst bn;have e:=BZ o e;refine wpIn_rangeFunc λfn _=>?_
     let az:Go.Loop:= {state:= .ready,pending:=none,fn,tmps:=a.tmps,params:=ps,assign:=aJ,body:=x,defers:=d.size}
     have bo: ∀args:List J0,args.length=ps.size-> ∀(R:aa) (ao:A2J),R[d.size+1]? =some (.loop az)->
       F3 y P N true aJ J (jR {get:=k.get,ds:= []} ps.toList args) R
        (λai ad=> ∃aL,ad[d.size+1]? =some (.loop aL)/\aL.state= .ready/\
         F3 y P N true x ag ai (ad.setIfInBounds (d.size+1) (.loop {aL with state:= .busy}))
          (λ_ M=> ∃ac,M[d.size+1]? =some (.loop ac)/\ao (.bool true) (M.setIfInBounds (d.size+1) (.loop {ac with state:= .ready,pending:=none})))
          (λaU _ M=>match aU with| .ag i=>(∃ ac,M[d.size+1]? =some (.loop ac)/\ao (.bool false) (M.setIfInBounds (d.size+1) (.loop {ac with state:= .done,pending:=some (kO (some i))})))| .eG _=>False)
          (λ_ M=> ∃ac,M[d.size+1]? =some (.loop ac)/\ao (.bool false) (M.setIfInBounds (d.size+1) (.loop {ac with state:= .done,pending:=some (kO none)}))))
        (λ_ _ _=>False) (λ_ _=>False)->
       Eh y P (.func (.yield (d.size+1)) #[] #[]) args.toArray R ao:=by
      intro args bp R ao aV aW n;have bq:(do let V <-Deferred.ofValue (.func (.yield (d.size+1)) #[] #[]) args.toArray;invoke V.target V.args:Sem Next).run P (y.at R n)=
        .ok (.round (d.size+1) fn ((ps.zip args.toArray).foldl (λtmps (t,a)=>tmps.setIfInBounds t a) a.tmps) aJ x) (y.at R n):=by
       have br: ¬(args.toArray).size≠ps.size:=by simp[bp]
       simp only[Deferred.ofValue,Sem.run_bind,Sem.run_pure,Result.andThen_ok,invoke,Instr.yield,run_getLoop aV,Array.empty_append];show Sem.run P (if(args.toArray).size≠ps.size then _ else _) _=_;rw[if_neg br];rfl
      rw[bq];simp only[Next.out];have bs:Fits N {tmps:=(ps.zip args.toArray).foldl (λtmps (t,a)=>tmps.setIfInBounds t a) a.tmps,defers:= []} (jR {get:=k.get,ds:= []} ps.toList args):=by have bt:Fits N {tmps:=a.tmps,defers:= []} {get:=k.get,ds:= []}:=⟨o.size,o.get,rfl⟩;have:=vm ps.toList args _ a.tmps (λp E=>by simpa using bm p E) bt;rw[<- Array.foldl_toList,Array.toList_zip];exact this
      refine roundIn_of_wpIn trivial (wpIn_mono (bj 0 true (some (d.size+1)) J _ R _ _ _ _ n (λd=>by cases d) aW bs) ?_);intro am h aF E;obtain⟨g,j,U,rfl,u,B,s⟩:=E;cases am<;>simp only at s
      obtain⟨aL,bu,bv,bw⟩:=s;refine⟨_,run_beginRound bu bv,?_⟩;refine wpIn_mono (ax 0 true (some (d.size+1)) ag _ _ _ _ _ h U (λd=>by cases d) bw u) ?_;intro aY aG aZ bx;obtain⟨D,M,au,rfl,ab,aT,O⟩:=bx;cases aY<;>simp only at O
      ·obtain⟨ac,aA,aC⟩:=O;exact⟨_,_,run_endRound aA,_,rfl,_,_,rfl,aC⟩
      ·obtain⟨ac,aA,aC⟩:=O;exact⟨_,_,run_endRound aA,_,rfl,_,_,rfl,aC⟩
      ·obtain⟨ac,aA,aC⟩:=O;exact⟨_,_,run_endRound aA,_,rfl,_,_,rfl,aC⟩
     obtain⟨bA,bB,bD,bE⟩:=e az rfl rfl aK.symm (λx R ao aV aW=>bo (kP a2 x) ((YV a2 x).trans aK) R ao aV aW);obtain⟨nx,bF,rfl⟩:=Mr bD;have aD:=bF (y.at ((d.push (.deferred (some []))).push (.loop az)) n);rw[Sem.run_bind] at aD;have bG:(resolve a.eval (rangeCall f (d.size+1)) 0)=Deferred.ofValue (a.eval f) #[.func (.yield (d.size+1)) #[] #[]]:=by simp[resolve,Act.eval]
     cases hd:(Deferred.ofValue (a.eval f) #[.func (.yield (d.size+1)) #[] #[]]).run P (y.at ((d.push (.deferred (some []))).push (.loop az)) n) with
     |halt S w=>rw[hd] at aD;cases aD
     |ok V aF=>
      rw[hd] at aD;have aq:aF=y.at ((d.push (.deferred (some []))).push (.loop az)) n:=by cases aH:a.eval f<;>rw[aH] at hd<;>simp[Deferred.ofValue] at hd<;>first|exact hd.2.symm|(cases hd)
      subst aq;refine⟨d.size+1,[kA d.size],_,V,_,bA,bB,_,AE2,by rw[bG];exact hd,λ_ _=>trivial,aD,λar=>by simp at ar,Ws.2 (Calls.mono (bE n) ?_)⟩;rintro bX bY ⟨v,rfl,M,au,rfl,a4,bH,bI,a5⟩;have aX:Fits N {a with defers:= [kA d.size]++a.defers} {get:=k.get,ds:=d.size::k.ds}:=⟨o.size,o.get,by simp[o.ds]⟩;refine⟨a4.pending,_,run_endLoop bH bI,?_⟩;generalize M.setIfInBounds (d.size+1) (.loop {a4 with state:= .exhausted})=bZ at a5 ⊢;rcases a5 with⟨E,bJ⟩|⟨aU,E,a6⟩
      ·rw[E];exact⟨_,_,_,rfl,aX,⟨λ_ _=>rfl,λd=>by simp[GQ] at d⟩,bJ⟩
      ·rw[E];cases aU with
       |none=>exact wpIn_ret ⟨_,_,_,rfl,aX,⟨λ_ _=>rfl,λd=>by simp[GQ] at d⟩,a6⟩
       |some i=>exact wpIn_exit ⟨_,_,_,rfl,aX,⟨λ_ _=>rfl,λd=>by simp[GQ] at d⟩,a6⟩
    ·exact e.elim
   |_=>simp only[F3] at e
  |scope b=>
   intro m C A G k d q kb r a n Y e o;cases b with
   |seq bK bM=>
    cases bM with
    |seq c S=>
     cases S with
     |seq z V=>
      cases z with
      |label l=>
       cases G with
       |scope L aj b0 J ag=>
        simp only[F3] at e;split at e
        ·rename_i H;simp only[A3] at H;obtain⟨⟨bN,bO⟩,H,bP,bQ,bR⟩:=H;have bS:=T bK (by simp at Z;omega);have bU:=T c (by simp at Z;omega);have bV:=T V (by simp at Z;omega);exact AJE bS bU bV Y bN bO H bP bQ bR e o
        ·exact e.elim
       |_=>simp only[F3] at e
      |_=>simp only[F3] at e
     |_=>simp only[F3] at e
    |_=>simp only[F3] at e
   |_=>simp only[F3] at e
theorem AJ7 {P:Q1}{b:al}{N:Nat}(k:P.follows .mixedOrders=true)(c:Code)(m:Nat)(d:Bool)(e:Option Nat)(j:bT)(f:Env)(g:aa)(h:Env->aa->Prop)(kb:iK->Env->aa->Prop)(i:Env->aa->Prop)(a:Act)(n:Nat)
  (l:d=false->e=none) (o:F3 b P N d c j f g h kb i) (p:Fits N a f):c.wpIn (Fw e) m P (dr b N (writes c) (GQ c) a h kb i) a (b.at g n):=
 AIi k (SizeOf.sizeOf c+1) c (Hh _) m d e j f g h kb i a n l o p
def kQ(P:Q1):List ResultVar->Env->aa->(List J0->Prop)->Prop
 | [],_,_,K=>K []
 | .tmp t::d,b,c,K=>match b.get t with|some v=>kQ P d b c λe=>K (v::e)|none=>False
 | .cell a t::d,b,c,K=>match b.get a with
  |some v=>(match v with| .pointer p=>At p λf=>loadT P t c f λv _=>kQ P d b c λe=>K (v::e)|_=>False)
  |none=>False
def oneOf(a:List J0)(K:J0->Prop):Prop:=match a with| [v]=>K v|a=>K (.tuple a.toArray)
def vo(P:Q1)(l:List ResultVar)(a:Env)(b:aa)(K:J0->Prop):Prop:=kQ P l a b λc=>oneOf c K
def qE:List Nat->aa->(aa->Prop)->Prop
 | [],a,K=>K a
 |r::b,a,K=>a[r]? =some (.deferred (some []))/\qE b (a.setIfInBounds r (.deferred none)) K
def lZ:Nat->List J0->Nat->Option J0
 |_,[],_=>none
 |i,v::a,t=>bif Nat.beq t i then some v else lZ (i+1) a t
def qF(P:Q1)(fn:Func)(c:A2J)(a:Env)(d:aa):Prop:=qE a.ds d λb=>vo P fn.results.toList a b λv=>c v b
def qG(A:al)(P:Q1)(f:Q8)(b:bT)(args:List J0)(d:aa)(a:A2J):Prop:=
 match P.funcs[f]? with
 |none=>False
 |some fn=>match fn.body with
  |none=>False
  |some c=>match Nat.ble args.length fn.ntmps with
   |true=>F3 A P fn.ntmps false c b {get:=lZ 0 args,ds:= []} d (qF P fn a) (λ_ _ _=>False) (qF P fn a)
   |false=>False
theorem vq: ∀ {l:List J0} {i t:Nat} {v:J0},lZ i l t=some v->i<=t/\l[t-i]? =some v
 | [],_,_,_,a=>by cases a
 |u::e,i,t,v,a=>by
  unfold lZ at a;by_cases b:t=i
  ·subst b;have c:Nat.beq t t=true:=by simp
   rw[c,cond_true] at a;exact⟨A0 _,by simpa using a⟩
  ·rw[UF b,cond_false] at a;obtain⟨f,d⟩:=vq a;refine⟨by omega,?_⟩;have:t-i=(t-(i+1))+1:=by omega
   rw[this,Wa];exact d
section
variable {P : Q1} {A : al}
def nV(tmps:Array J0):ResultVar->Sem J0
 | .tmp t=>pure (tmps.getD t undef)
 | .cell x t=>do loadVar t (<- asAddr (tmps.getD x undef))
theorem AKx(fn:Func)(tmps:Array J0):results fn tmps=(do let a <-fn.results.mapM (nV tmps);pure (if b:a.size=1 then a[0] else .tuple a)):=rfl
theorem Rb {N:Nat}{a:Act}{j:Env}(d:Fits N a j){e:aa}{n:Nat}: ∀ {l:List ResultVar} {K:List J0->Prop},kQ P l j e K->
  ∃c,(l.mapM (nV a.tmps)).run P (A.at e n)= .ok c (A.at e n)/\K c
 | [],K,b=>⟨[],rfl,b⟩
 | .tmp t::k,K,b=>by
  unfold kQ at b;split at b
  ·rename_i v f;obtain⟨c,g,h⟩:=Rb (n:=n) d b;refine⟨v::c,?_,h⟩;have i:a.tmps.getD t undef=v:=by have:=d.get t v f;simp[this]
   rw[OS];simp only[Sem.run_bind,Sem.run_pure,Result.andThen_ok,nV,g,i]
  ·exact b.elim
 | .cell x t::k,K,b=>by
  unfold kQ at b;split at b
  ·rename_i v f;split at b
   ·rename_i p;obtain⟨m,rfl,o⟩:=At.mk b;obtain⟨u,st,q,r,h⟩:=ud (A:=A) o;obtain⟨c,g,s⟩:=Rb (n:=n) d h;refine⟨u::c,?_,s⟩;have i:a.tmps.getD x undef= .pointer (some m):=by have:=d.get x _ f;simp[this]
    rw[OS];simp only[Sem.run_bind,Sem.run_pure,Result.andThen_ok,nV,i,asAddr,q e r n,g]
   ·exact b.elim
  ·exact b.elim
theorem AK5 {N:Nat}{a:Act}{e:Env}(f:Fits N a e){fn:Func}{c:aa}{n:Nat}{K:J0->Prop}(b:vo P fn.results.toList e c K):
  ∃v,(results fn a.tmps).run P (A.at c n)= .ok v (A.at c n)/\K v:=by
 obtain⟨d,g,b⟩:=Rb (A:=A) f (n:=n) b;have h:(results fn a.tmps).run P (A.at c n)= .ok (if i:d.toArray.size=1 then d.toArray[0] else .tuple d.toArray) (A.at c n):=by rw[AKx,Up];simp only[Sem.run_bind,Sem.run_map,g,Result.andThen_ok,Sem.run_pure]
 refine⟨_,h,?_⟩
 match d,b with
 | [],b=>exact b
 | [v],b=>exact b
 |u::v::j,b=>simpa [oneOf] using b
theorem vt {fn:Func}{tmps:Array J0}{d:Ending->World->Prop}{K:aa->Prop}(e: ∀a b,K a->LeavesInM (Fw none) 0 P fn tmps d [] .returning (A.at a b)):
  ∀(l:List Nat) (a:aa) (b:Nat),qE l a K->LeavesInM (Fw none) 0 P fn tmps d (l.map kA) .returning (A.at a b)
 | [],a,b,c=>e a b c
 |r::f,a,b,⟨g,c⟩=>by
  refine⟨by simp,.inl ⟨r,_,rfl,run_takeDeferred (w:=A.at a b) g,?_⟩⟩;exact vt e f _ b c
theorem AHF(s:P.follows .mixedOrders=true){f:Q8}{m:bT}{args:List J0}{j:aa}{e:A2J}(b:qG A P f m args j e):
  AA A P f args.toArray j e:=by
 intro n;unfold qG at b;split at b
 ·exact b.elim
 ·rename_i fn u;split at b
  ·exact b.elim
  ·rename_i c w;split at b
   ·rename_i o;have o:=UP o;refine Ws.1 (callsIn_of_wp_marks (F:=Fw none) (n:=0) u w trivial ?_);have x:Fits fn.ntmps {tmps:=args.toArray++Array.replicate (fn.ntmps-args.toArray.size) undef,defers:= []} {get:=lZ 0 args,ds:= []}:=by refine⟨by simp;omega,λt v k=>?_,rfl⟩;obtain⟨_,g⟩:=vq k;have y:t<args.length:=(List.getElem?_eq_some_iff.1 (by simpa using g)).1;rw[LR (by simpa using y)];simpa using g
    refine wpIn_mono (AJ7 s c 0 false none m _ j _ _ _ _ n (λ_=>rfl) b x) ?_;intro z a H B;obtain⟨h,d,i,rfl,p,_,l⟩:=B;have q:qF P fn e h d->LeavesInM (Fw none) 0 P fn a.tmps (λh C=> ∃v,h= .returned v/\ ∃d i,C=A.at d i/\e v d) a.defers .returning (A.at d i):=by intro D;rw[p.ds];refine vt ?_ h.ds d i D;intro g r E;obtain⟨v,k,G⟩:=AK5 (A:=A) p (n:=r) E;exact⟨v,k,v,rfl,g,r,rfl,G⟩
    cases z<;>simp only at l
    ·exact q l
    ·exact q l
   ·exact b.elim
end
def Gm(c:IntKind)(a b:Int):Int:=c.wrap ((BitVec.ofInt c.bits a &&& BitVec.ofInt c.bits b).toNat:Int)
def dS(c:IntKind)(a b:Int):Int:=c.wrap ((BitVec.ofInt c.bits a ||| BitVec.ofInt c.bits b).toNat:Int)
def Zu(c:IntKind)(a b:Int):Int:=c.wrap ((BitVec.ofInt c.bits a ^^^ BitVec.ofInt c.bits b).toNat:Int)
end Go.Lf
namespace Go.Lf.G
noncomputable abbrev P:Q1:=Go.Proofs.Tryz.prog
def Ib:Q8:=4
def Jz:Q8:=9
def Hu:Q8:=10
def VP:Q8:=11
def Gh:Q8:=12
def FU:Q8:=13
def F7:Q8:=14
def KY:Q8:=15
def Fz:Q8:=17
def KG:Q8:=18
def Mf:Q8:=19
def Ca:Q8:=20
def NJ:Q8:=21
def EN:Q8:=22
def Iz:Q8:=23
def Nv:Q8:=26
def MZ:Q8:=33
def Df:Q8:=34
def Dt:Q8:=35
def GD:Q8:=36
def SY:Q8:=37
def XU:Q8:=38
def Hr:Q8:=39
def Fu:Q8:=40
def Et:Q8:=41
def FN:Q8:=42
def Dn:Q8:=43
def Ec:Q8:=44
def Py:Q8:=45
def Uu:Q8:=46
def Bz:Q8:=47
def Lj:Q8:=48
def NT:Q8:=49
def Gx:Q8:=50
def EK:Q8:=51
def LX:Q8:=52
def Ma:Q8:=53
def Ob:Q8:=54
def MW:Q8:=55
def Dm:Q8:=56
def IP:Q8:=57
def G7:Q8:=58
def JL:Q8:=59
def KQ:Q8:=60
def Aw:Q8:=61
def IJ:Q8:=62
def Bf:Q8:=63
def Li:Q8:=64
def IL:Q8:=65
def Kq:Q8:=66
def F8:Q8:=67
def La:Q8:=68
def Q4:Q8:=69
def GN:Q8:=75
def Bw:Q8:=76
def SG:Q8:=79
def Fp:Q8:=80
def F5:Q8:=81
def Hw:Q8:=82
def JM:Q8:=83
def DN:Q8:=84
def G5:Q8:=85
def LY:Q8:=86
def PN:Q8:=87
def SN:Q8:=88
def DR:Q8:=89
def Nu:Q8:=90
def LU:Q8:=91
def P8:Q8:=92
def FZ:Q8:=93
def Ll:Q8:=94
def N7:Q8:=95
def SV:Q8:=96
def Ed:Q8:=97
def Bd:Q8:=98
def Ad:Q8:=99
def CF:Q8:=100
def Ot:Q8:=101
def OH:Q8:=102
def P7:Q8:=103
def KC:Q8:=104
def Ga:Q8:=105
def JU:Q8:=106
def JG:Q8:=107
def Pd:Q8:=108
def Pz:Q8:=109
def Pi:Q8:=110
def OO:Q8:=111
def LM:Q8:=112
def Ul:Q8:=113
def DU:Q8:=114
def Fa:Q8:=118
def Kz:Q8:=122
def OC:Q8:=123
def Pk:Q8:=124
def Gr:Q8:=125
def Hz:Q8:=126
def UJ:Q8:=127
def Ru:Q8:=128
def Rc:Q8:=129
def QZ:Q8:=130
def JQ:Q8:=131
def OE:Q8:=132
def I7:Q8:=133
def G8:Q8:=134
def QK:Q8:=135
def KS:Q8:=136
def Ow:Q8:=137
def Jq:Q8:=138
def R7:Q8:=139
def KO:Q8:=140
def O8:Q8:=141
def Ci:Q8:=142
def Ja:Q8:=143
def IK:Q8:=144
def PZ:Q8:=145
def I9:Q8:=146
def F9:Q8:=147
def Gs:Q8:=148
def Rt:Q8:=149
def KJ:Q8:=150
def Dx:Q8:=151
def DT:Q8:=152
def Dj:Q8:=153
def MS:Q8:=154
def R4:Q8:=155
def QR:Q8:=156
def SC:Q8:=157
def Gw:Q8:=158
def KT:Q8:=159
def OL:Q8:=160
def Nb:Q8:=161
def LG:Q8:=162
def Jk:Q8:=163
def Tj:Q8:=164
def Cm:Q8:=165
def LV:Q8:=166
def KR:Q8:=167
def Oq:Q8:=168
def Cu:Q8:=172
def P6:Q8:=174
def JK:Q8:=175
def LJ:Q8:=176
def Kb:Q8:=177
def Lg:Q8:=178
def Oy:Q8:=179
def KN:Q8:=180
def Pn:Q8:=181
def GK:Q8:=182
def SQ:Q8:=183
def Ld:Q8:=184
def Uj:Q8:=185
def Em:Q8:=186
def IX:Q8:=187
def DI:Q8:=188
def Ka:Q8:=189
def JF:Q8:=190
def Gv:Q8:=191
def QT:Q8:=192
def Cw:Q8:=193
def Le:Q8:=194
def UI:Q8:=195
def Dl:Q8:=196
def Su:Q8:=197
def DK:Q8:=198
def Ii:Q8:=199
def LQ:Q8:=200
def Ns:Q8:=201
def BN:Q8:=202
def DC:Q8:=203
def KM:Q8:=204
def JY:Q8:=205
def Jp:Q8:=206
def SB:Q8:=218
def JE:Q8:=219
def Qk:Q8:=220
def LA:Q8:=222
def I8:Q8:=225
def Px:Q8:=226
def Iq:Q8:=227
def Cy:Q8:=228
def WA:Q8:=229
def QB:Q8:=230
def EQ:Q8:=231
def Ff:Q8:=232
def Gq:Q8:=233
def I5:Q8:=234
def P5:Q8:=235
def Ng:Q8:=242
def Nq:Q8:=243
def Dp:Q8:=248
def Gl:Q8:=250
def Dg:Q8:=257
def OA:Q8:=258
def OI:Q8:=259
def DW:Q8:=285
def t_:Q7:=0
def Bq:Q7:=3
def qO:Q7:=4
def EE:Q7:=5
def BI:Q7:=9
def BR:Q7:=27
def GJ:Q7:=29
def AQ:Q7:=33
def Bb:Q7:=36
def AR:Q7:=44
def Rm:Q7:=51
def Cb:Q7:=53
def Gp:Q7:=55
def FI:Q7:=57
def MX:Q7:=60
def CL:Q7:=66
def DJ:Q7:=69
def Cz:Q7:=86
def Ae:Q7:=96
def CP:Q7:=102
def qP:Q7:=104
def Bv:Q7:=106
def IA:Q7:=110
def EX:Q7:=111
def DZ:Q7:=112
def Au:Q7:=114
def DF:Q7:=116
def PY:Q7:=124
def ZU:Q7:=140
def Fq:Q7:=142
def En:Q7:=143
def Ry:Q7:=145
def vJ:Q7:=165
def XY:Q7:=167
def Gf:Q7:=171
def AEc:Q7:=189
def Aq:Q7:=190
def FP:Q7:=192
def Bj:Q7:=195
def NM:Q7:=203
def HZ:Q7:=215
def Gc:Q7:=220
def BK:Q7:=231
def Mk:Q7:=240
def A9:Q7:=243
def WQ:Q7:=246
def qQ:Q7:=277
def Dz:Q7:=279
def Ra:Q7:=281
def vK:Q7:=283
def Me:Q7:=285
def nY:Q7:=293
def JZ:Q7:=298
def EZ:Q7:=343
def UA:Q7:=384
def Ea:Q7:=386
def FL:Q7:=388
theorem mixed:P.follows .mixedOrders=true:=by decide +kernel
end Go.Lf.G
