/-
 LIFT, part A: worlds as heaps beside a fixed rest; one operation's outcome at the level of values; a region that draws its order, walked in the text's order.
-/
import Derived.WalkKit
import Derived.OrdersIn
import Derived.RangeFuncIn
import Derived.RangeFuncLeaves
import Derived.RangeFuncCalls
import Derived.TacticsInMore
import Derived.RangeFuncRecord
import Derived.Test.YtgpmoonnachoaaaGreatDoorProg
set_option maxRecDepth 100000
set_option linter.unusedVariables false
set_option linter.unusedSimpArgs false
open Go.IntKind renaming i64→J9,wrap→J8
open Go.Value renaming string→J7,int→J6,pointer→J5,slice→J4,bool→J3,tuple→J1
open Go.Obj renaming cells→J2
open Go renaming Value→J0,Addr→Q6,TypeId→Q7,FuncId→Q8,Program→Q1
open Go.Addr renaming add→Q9,mk→Q5
namespace Go.Lf
abbrev Q2:=Option Q6
abbrev A2M:=ByteArray
abbrev A0:=@Nat.le_refl
abbrev A1:=@List.length_append
abbrev A2:=@List.getElem?_eq_getElem
abbrev A3:=@Bool.and_eq_true
abbrev A4:=@List.append_assoc
abbrev A5:=@Nat.zero_le
abbrev A6:=@List.length_cons
abbrev An:=@List.length_take
abbrev As:=@Int.toNat_natCast
abbrev Ax:=@List.take_of_length_le
abbrev AD:=@List.take_add_one
abbrev AE:=@Nat.mod_eq_of_lt
abbrev AF:=@List.flatMap_cons
abbrev AG:=@Nat.le_trans
abbrev AH:=@List.mem_cons_of_mem
abbrev AI:=@Nat.zero_add
abbrev AK:=@List.append_nil
abbrev AM:=@List.mem_of_getElem?
abbrev AN:=@Nat.mul_le_mul_right
abbrev AS:=@List.length_map
abbrev AT:=@List.filter_cons
abbrev AW:=@List.map_map
abbrev B9:=@List.getElem_mem
abbrev Bm:=@List.take_length
abbrev Bs:=@Nat.add_mul
abbrev By:=@Nat.mul_one
abbrev BE:=@Option.some.inj
abbrev BT:=@Option.some.injEq
abbrev BW:=@List.map_cons
abbrev BY:=@Nat.le_succ
abbrev C2:=@List.map_append
abbrev C5:=@List.getElem?_drop
abbrev Cd:=@List.mem_of_mem_take
abbrev Cl:=@List.getElem?_map
abbrev Cp:=@List.length_drop
abbrev CA:=@Bool.false_eq_true
abbrev CC:=@Nat.mod_lt
abbrev CD:=@Option.toList_some
abbrev CH:=@List.mem_cons_self
abbrev CI:=@Bool.not_eq_true'
abbrev CM:=@List.map_congr_left
abbrev CN:=@List.nil_append
abbrev CT:=@Nat.mul_comm
abbrev Dd:=@Iff.rfl
abbrev Ds:=@List.length_singleton
abbrev DA:=@List.eq_nil_of_length_eq_zero
abbrev DB:=@List.getElem_of_mem
abbrev DE:=@List.getElem?_of_mem
abbrev DG:=@Bool.or_eq_true
abbrev DH:=@List.cons_append
abbrev DM:=@List.all_cons
abbrev DO:=@List.take_append_drop
abbrev DP:=@Nat.pow_succ
abbrev DQ:=@Array.getElem?_setIfInBounds_ne
abbrev DS:=@Bool.eq_iff_iff
abbrev E0:=@List.all_eq_true
abbrev Ek:=@Array.length_toList
abbrev F0:=@Array.toList_setIfInBounds
abbrev F2:=@List.find?_cons
abbrev Fc:=@List.getElem?_take
abbrev Fk:=@List.getElem?_append_right
abbrev Fl:=@Nat.lt_of_lt_of_le
abbrev Fm:=@Nat.min_eq_left
abbrev Fo:=@List.drop_eq_getElem_cons
abbrev Ft:=@List.flatMap_append
abbrev FA:=@Array.getElem?_eq_getElem
abbrev FF:=@Nat.lt_or_ge
abbrev FG:=@Nat.mul_assoc
abbrev G0:=@Function.comp_def
abbrev G3:=@Bool.true_and
abbrev G4:=@Nat.add_zero
abbrev Ge:=@Bool.false_and
abbrev Gk:=@List.filter_sublist
abbrev GB:=@Option.getD_some
abbrev GC:=@List.cons.injEq
abbrev GF:=@List.getElem?_append_left
abbrev GO:=@Array.getElem?_modify
abbrev GP:=@List.length_nil
abbrev GS:=@Bool.or_eq_false_iff
abbrev GW:=@List.sum_cons
abbrev Hb:=@Int.le_refl
abbrev Hc:=@Nat.pow_add
abbrev Hh:=@List.find?_eq_none
abbrev Hi:=@ByteArray.data_append
abbrev Hj:=@List.mem_of_mem_drop
abbrev Hk:=@List.drop_drop
abbrev Hn:=@Nat.lt_succ_self
abbrev Hv:=@Array.toList_modify
abbrev HA:=@ByteArray.size_append
abbrev HC:=@List.getElem?_cons_zero
abbrev HD:=@Nat.sub_zero
abbrev HE:=@List.drop_of_length_le
abbrev HG:=@Nat.two_pow_pos
abbrev HI:=@List.filter_congr
abbrev HJ:=@List.mem_append_left
abbrev HK:=@Nat.add_assoc
abbrev HL:=@Bool.or_true
abbrev HM:=@List.mem_singleton
abbrev HN:=@List.set_append_right
abbrev HP:=@List.drop_zero
abbrev HS:=@List.mem_cons
abbrev HT:=@List.getElem?_set_self
abbrev HU:=@Option.map_some
abbrev HW:=@List.mem_append
abbrev HX:=@Nat.zero_mul
abbrev I0:=@List.drop_succ_cons
abbrev I2:=@List.take_succ_cons
abbrev I3:=@List.foldl_append
abbrev Is:=@List.foldl_cons
abbrev It:=@List.take_zero
abbrev Iv:=@Int.mul_assoc
abbrev Ix:=@Int.pow_add
abbrev ID:=@Nat.le_add_right
abbrev IF:=@List.Perm.refl
abbrev IH:=@Nat.eq_of_beq_eq_true
abbrev IN:=@List.mem_append_right
abbrev IS:=@Array.toList_append
abbrev IT:=@Array.getElem?_append_left
abbrev Jx:=@Nat.lt_trichotomy
abbrev JT:=@List.getElem?_set_ne
abbrev Kd:=@List.append_cancel_left
abbrev Kf:=@Nat.or_lt_two_pow
abbrev Kp:=@List.map_id
abbrev Ks:=@List.take_append
abbrev Kx:=@Nat.shiftLeft_zero
abbrev KB:=@Nat.xor_lt_two_pow
abbrev KK:=@Nat.add_le_add_left
abbrev Lk:=@List.map_flatMap
abbrev Ln:=@Bool.not_false
abbrev Lo:=@Bool.not_true
abbrev Lq:=@List.mem_range
abbrev Ly:=@List.mem_of_find?_eq_some
abbrev Lz:=@List.getElem_inj
abbrev LI:=@Option.none_or
abbrev LL:=@List.pairwise_singleton
abbrev LN:=@List.getElem?_eq_none
abbrev LO:=@Nat.sub_self
abbrev LR:=@Prod.mk.injEq
abbrev LS:=@List.take_succ_eq_append_getElem
abbrev Mb:=@Int.ofNat_tmod
abbrev Mn:=@List.take_take
abbrev Mu:=@ByteArray.ext_iff
abbrev My:=@List.takeWhile_cons
abbrev Mz:=@List.getElem?_set
abbrev MA:=@List.getElem?_toArray
abbrev MD:=@List.toList_toArray
abbrev MT:=@Nat.lt_or_gt_of_ne
abbrev MY:=@Nat.add_sub_cancel
abbrev N2:=@List.foldl_nil
abbrev N3:=@List.mem_map_of_mem
abbrev N4:=@List.range_succ
abbrev N5:=@List.flatten_append
abbrev N6:=@List.pairwise_map
abbrev Nd:=@Nat.one_mul
abbrev No:=@List.take_append_of_le_length
abbrev Nx:=@Array.ext'
abbrev NO:=@Nat.shiftLeft_eq
abbrev NX:=@Nat.log2_lt
abbrev Of:=@Int.natAbs_natCast
abbrev On:=@ByteArray.ext
abbrev OF:=@Bool.and_false
abbrev OK:=@List.filter_append
abbrev ON:=@List.filter_map
abbrev OR:=@List.set_getElem_self
abbrev OS:=@Nat.min_eq_right
abbrev P0:=@List.not_mem_nil
abbrev P2:=@Int.ofNat_tdiv
abbrev P3:=@List.drop_length
abbrev P4:=@List.mapM_cons
abbrev Pa:=@Option.bind_some
abbrev Pc:=@Array.getElem?_push_lt
abbrev Pl:=@Array.getElem?_push_size
abbrev PA:=@List.drop_eq_nil_of_le
abbrev PB:=@List.drop_append
abbrev PC:=@Array.size_setIfInBounds
abbrev PF:=@List.map_set
abbrev PJ:=@List.length_set
abbrev R0:=@List.find?_some
abbrev R1:=@List.findSome?_cons
abbrev R2:=@List.findSome?_eq_none_iff
abbrev Rg:=@Nat.pow_le_pow_right
abbrev Rr:=@List.pairwise_cons
abbrev RC:=@Nat.lt_of_le_of_lt
abbrev RE:=@Nat.div_le_self
abbrev RK:=@Array.toList_push
abbrev RM:=@List.map_nil
abbrev RR:=@Nat.le_log2
abbrev RT:=@Nat.mul_lt_mul_of_pos_right
abbrev RW:=@List.reverse_cons
abbrev Se:=@Nat.pow_pos
abbrev Sf:=@Nat.le_of_not_lt
abbrev Sh:=@ByteArray.data_extract
abbrev Sp:=@Array.toList_extract
abbrev Ss:=@List.all_append
abbrev SD:=@Bool.eq_false_iff
abbrev SJ:=@Bool.false_or
abbrev SM:=@List.nodup_iff_pairwise_ne
abbrev SO:=@List.getLast?_concat
abbrev SP:=@List.mem_of_getLast?
abbrev SR:=@List.range_eq_range'
abbrev T4:=@Nat.add_sub_cancel_left
abbrev T6:=@List.length_eq_zero_iff
abbrev Tl:=@List.append_eq_nil_iff
abbrev To:=@List.mem_or_eq_of_mem_set
abbrev Ts:=@Nat.div_div_eq_div_mul
abbrev TO:=@Int.fdiv_eq_ediv_of_nonneg
abbrev TX:=@List.take_eq_take_iff
abbrev UP:=@List.setIfInBounds_toArray
abbrev V0:=@Array.mapM_eq_mapM_toList
abbrev Vc:=@Nat.le_of_ble_eq_true
abbrev Wa:=@List.filterMap_cons
abbrev Wb:=@Array.mem_of_getElem?
abbrev Wf:=@List.getElem?_cons_succ
abbrev Wr:=@List.takeWhile_sublist
abbrev Xs:=@List.set_append_left
abbrev Zs:=@List.drop_set_of_lt
abbrev ZS:=@List.set_eq_take_append_cons_drop
abbrev A03:=@Bool.and_eq_false_iff
abbrev A04:=@List.getElem?_concat_length
abbrev A05:=@List.getElem?_take_of_lt
abbrev A07:=@List.exists_of_findSome?_eq_some
abbrev A09:=@List.mem_of_mem_erase
abbrev A0b:=@List.cons_lt_cons_iff
abbrev A0e:=@Array.toList_eraseIdx
abbrev A0m:=@List.drop_append_of_le_length
abbrev A0n:=@List.length_filter_le
abbrev A0p:=@Array.getElem?_toList
abbrev A0q:=@List.length_eraseIdx_le
abbrev A0D:=@Nat.two_pow_add_eq_or_of_lt
abbrev A0G:=@List.length_mergeSort
abbrev A0H:=@ByteArray.size_extract
abbrev A0L:=@List.getElem?_singleton
structure al where
 tape:Nat->Question->Nat
 os:Os
 output:Array (Nat×A2M)
abbrev aa:=Array Obj
abbrev A2L:=J0->aa->Prop
def al.at(A:al)(a:aa)(b:Nat):World:= {heap:=a,tape:=A.tape,drawn:=b,os:=A.os,output:=A.output}
abbrev Fw(r:Option Nat):Fence:= {fn:=λ_=>True,depth:=none,alive:=false,round:=r}
theorem ARP(r:Option Nat)(a:Nat):(Fw r).room a:=λ_ b=>by simp at b
theorem XG {r:Option Nat}{c:Nat}{P:Q1}{f:Q8}{args:Array J0}{a:World}{b:Ending->World->Prop}:
  CallsIn (Fw r) c P f args a b↔Calls P f args a b:=callsIn_wide
def lO(P:Q1)(l:Nat)(f:Q8)(tmps:Array J0)(assign body:Code)(a:World)(b:J0->World->Prop):Prop:=
 RoundIn (Fw none) 0 P l f tmps assign body a (λc d=> ∃v,c= .returned v/\b v d)
theorem lO.mono {P:Q1}{l:Nat}{f:Q8}{tmps:Array J0}{assign body:Code}{a:World}{b c:J0->World->Prop}
  (e:lO P l f tmps assign body a b) (g: ∀v d,b v d->c v d):lO P l f tmps assign body a c:=
 RoundIn.mono e λ_ _ ⟨v,h,i⟩=>⟨v,h,g _ _ i⟩
theorem AKf {r:Option Nat}{d:Nat}{P:Q1}{l:Nat}{f:Q8}{tmps:Array J0}{assign body:Code}{a:World}{b:Ending->World->Prop}
  (e:RoundIn (Fw none) 0 P l f tmps assign body a b):RoundIn (Fw r) d P l f tmps assign body a b:=
 ⟨trivial,λc g _=>e.2 c g (ARP none _)⟩
def Next.out(P:Q1)(K:J0->World->Prop):Result Next->Prop
 | .ok (.value v) a=>K v a
 | .ok .skip a=>K undef a
 | .ok (.enter f args) a=>Calls P f args a (λb c=> ∃v,b= .returned v/\K v c)
 | .ok (.round l f tmps assign body) a=>lO P l f tmps assign body a K
 |_=>False
def EV(P:Q1)(a:Oper)(b:Operand->J0)(c:World)(K:J0->World->Prop):Prop:=Next.out P K ((execOp b a).run P c)
theorem Next.dy {P:Q1}{K d:J0->World->Prop}(c: ∀v b,K v b->d v b){x:Result Next}(a:Next.out P K x):Next.out P d x:=by
 cases x with
 |ok e b=>
  cases e<;>simp only[Next.out] at a ⊢ <;>
   first
    |exact c _ _ a
    |exact Calls.mono a λ_ _ ⟨v,f,g⟩=>⟨v,f,c _ _ g⟩
    |exact lO.mono a c
 |halt x b=>simp only[Next.out] at a
theorem EV.mono {P:Q1}{b:Oper}{c:Operand->J0}{a:World}{K d:J0->World->Prop}(e:EV P b c a K)(f: ∀v a,K v a->d v a):EV P b c a d:=Next.dy f e
def KU(a:Oper):Bool:=match a.op with| .defer _=>false| .select .. =>false|_=>true
theorem EV.wpIn {r:Option Nat}{m:Nat}{P:Q1}{b:Oper}{a:Act}{e:World}{K:Act->World->Prop}{j:Exit->Act->World->Prop}
  (hd:KU b=true) (d:EV P b a.eval e λv g=>K (a.put b.dst v) g):b.wpIn (Fw r) m P a e K j:=by
 refine⟨λ_ _=>trivial,?_⟩;have n:Oper.semAt r a.eval b=execOp a.eval b:=Oper.semAt_eq r a.eval b (λc o=>by simp[KU,o] at hd);show b.uponIn (Fw r) m P a K j ((Oper.semAt r a.eval b).run P e);rw[n];unfold EV at d;generalize (execOp a.eval b).run P e=x at d;cases x with
 |ok k g=>
  cases k<;>simp only[Next.out] at d<;>simp only[Oper.uponIn]
  case value v=>exact d
  case skip=>exact d
  case enter f args=>
   refine⟨λh=>by simp at h,XG.2 (Calls.mono d ?_)⟩;rintro p q ⟨v,rfl,i⟩;exact i
  case round l f tmps assign body=>
   refine⟨λh=>by simp at h,AKf (RoundIn.mono d ?_)⟩;rintro p q ⟨v,rfl,i⟩;exact i
 |halt k g=>simp only[Next.out] at d
section
variable {P : Q1} {A : al} {r : Option Nat} {ops : Array Oper}
def iL(P:Q1)(A:al)(c:Oper)(d:Operand->J0)(v:J0)(a:aa):Prop:= ∀b,(execOp d c).run P (A.at a b)= .ok (.value v) (A.at a b)
def un(b:Nat->Nat->Bool)(i a:Nat):Bool:= !(b (max i a) (min i a))
def Jo(a:Oper):Prop:= ∀c b,a.op≠ .select c b
def pK(ops:Array Oper):Nat->Nat->Bool:=
 let b:=Region.before ops
 λi a=>(b.getD i 0).testBit a
end
section
variable {P : Q1} {A : al} {r : Option Nat} {ops : Array Oper} {qb : Oper -> Bool} {ord : Nat -> Nat -> Bool}
def left(a:Nat)(listed:Array Bool):List Nat:=(List.range a).filter λi=> !listed.getD i false
theorem mem_left {a:Nat}{listed:Array Bool}{i:Nat}:i∈left a listed↔i<a/\listed.getD i false=false:=by simp[left]
theorem range_split {n i:Nat}(c:i<n):List.range n=List.range i++i::(List.range' (i+1) (n-i-1)):=by
 rw[SR,SR];have a:List.range' 0 n=List.range' 0 i++List.range' i (n-i):=by have:=List.range'_append_1 (s:=0) (m:=i) (n:=n-i);rw[AI] at this;rw[this];congr 1;omega
 rw[a];congr 1;have b:n-i=(n-i-1)+1:=by omega
 rw[b,List.range'_succ];simp
theorem AKx {c i:Nat}{listed:Array Bool}(e:i<c)(j:listed.size=c)(g:listed.getD i false=false):
  ∃d f,left c listed=d++i::f/\left c (listed.setIfInBounds i true)=d++f/\ ∀a∈d,a<i/\listed.getD a false=false:=by
 refine⟨(List.range i).filter λa=> !listed.getD a false,(List.range' (i+1) (c-i-1)).filter λa=> !listed.getD a false,?_,?_,?_⟩
 ·unfold left;rw[range_split e,OK,AT];simp only[g,Ln,if_true]
 ·unfold left;have h:(listed.setIfInBounds i true).getD i false=true:=by
   have:i<listed.size:=by omega
   simp[this]
  rw[range_split e,OK,AT];simp only[h,Lo,CA,if_false];congr 1
  ·refine HI λa b=>?_
   have:=List.mem_range.1 b;rw[getD_set_ne false (by omega)]
  ·refine HI λa b=>?_
   have:=(List.mem_range'_1.1 b).1;rw[getD_set_ne false (by omega)]
 ·intro a b;simp only[List.mem_filter,Lq,CI] at b;exact b
def gQ(ord:Nat->Nat->Bool)(listed:Array Bool):Prop:= ∀a b,listed.getD a false=true->b<a->ord a b=true->listed.getD b false=true
theorem Yc {a:Oper}(c:KU a=true):Jo a:=λe b d=>by simp[KU,d] at c
theorem APC(a:Nat):left a (Array.replicate a false)=List.range a:=by unfold left;rw[List.filter_eq_self];intro i _;by_cases b:i<a<;>simp[b]
end
def ah(b:aa)(a:Q6):Option J0:=
 match b[a.block]? with
 |some (.cells c _ _)=>if a.spot.isSome then none else c[a.off]?
 |_=>none
def gh(b:aa)(a:Q6):Bool:=
 match b[a.block]? with
 |some (.cells _ _ (c,d))=>c<=a.off&&a.off<d
 |_=>false
def dk(b:aa)(a:Q6)(v:J0):aa:=
 b.modify a.block λ
  | .cells c d frozen=> .cells (if a.spot.isSome then c else c.setIfInBounds a.off v) d frozen
  |o=>o
theorem ARK(c:al)(b:aa)(d:Nat)(a:Q6):(c.at b d).cell? a=ah b a:=rfl
theorem fK(b:al)(c:aa)(d:Nat)(a:Q6)(v:J0):(b.at c d).setCell a v=b.at (dk c a v) d:=rfl
def At(p:Q2)(K:Q6->Prop):Prop:=match p with|some a=>K a|none=>False
def af(b:Bool)(a c:Prop):Prop:=match b with|true=>a|false=>c
def ao(a:aa)(b:Obj)(K:Nat->aa->Prop):Prop:=K a.size (a.push b)
def TA(b:aa)(a:Q6)(K:J0->Prop):Prop:= ∃v,ah b a=some v/\K v
def AC(c:IntKind)(d:aa)(a:Q6)(K:Int->Prop):Prop:= ∃b,ah d a=some (.int c b)/\K b
def AZ(c:aa)(a:Q6)(K:Bool->Prop):Prop:= ∃b,ah c a=some (.bool b)/\K b
def AJ(b:aa)(a:Q6)(K:A2M->Prop):Prop:= ∃s,ah b a=some (.string s)/\K s
def AY(b:aa)(a:Q6)(K:Q2->Prop):Prop:= ∃p,ah b a=some (.pointer p)/\K p
structure Sl where
 p:Q2
 len:Nat
 cap:Nat
def Sl.v(s:Sl):J0:= .slice s.p s.len s.cap
def Aa(b:aa)(a:Q6)(K:Sl->Prop):Prop:= ∃s:Sl,ah b a=some (.slice s.p s.len s.cap)/\K s
def AT8(c:FloatKind)(d:aa)(a:Q6)(K:Nat->Prop):Prop:= ∃b,ah d a=some (.float c b)/\K b
def AUI(c:FloatKind)(d:aa)(a:Q6)(K:Nat×Nat->Prop):Prop:= ∃b:Nat×Nat,ah d a=some (.complex c b.1 b.2)/\K b
def Fs(c:aa)(a:Q6)(K:Option Nat->Prop):Prop:= ∃b,ah c a=some (.map b)/\K b
def ae(b:aa)(a:Q6)(v:J0)(K:aa->Prop):Prop:=(∃ u,ah b a=some u)/\gh b a=false/\K (dk b a v)
def bE(p:Q2)(len:Nat)(i:Int)(K:Q6->Prop):Prop:= ∃a,p=some a/\(0<=i/\i<len)/\K a
def aG(c K:Prop):Prop:=c/\K
def ai {a:Type}(c:a->aa->Prop)(body:(a->aa->Prop)->Prop):Prop:= ∀K:a->aa->Prop,(∀ x b,c x b->K x b)->body K
def Loop {a:Type}(c:(a->aa->Prop)->a->aa->Prop)(x:a)(b:aa):Prop:= ∀K:a->aa->Prop,(∀ x b,c K x b->K x b)->K x b
def BG(a:al)(P:Q1)(m:Sem J0)(c:aa)(K:A2L):Prop:= ∀d,∃v b e,m.run P (a.at c d)= .ok v (a.at b e)/\K v b
def AA(a:al)(P:Q1)(f:Q8)(args:Array J0)(c:aa)(d:A2L):Prop:=
 ∀e,Calls P f args (a.at c e) λg h=> ∃v,g= .returned v/\ ∃b i,h=a.at b i/\d v b
theorem AA.mono {b:al}{P:Q1}{f:Q8}{args:Array J0}{a:aa}{c d:A2L}(e:AA b P f args a c)(g: ∀v a,c v a->d v a):AA b P f args a d:=
 λh=>Calls.mono (e h) λ_ _ ⟨v,i,j,k,l,m⟩=>⟨v,i,j,k,l,g _ _ m⟩
def Em(a:al)(P:Q1)(fv:J0)(args:Array J0)(d:aa)(e:A2L):Prop:=
 ∀f,Next.out P (λv g=> ∃b h,g=a.at b h/\e v b) ((do let c <-Deferred.ofValue fv args;invoke c.target c.args:Sem Next).run P (a.at d f))
def lR(a:al)(P:Q1)(c:J0)(name:String)(args:Array J0)(d:aa)(e:A2L):Prop:=
 ∀f,Next.out P (λv g=> ∃b h,g=a.at b h/\e v b) ((callMethod c name args:Sem Next).run P (a.at d f))
theorem Em.mono {b:al}{P:Q1}{fv:J0}{args:Array J0}{a:aa}{c d:A2L}(e:Em b P fv args a c)(f: ∀v a,c v a->d v a):Em b P fv args a d:=
 λg=>Next.dy (λ_ _ ⟨h,i,j,k⟩=>⟨h,i,j,f _ _ k⟩) (e g)
theorem UR {a b:Nat}(c:a≠b):Nat.beq a b=false:=by
 cases d:Nat.beq a b with
 |false=>rfl
 |true=>exact absurd (IH d) c
structure Env where
 get:Nat->Option J0
 ds:List Nat
def kJ(a:Nat):Deferred:= {target:= .collected a,args:= #[]}
structure Fits (N:Nat) (a:Act) (e:Env):Prop where
 size:a.tmps.size=N
 get: ∀t v,e.get t=some v->a.tmps[t]? =some v
 ds:a.defers=e.ds.map kJ
def Env.set(a:Env)(b:Nat)(v:J0):Env:= {get:=λt=>bif Nat.beq t b then some v else a.get t,ds:=a.ds}
def Env.put(b:Env)(a:Option Tmp)(v:J0):Env:=match a with|none=>b|some a=>b.set a v
def nH(N:Nat)(a:Option Tmp):Bool:=match a with|none=>true|some a=>Nat.blt a N
theorem Fits.set {N:Nat}{a:Act}{f:Env}(d:Fits N a f){c:Nat}{v:J0}(hd:c<N):Fits N (a.put (some c) v) (f.set c v):=by
 refine⟨by simp[Act.put,d.size],?_,d.ds⟩;intro t u b;unfold Env.set at b;simp only at b;by_cases e:t=c
 ·subst e;have:Nat.beq t t=true:=by simp
  rw[this] at b;simp only[cond_true,BT] at b;subst b;simp[Act.put,d.size,hd]
 ·have:Nat.beq t c=false:=UR e;rw[this] at b;simp only[cond_false] at b;have:=d.get t u b;simp only[Act.put];rw[DQ (Ne.symm e)];exact this
theorem Fits.put {N:Nat}{a:Act}{c:Env}(d:Fits N a c){b:Option Tmp}{v:J0}(hd:nH N b=true):Fits N (a.put b v) (c.put b v):=by
 cases b with
 |none=>exact d
 |some b=>exact d.set (by simpa [nH] using hd)
theorem Fits.py {N:Nat}{a:Act}{e:Env}(d:Fits N a e){c:Nat}{v:J0}(g:a.tmps[c]? =some v):Fits N a (e.set c v):=by
 refine⟨d.size,?_,d.ds⟩;intro t u b;unfold Env.set at b;simp only at b;by_cases f:t=c
 ·subst f;have:Nat.beq t t=true:=by simp
  rw[this] at b;simp only[cond_true,BT] at b;rw[<- b];exact g
 ·have:Nat.beq t c=false:=UR f;rw[this] at b;exact d.get t u b
def rdv(a:Env)(x:Operand):Option J0:=
 match x with
 | .tmp t=>a.get t
 | .const v=>some v
 | .global g=>some (.pointer (some ⟨g,0,none⟩))
 | .func f=>some (.func (.func f) #[] #[])
theorem Fits.rdv {N:Nat}{a:Act}{c:Env}(d:Fits N a c){x:Operand}{v:J0}(b:rdv c x=some v):a.eval x=v:=by
 cases x with
 |tmp t=>
  have:=d.get t v b;simp only[Act.eval];simp[this]
 |const u=>simpa [Lf.rdv,Act.eval] using b
 |global g=>simpa [Lf.rdv,Act.eval] using b
 |func f=>simpa [Lf.rdv,Act.eval] using b
def rd(a:Env)(x:Operand)(K:J0->Prop):Prop:=match rdv a x with|some v=>K v|none=>False
theorem BV {N:Nat}{a:Act}{c:Env}(e:Fits N a c){x:Operand}{K:J0->Prop}(b:rd c x K):K (a.eval x):=by
 unfold rd at b;cases d:rdv c x with
 |none=>rw[d] at b;exact b.elim
 |some v=>rw[d] at b;rw[e.rdv d];exact b
def ρof(a:Env)(x:Operand):J0:=match rdv a x with|some v=>v|none=>undef
def known(a:Env)(l:List Operand)(K:Prop):Prop:=match l with| []=>K|x::b=>(match rdv a x with|some _=>known a b K|none=>False)
theorem JI {N:Nat}{a:Act}{c:Env}(f:Fits N a c){K:Prop}: ∀ {l:List Operand},known c l K->(∀ x∈l,ρof c x=a.eval x)/\K
 | [],b=>⟨λ_ b=>(by cases b),b⟩
 |x::j,b=>by
  unfold known at b;cases d:rdv c x with
  |none=>rw[d] at b;exact b.elim
  |some v=>
   rw[d] at b;obtain⟨g,h⟩:=JI f b;refine⟨λi e=>?_,h⟩;rcases List.mem_cons.1 e with rfl|e
   ·unfold ρof;rw[d,f.rdv d]
   ·exact g i e
end Go.Lf
namespace Go
open Lf
def Sem.calc {b:Type}(P:Q1):Sem b->Option b
 | .pure a=>some a
 | .program f=>(f P).calc P
 |_=>none
end Go
namespace Go.Lf
theorem DN {e:Type}{P:Q1}{s:Sem e}: ∀ {a:e},s.calc P=some a-> ∀d,s.run P d= .ok a d:=by
 induction s with
 |pure a=>intro b c d;simp only[Sem.calc,BT] at c;subst c;rfl
 |program f g=>intro b c d;exact g P c d
 |_=>intro b c;simp only[Sem.calc] at c;cases c
def TG {b:Type}(P:Q1)(s:Sem b)(K:b->Prop):Prop:=match s.calc P with|some a=>K a|none=>False
theorem NG {d:Type}{P:Q1}{s:Sem d}{K:d->Prop}(b:TG P s K): ∃a,(∀ e,s.run P e= .ok a e)/\K a:=by
 unfold TG at b;cases c:s.calc P with
 |none=>rw[c] at b;exact b.elim
 |some a=>rw[c] at b;exact⟨a,DN c,b⟩
def MS:J0->Bool
 | .agg _| .tuple _=>false
 |_=>true
end Go.Lf
namespace Go
open Lf
def Sem.vc {e:Type}(P:Q1):Sem e->aa->(e->aa->Prop)->Prop
 | .pure a,c,K=>K a c
 | .program f,c,K=>(f P).vc P c K
 | .new g f,c,K=>ao c g λb d=>(f b).vc P d K
 | .load _ a f,c,K=>TA c a λv=>(f v).vc P c K
 | .store _ a v f,c,K=>match MS v with|true=>ae c a v λd=>f.vc P d K|false=>False
 | .mark _ f,c,K=>f.vc P c K
 |_,_,_=>False
end Go
namespace Go.Lf
theorem tA {c:Type}{A:al}{P:Q1}{m:Mode}{a:Q6}{v u:J0}{f:Sem c}{b:aa}{n:Nat}(d:MS v=true)(e:ah b a=some u)(g:gh b a=false):
  (Sem.store m a v f).run P (A.at b n)=f.run P (A.at (dk b a v) n):=by
 have h:(A.at b n).cell? a=some u:=e;have i:(A.at b n).frozen? a=false:=g;cases v<;>first|(simp[MS] at d;done)|(simp[Sem.run,h,i,fK])
theorem AO4 {o:Type}{A:al}{P:Q1}{s:Sem o}: ∀ {d:aa} {K:o->aa->Prop},s.vc P d K-> ∀e,∃v h i,s.run P (A.at d e)= .ok v (A.at h i)/\K v h:=by
 induction s with
 |pure a=>intro d K b e;exact⟨a,d,e,rfl,b⟩
 |program f g=>intro d K b e;exact g P b e
 |mark m f g=>intro d K b e;exact g b e
 |new q f g=>intro d K b e;exact g _ b e
 |load m a f g=>
  intro d K b e;obtain⟨v,r,b⟩:=b;obtain⟨j,h,i,k,l⟩:=g v b e;refine⟨j,h,i,?_,l⟩;simp only[Sem.run,ARK,r];exact k
 |store m a v f g=>
  intro d K b e;unfold Sem.vc at b;cases n:MS v with
  |false=>rw[n] at b;exact b.elim
  |true=>
   rw[n] at b;obtain⟨⟨u,t⟩,w,b⟩:=b;obtain⟨j,h,i,k,l⟩:=g b e;refine⟨j,h,i,?_,l⟩;rw[tA n t w];exact k
 |shape p f _=>intro d K b;exact b.elim
 |freeze a e f _=>intro d K b;exact b.elim
 |frozen a f _=>intro d K b;exact b.elim
 |getObj p f _=>intro d K b;exact b.elim
 |setObj p q f _=>intro d K b;exact b.elim
 |choose y f _=>intro d K b;exact b.elim
 |sys c f _=>intro d K b;exact b.elim
 |halt x=>intro d K b;exact b.elim
inductive Sc where
 |int (k:IntKind)|bool|str|ptr|sl|map|any|js (k:FloatKind)|jt (k:FloatKind)
def Sc.Ty:Sc->Type
 | .int _=>Int
 | .bool=>Bool
 | .str=>A2M
 | .ptr=>Q2
 | .sl=>Sl
 | .map=>Option Nat
 | .any=>J0
 | .js _=>Nat
 | .jt _=>Nat×Nat
def Sc.val:(s:Sc)->s.Ty->J0
 | .int c,(a:Int)=> .int c a
 | .bool,(b:Bool)=> .bool b
 | .str,(s:A2M)=> .string s
 | .ptr,(p:Q2)=> .pointer p
 | .sl,(s:Sl)=> .slice s.p s.len s.cap
 | .map,(d:Option Nat)=> .map d
 | .any,(v:J0)=>v
 | .js c,(a:Nat)=> .float c a
 | .jt c,(a:Nat×Nat)=> .complex c a.1 a.2
def Sc.load(b:aa)(a:Q6):(s:Sc)->(s.Ty->Prop)->Prop
 | .int c,K=>AC c b a K
 | .bool,K=>AZ b a K
 | .str,K=>AJ b a K
 | .ptr,K=>AY b a K
 | .sl,K=>Aa b a K
 | .map,K=>Fs b a K
 | .any,K=>TA b a K
 | .js c,K=>AT8 c b a K
 | .jt c,K=>AUI c b a K
theorem Sc.cC {c:aa}{a:Q6}: ∀ {s:Sc} {K:s.Ty->Prop},s.load c a K-> ∃x,ah c a=some (s.val x)/\K x
 | .int _,_,b=>b
 | .bool,_,b=>b
 | .str,_,b=>b
 | .ptr,_,b=>b
 | .sl,_,b=>b
 | .map,_,b=>b
 | .any,_,b=>b
 | .js _,_,b=>b
 | .jt _,_,b=>b
def pM(b:aa)(a:Q6):Nat->List Sc->(List J0->Prop)->Prop
 |_,[],K=>K []
 |i,s::l,K=>s.load b (a.add i) λx=>pM b a (i+1) l λc=>K (s.val x::c)
def pN:List Sc->(List J0->Prop)->Prop
 | [],K=>K []
 |s::l,K=> ∃x:s.Ty,pN l λa=>K (s.val x::a)
theorem tB: ∀ {l:List Sc} {K:List J0->Prop},pN l K-> ∃b,K b
 | [],_,a=>⟨[],a⟩
 |_::_,_,⟨_,a⟩=>let ⟨b,c⟩:=tB a;⟨_,c⟩
def jN(P:Q1):Nat->Q7->List Sc
 |0,_=> []
 |d+1,t=>
  match P.underlying t with
  |some .bool=> [.bool]
  |some (.int a)=> [.int a]
  |some (.float a)=> [.js a]
  |some (.complex a)=> [.jt a]
  |some .string=> [.str]
  |some (.pointer _)=> [.ptr]
  |some (.slice _)=> [.sl]
  |some (.map _ _)=> [.map]
  |some (.struct b)=>b.toList.flatMap λf=>jN P d f.type
  |some (.array c e)=>(List.replicate c (jN P d e)).flatten
  |_=> [.any]
def XQ(P:Q1)(t:Q7):Bool:=match P.underlying t with|some (.struct _)=>true|some (.array _ _)=>true|_=>false
mutual
def nI(P:Q1):Nat->Q7->(J0->Prop)->Prop
 |0,_,K=> ∃v,K v
 |d+1,t,K=>
  match P.underlying t with
  |some (.tuple ts)=>nJ P d ts.toList λa=>K (.tuple a.toArray)
  |_=>match XQ P t with
   |true=>pN (jN P 20 t) λa=>K (.agg a.toArray)
   |false=>match jN P 20 t with
    | [s]=> ∃x:s.Ty,K (s.val x)
    |_=>False
def nJ(P:Q1):Nat->List Q7->(List J0->Prop)->Prop
 |_,[],K=>K []
 |0,_::_,_=>False
 |d+1,t::ts,K=>nI P d t λu=>nJ P d ts λa=>K (u::a)
end
theorem APQ(P:Q1): ∀b,(∀ (t:Q7) (K:J0->Prop),nI P b t K-> ∃v,K v)/\(∀ (ts:List Q7) (K:List J0->Prop),nJ P b ts K-> ∃f,K f):=by
 intro b
 induction b with
 |zero=>
  refine⟨λt K a=>a,λts K a=>?_⟩;cases ts with
  |nil=>exact⟨[],a⟩
  |cons t ts=>exact a.elim
 |succ b c=>
  refine⟨λt K a=>?_,λts K a=>?_⟩
  ·unfold nI at a;split at a
   ·exact let ⟨e,d⟩:=c.2 _ _ a;⟨_,d⟩
   ·split at a
    ·exact let ⟨e,d⟩:=tB a;⟨_,d⟩
    ·split at a
     ·exact let ⟨x,g⟩:=a;⟨_,g⟩
     ·exact a.elim
  ·cases ts with
   |nil=>exact⟨[],a⟩
   |cons t ts=>
    unfold nJ at a;obtain⟨u,a⟩:=c.1 _ _ a;obtain⟨e,a⟩:=c.2 _ _ a;exact⟨_,a⟩
def Pf(P:Q1)(t:Q7)(v:J0)(K:J0->Prop):Prop:=nI P 8 t λu=>v=u/\K u
theorem Me {P:Q1}{t:Q7}{v:J0}{K:J0->Prop}(a:Pf P t v K):K v:=by obtain⟨u,rfl,a⟩:=(APQ P 8).1 _ _ a;exact a
def bR(a b:A2M):Bool:=a.toList==b.toList
def aO(a b:A2M):Bool:=Op.bytesLess a.toList b.toList
def du(s:A2M)(i:Int):Int:=((s[i.toNat]?).getD 0).toNat
def Vq(P:Q1)(t:Q7)(a:Operand):Bool:=
 match P.underlying t with
 |some (.pointer _)=>match a with| .const (.pointer none)=>true|_=>false
 |some (.slice _)=>match a with| .const (.slice none 0 0)=>true|_=>false
 |some (.map _ _)=>match a with| .const (.map none)=>true|_=>false
 |some (.func _ _ _)=>match a with| .const .nilFunc=>true|_=>false
 |some (.interface _)=>match a with| .const .nilIface=>true|_=>false
 |_=>false
def jO:J0->Prop
 | .func .. =>True
 | .nilFunc=>True
 |_=>False
def Xh:J0->Bool
 | .nilFunc=>true
 |_=>false
def lS:J0->Prop
 | .iface .. =>True
 | .nilIface=>True
 |_=>False
def Zw:J0->Bool
 | .nilIface=>true
 |_=>false
def lT(P:Q1)(t:Q7)(v:J0)(K:Bool->Prop):Prop:=
 match P.underlying t with
 |some (.pointer _)=>match v with| .pointer p=>K p.isNone|_=>False
 |some (.slice _)=>match v with| .slice p _ _=>K p.isNone|_=>False
 |some (.map _ _)=>match v with| .map a=>K a.isNone|_=>False
 |some (.func _ _ _)=>aG (jO v) (K (Xh v))
 |some (.interface _)=>aG (lS v) (K (Zw v))
 |_=>False
def Wd(a:BinOp)(b:Bool):J0:=match a with| .eql=> .bool b|_=> .bool !b
def pO(d:BinOp)(v u:J0)(K:J0->Prop):Prop:=
 match v,u with
 | .int c a,.int e b=>
  match decide (c=e) with
  |true=>match d with
   | .quo=>aG (b≠0) (K (.int c (c.wrap (a.tdiv b))))
   | .rem=>aG (b≠0) (K (.int c (a.tmod b)))
   |_=>False
  |false=>False
 |_,_=>False
def pP(d:BinOp)(v u:J0)(K:J0->Prop):Prop:=
 match v,u with
 | .int c a,.int _ b=>
  match d with
  | .shl=>aG (0<=b) (K (.int c (c.wrap (a*2^(min b.toNat c.bits)))))
  | .shr=>aG (0<=b) (K (.int c (a.fdiv (2^(min b.toNat c.bits)))))
  |_=>False
 |_,_=>False
def pQ(v u:J0)(K:J0->Prop):Prop:=
 match v,u with
 | .string a,.string b=>aG (((a.size+b.size:Nat):Int)<=IntKind.i64.max) (K (.string (a++b)))
 |_,_=>False
inductive ATI where
 |eB|div|shift|cat|ju|jv|no
def isConst:Operand->Bool
 | .const _=>true
 |_=>false
def VD(P:Q1)(b:BinOp)(t:Q7)(x a:Operand):ATI:=
 match b with
 | .quo| .rem=>match P.underlying t with|some (.int _)=>(match isConst a with|true=> .eB|false=> .div)|_=> .no
 | .shl| .shr=>match isConst a with|true=> .eB|false=> .shift
 | .add=>match P.underlying t with|some .string=> .cat|some (.int _)=> .eB|_=> .no
 | .eql| .neq=>
  match P.underlying t with
  |some (.int _)=> .eB
  |some .string=> .eB
  |some .bool=> .eB
  |some (.pointer _)|some (.slice _)|some (.map _ _)|some (.func _ _ _)|some (.interface _)=>(match Vq P t a with|true=> .ju|false=>match Vq P t x with|true=> .jv|false=> .no)
  |_=> .no
 |_=>match P.underlying t with|some (.int _)=> .eB|some .string=> .eB|_=> .no
def pR(P:Q1)(a:BinOp)(t:Q7)(x c:Operand)(v u:J0)(K:J0->Prop):Prop:=
 match VD P a t x c with
 | .eB=>TG P (do eqGuard a t x c v u;binOp a t v u) K
 | .div=>pO a v u K
 | .shift=>pP a v u K
 | .cat=>pQ v u K
 | .ju=>lT P t v λb=>K (Wd a b)
 | .jv=>lT P t u λb=>K (Wd a b)
 | .no=>False
def pS(P:Q1)(t:Q7)(v i:J0)(K:J0->Prop):Prop:=
 match P.underlying t with
 |some (.slice c)=>match v,i,P.info? c with
  | .slice p len _,.int _ b,some d=>bE p len b λa=>K (.pointer (some (a.add (b.toNat*d.size))))
  |_,_,_=>False
 |some (.array len c)=>match v,i,P.info? c with
  | .pointer p,.int _ b,some d=>At p λa=>aG (0<=b/\b<(len:Int)) (K (.pointer (some (a.add (b.toNat*d.size)))))
  |_,_,_=>False
 |_=>False
def pT(P:Q1)(t:Q7)(v i:J0)(K:J0->Prop):Prop:=
 match P.underlying t with
 |some .string=>match v,i with
  | .string s,.int _ a=>aG (0<=a/\a<(s.size:Int)) (K (.int .u8 (du s a)))
  |_,_=>False
 |some (.array _ _)=>TG P (Instr.index t v i) K
 |_=>False
def gR(x:Option J0)(b max:Nat)(K:Nat->Prop):Prop:=
 match x with
 |some (.int _ a)=>aG (0<=a/\a<=(max:Int)) (K a.toNat)
 |none=>K b
 |_=>False
def A7(p:Q2)(a l b:Nat):Q2:=if a=l then p else p.map (·.add (l*b))
def pU(P:Q1)(t:Q7)(v:J0)(d e:Option J0)(K:J0->Prop):Prop:=
 match P.underlying t with
 |some .string=>match v with
  | .string s=>gR e s.size s.size λb=>gR d 0 b λl=>K (.string (s.extract l b))
  |_=>False
 |some (.slice f)=>match v,P.info? f with
  | .slice p len g,some h=>gR e len g λb=>gR d 0 b λl=>K (.slice (A7 p g l h.size) (b-l) (g-l))
  |_,_=>False
 |some (.array c f)=>match v,P.info? f with
  | .pointer p,some h=>At p λa=>gR e c c λb=>gR d 0 b λl=>K (.slice (some (if c=l then a else a.add (l*h.size))) (b-l) (c-l))
  |_,_=>False
 |_=>False
def pV(P:Q1)(t:Q7)(v:J0)(c d:Option J0)(e:J0)(K:J0->Prop):Prop:=
 match P.underlying t with
 |some (.slice f)=>match v,P.info? f,d,e with
  | .slice p _ g,some h,some (.int _ b),.int _ a=>aG (0<=a/\a<=(g:Int)) (aG (0<=b/\b<=(a.toNat:Int)) (gR c 0 b.toNat λl=>K (.slice (A7 p a.toNat l h.size) (b.toNat-l) (a.toNat-l))))
  |_,_,_,_=>False
 |_=>False
def pW(c:Bool)(a b:Option J0)(K:J0->Prop):Prop:=
 match a,b with
 |some (.bool x),some (.bool d)=>K (.bool (cond c x d))
 |some x,some d=>af c (K x) (K d)
 |some x,none=>af c (K x) False
 |none,some d=>af c False (K d)
 |none,none=>False
def tC(v:J0)(K:J0->Prop):Prop:=
 match v with
 | .pointer p=>At p λa=>K (.pointer (some a))
 |_=>False
def lU(a:Env)(x:Option Operand)(K:Option J0->Prop):Prop:=match x with|none=>K none|some x=>rd a x λv=>K (some v)
def Ze(b:Bool)(K:Prop):Prop:=match b with|true=>K|false=>False
def lV(P:Q1)(t:Q7)(v:J0)(K:Array J0->Prop):Prop:=
 match XQ P t with
 |true=>K v.cells
 |false=>Ze (MS v) (K #[v])
theorem AK0 {v:J0}(a:MS v=true):v.cells= #[v]:=by cases v<;>first|rfl|(simp[MS] at a)
theorem Rj {P:Q1}{t:Q7}{v:J0}{K:Array J0->Prop}(a:lV P t v K):K v.cells:=by
 unfold lV at a;split at a
 ·exact a
 ·cases b:MS v with
  |false=>rw[b] at a;exact a.elim
  |true=>rw[b] at a;rw[AK0 b];exact a
def kK(b:Nat->Option (Nat×Nat))(cells:Array J0):List (Nat×Array J0)->Option (Array J0)
 | []=>some cells
 |(i,a)::rest=>
  match b i with
  |none=>none
  |some (off,d)=>
   if a.size≠d||off+a.size>cells.size then none
   else kK b (a.zipIdx.foldl (λe (c,f)=>e.setIfInBounds (off+f) c) cells) rest
theorem nK(a:Nat->Option (Nat×Nat)): ∀(l:List (Nat×J0)) (cells:Array J0),Instr.fill a cells l=kK a cells (l.map λp=>(p.1,p.2.cells))
 | [],cells=>rfl
 |(i,v)::rest,cells=>by
  simp only[Instr.fill,BW,kK];cases a i with
  |none=>rfl
  |some p=>obtain⟨off,b⟩:=p;simp only[];split<;>first|rfl|exact nK a rest _
def AS5(P:Q1)(t:Q7)(i:Nat):Option Q7:=
 match P.underlying t with
 |some (.struct b)=>(b[i]?).map (·.type)
 |some (.array _ a)=>some a
 |some (.slice a)=>some a
 |_=>none
def lW(P:Q1)(t:Q7)(a:Env):List (Nat×Operand)->(List (Nat×Array J0)->Prop)->Prop
 | [],K=>K []
 |(i,x)::b,K=>match AS5 P t i with
  |some ft=>rd a x λv=>lV P ft v λc=>lW P t a b λl=>K ((i,c)::l)
  |none=>False
def placesOf(P:Q1):List Field->Option (List (Nat×Nat))
 | []=>some []
 |f::a=>match P.info? f.type with
  |some i=>match placesOf P a with
   |some l=>some ((f.offset,i.size)::l)
   |none=>none
  |none=>none
def pX(P:Q1)(t:Q7)(a:List (Nat×Array J0)):Option (Array J0):=
 match P.info? t with
 |some i=>match i.zero with
  |some z=>match P.underlying t with
   |some (.struct c)=>match placesOf P c.toList with
    |some l=>kK (l.toArray[·]?) z.cells a
    |none=>none
   |some (.array _ d)=>match P.info? d with
    |some b=>kK (λe=>some (e*b.size,b.size)) z.cells a
    |none=>none
   |_=>none
  |none=>none
 |none=>none
def ASd(P:Q1)(t:Q7)(a:Array (Nat×Operand))(b:Env)(K:J0->Prop):Prop:=
 lW P t b a.toList λl=>match pX P t l with|some cells=>K (.agg cells)|none=>False
def nL(P:Q1)(e:Oper)(d:Env)(K:J0->Prop):Prop:=
 match e.op with
 | .nilCheck x=>rd d x λv=>tC v K
 | .binOp k t x g _=>rd d x λv=>rd d g λu=>pR P k t x g v u K
 | .indexAddr t x i=>rd d x λv=>rd d i λu=>pS P t v u K
 | .index t x i=>rd d x λv=>rd d i λu=>pT P t v u K
 | .slice t x h j n=>match n with
  |none=>rd d x λv=>lU d h λl=>lU d j λf=>pU P t v l f K
  |some m=>rd d x λv=>lU d h λl=>lU d j λf=>rd d m λo=>pV P t v l f o K
 | .pick c a b=>rd d c λv=>match v with| .bool c=>pW c (rdv d a) (rdv d b) K|_=>False
 | .build t q=>ASd P t q d K
 | .fieldAddr t x i=>rd d x λv=>match v with| .pointer p=>At p λa=>TG P (Instr.fieldAt t (.pointer (some a)) i) K|_=>False
 |_=>known d e.op.operands.toList (TG P (execOp (ρof d) e) λx=>match x with| .value v=>K v|_=>False)
theorem At.mk {p:Q2}{K:Q6->Prop}(b:At p K): ∃a,p=some a/\K a:=by
 cases p with
 |none=>exact b.elim
 |some a=>exact⟨a,rfl,b⟩
theorem ja {P:Q1}{s:Sem J0}{v:J0}{w a:World}(b:s.run P w= .ok v a):(do pure (.value (<- s)):Sem Next).run P w= .ok (.value v) a:=by rw[Sem.run_bind,b];rfl
theorem AUC {P:Q1}{s:Sem Unit}{w a:World}(b:s.run P w= .ok () a):(do s;pure .skip:Sem Next).run P w= .ok .skip a:=by rw[Sem.run_bind,b];rfl
section
variable {P : Q1} {w : World}
theorem BN {t:Q7}{a:TypeDesc}(b:P.underlying t=some a):(underlying t).run P w= .ok a w:=run_underlying b w
theorem tD {t:Q7}{i:TypeInfo}(a:P.info? t=some i):(typeInfo t).run P w= .ok i w:=by simp[typeInfo,a]
theorem run_sizeOf {t:Q7}{i:TypeInfo}(a:P.info? t=some i):(sizeOf t).run P w= .ok i.size w:=by simp[sizeOf,tD a]
def Ue(P:Q1)(t:Q7):Option J0:=
 match P.underlying t with
 |some (.pointer _)=>some (.pointer none)
 |some (.slice _)=>some (.slice none 0 0)
 |some (.map _ _)=>some (.map none)
 |some (.func _ _ _)=>some .nilFunc
 |some (.interface _)=>some .nilIface
 |_=>none
theorem YI {t:Q7}{b:Operand}(a:Vq P t b=true): ∃u,b= .const u/\Ue P t=some u:=by unfold Vq at a;unfold Ue;split at a<;>first|(cases a;done)|(split at a<;>first|(cases a;done)|exact⟨_,rfl,rfl⟩)
theorem AGe(g:Nat){t:Q7}{v u:J0}{K:Bool->Prop}(c:lT P t v K)(d:Ue P t=some u):
  ∃b,(∀ w,(Op.equalIn (g+1) t v u).run P w= .ok b w)/\(∀ w,(Op.equalIn (g+1) t u v).run P w= .ok b w)/\K b:=by
 unfold lT at c;unfold Ue at d;cases e:P.underlying t with
 |none=>rw[e] at c;exact c.elim
 |some i=>
  rw[e] at c d;cases i<;>simp only[] at c d<;>try exact c.elim
  case pointer h=>
   simp only[BT] at d;subst d;cases v<;>simp only[] at c<;>try exact c.elim
   case pointer p=>
    refine⟨_,λw=>?_,λw=>?_,c⟩
    ·cases p<;>simp[Op.equalIn,BN e]
    ·cases p<;>simp[Op.equalIn,BN e]
  case slice h=>
   simp only[BT] at d;subst d;cases v<;>simp only[] at c<;>try exact c.elim
   case slice p a b=>
    refine⟨_,λw=>?_,λw=>?_,c⟩
    ·cases p<;>simp[Op.equalIn,BN e]
    ·cases p<;>simp[Op.equalIn,BN e]
  case map j h=>
   simp only[BT] at d;subst d;cases v<;>simp only[] at c<;>try exact c.elim
   case map p=>
    refine⟨_,λw=>?_,λw=>?_,c⟩
    ·cases p<;>simp[Op.equalIn,BN e]
    ·cases p<;>simp[Op.equalIn,BN e]
  case func ps k l=>
   simp only[BT] at d;subst d;obtain⟨f,c⟩:=c;cases v<;>simp only[jO] at f
   ·refine⟨_,λw=>?_,λw=>?_,c⟩<;>simp[Op.equalIn,BN e,Xh]
   ·refine⟨_,λw=>?_,λw=>?_,c⟩<;>simp[Op.equalIn,BN e,Xh]
  case interface m=>
   simp only[BT] at d;subst d;obtain⟨f,c⟩:=c;cases v<;>simp only[lS] at f
   ·refine⟨_,λw=>?_,λw=>?_,c⟩<;>simp[Op.equalIn,BN e,Zw]
   ·refine⟨_,λw=>?_,λw=>?_,c⟩<;>simp[Op.equalIn,BN e,Zw]
end
section
variable {P : Q1}
def PR(P:Q1)(s:Sem J0)(K:J0->Prop):Prop:= ∃v,(∀ a,s.run P a= .ok v a)/\K v
theorem AFB {N:Nat}{a:Act}{c:Env}(f:Fits N a c){o:Oper}{K:J0->Prop}(g:Jo o)
  (h:known c o.op.operands.toList (TG P (execOp (ρof c) o) λx=>match x with| .value v=>K v|_=>False)):
  ∃v,(∀ d,(execOp a.eval o).run P d= .ok (.value v) d)/\K v:=by
 obtain⟨i,j⟩:=JI f h;obtain⟨x,b,e⟩:=NG j;rw[execOp_congr o g (λx b=>i x (by simpa using b))] at b;cases x<;>simp only[] at e
 exact⟨_,b,e⟩
theorem ANE {d:BinOp}{t:Q7}{x g:Operand}{v u:J0}{K:J0->Prop}(h:d= .quo\/d= .rem)(c:pO d v u K):PR P (do eqGuard d t x g v u;binOp d t v u) K:=by
 unfold pO at c;cases v<;>cases u<;>simp only[] at c<;>try exact c.elim
 rename_i i a j b;by_cases f:i=j
 ·subst f;rcases h with rfl|rfl
  ·simp only[decide_true] at c;obtain⟨e,c⟩:=c;exact⟨_,λk=>by simp[eqGuard,binOp,Op.intDiv,e],c⟩
  ·simp only[decide_true] at c;obtain⟨e,c⟩:=c;exact⟨_,λk=>by simp[eqGuard,binOp,Op.intDiv,e],c⟩
 ·rw[decide_eq_false f] at c;exact c.elim
theorem AQO {b:BinOp}{t:Q7}{x d:Operand}{v u:J0}{K:J0->Prop}(e:b= .shl\/b= .shr)(a:pP b v u K):PR P (do eqGuard b t x d v u;binOp b t v u) K:=by
 unfold pP at a;cases v<;>cases u<;>simp only[] at a<;>try exact a.elim
 rcases e with rfl|rfl
 ·simp only[] at a;obtain⟨c,a⟩:=a;exact⟨_,λf=>by simp[eqGuard,binOp,Op.shift,Int.not_lt.2 c],a⟩
 ·simp only[] at a;obtain⟨c,a⟩:=a;exact⟨_,λf=>by simp[eqGuard,binOp,Op.shift,Int.not_lt.2 c],a⟩
theorem ANl {t:Q7}{x b:Operand}{v u:J0}{K:J0->Prop}(a:pQ v u K):PR P (do eqGuard .add t x b v u;binOp .add t v u) K:=by
 unfold pQ at a;cases v<;>cases u<;>simp only[] at a<;>try exact a.elim
 obtain⟨c,a⟩:=a;refine⟨_,λe=>?_,a⟩;have d: ¬(((_:A2M).size+(_:A2M).size:Nat):Int)>IntKind.i64.max:=Int.not_lt.2 c;simp only[eqGuard,binOp,Op.stringOp,if_neg d];rfl
theorem tE {t:Q7}{v u:J0}{K:Bool->Prop}(c:lT P t v K)(d:Ue P t=some u):
  ∃b,(∀ a,(Op.equal t v u).run P a= .ok b a)/\(∀ a,(Op.equal t u v).run P a= .ok b a)/\K b:=AGe 9999 c d
theorem binOp_eql {a:BinOp}{t:Q7}{v u:J0}{b:Bool}(g:a= .eql\/a= .neq)(c:Ue P t=some u){d:World}(e:(Op.equal t v u).run P d= .ok b d):
  (binOp a t v u).run P d= .ok (Wd a b) d/\True:=by
 have f:u= .pointer none\/u= .slice none 0 0\/u= .map none\/u= .nilFunc\/u= .nilIface:=by unfold Ue at c;split at c<;>simp at c<;>subst c<;>simp
 refine⟨?_,trivial⟩;rcases g with rfl|rfl
 ·rcases f with rfl|rfl|rfl|rfl|rfl<;>cases v<;>simp[binOp,e,Wd]
 ·rcases f with rfl|rfl|rfl|rfl|rfl<;>cases v<;>simp[binOp,e,Wd]
theorem AJ2 {a:BinOp}{t:Q7}{v u:J0}{b:Bool}(g:a= .eql\/a= .neq)(c:Ue P t=some u){d:World}(e:(Op.equal t u v).run P d= .ok b d):
  (binOp a t u v).run P d= .ok (Wd a b) d/\True:=by
 have f:u= .pointer none\/u= .slice none 0 0\/u= .map none\/u= .nilFunc\/u= .nilIface:=by unfold Ue at c;split at c<;>simp at c<;>subst c<;>simp
 refine⟨?_,trivial⟩;rcases g with rfl|rfl
 ·rcases f with rfl|rfl|rfl|rfl|rfl<;>cases v<;>simp[binOp,e,Wd]
 ·rcases f with rfl|rfl|rfl|rfl|rfl<;>cases v<;>simp[binOp,e,Wd]
theorem tF {b:BinOp}{t:Q7}{x e:Operand}{v u:J0}{d:World}(f:b= .eql\/b= .neq)(a:Ue P t=some u)(g:(∃ c,x= .const c)\/(∃ c,e= .const c)):
  (eqGuard b t x e v u).run P d= .ok () d/\(eqGuard b t x e u v).run P d= .ok () d:=by
 have h:u= .pointer none\/u= .slice none 0 0\/u= .map none\/u= .nilFunc\/u= .nilIface:=by unfold Ue at a;split at a<;>simp at a<;>subst a<;>simp
 clear a;rcases f with rfl|rfl<;>rcases g with⟨c,rfl⟩|⟨c,rfl⟩<;>rcases h with rfl|rfl|rfl|rfl|rfl<;>cases v<;>exact⟨by simp[eqGuard],by simp[eqGuard]⟩
theorem ANn {d:BinOp}{t:Q7}{x h:Operand}{v u:J0}{K:J0->Prop}(n: ∀c,x= .const c->v=c)(o: ∀c,h= .const c->u=c)(e:pR P d t x h v u K):
  PR P (do eqGuard d t x h v u;binOp d t v u) K:=by
 unfold pR at e;cases a:VD P d t x h with
 |eB=>rw[a] at e;exact NG e
 |no=>rw[a] at e;exact e.elim
 |div=>
  rw[a] at e;refine ANE ?_ e;unfold VD at a;cases d<;>simp only[] at a<;>first|exact .inl rfl|exact .inr rfl|(exfalso;split at a<;>first|(cases a;done)|(split at a<;>first|(cases a;done)|(split at a<;>cases a)))
 |shift=>
  rw[a] at e;refine AQO ?_ e;unfold VD at a;cases d<;>simp only[] at a<;>first|exact .inl rfl|exact .inr rfl|(exfalso;split at a<;>first|(cases a;done)|(split at a<;>first|(cases a;done)|(split at a<;>cases a)))
 |cat=>
  rw[a] at e;have:d= .add:=by unfold VD at a;cases d<;>simp only[] at a<;>first|rfl|(exfalso;split at a<;>first|(cases a;done)|(split at a<;>first|(cases a;done)|(split at a<;>cases a)))
  subst this;exact ANl e
 |ju=>
  rw[a] at e;have f:(d= .eql\/d= .neq)/\Vq P t h=true:=by
   unfold VD at a;cases d<;>simp only[] at a<;>first
    |(refine⟨.inl rfl,?_⟩;split at a<;>first|(cases a;done)|(split at a<;>first|assumption|(split at a<;>cases a)))
    |(refine⟨.inr rfl,?_⟩;split at a<;>first|(cases a;done)|(split at a<;>first|assumption|(split at a<;>cases a)))
    |(exfalso;split at a<;>first|(cases a;done)|(split at a<;>first|(cases a;done)|(split at a<;>cases a)))
  obtain⟨f,i⟩:=f;obtain⟨c,l,g⟩:=YI i;have:=o c l;subst this;obtain⟨b,p,_,j⟩:=tE e g;refine⟨Wd d b,λk=>?_,j⟩;rw[Sem.run_bind,(tF f g (.inr ⟨_,l⟩)).1];exact(binOp_eql f g (p k)).1
 |jv=>
  rw[a] at e;have f:(d= .eql\/d= .neq)/\Vq P t x=true:=by
   unfold VD at a;cases d<;>simp only[] at a<;>first
    |(refine⟨.inl rfl,?_⟩;split at a<;>first|(cases a;done)|(split at a<;>first|(cases a;done)|(split at a<;>first|assumption|(cases a;done))))
    |(refine⟨.inr rfl,?_⟩;split at a<;>first|(cases a;done)|(split at a<;>first|(cases a;done)|(split at a<;>first|assumption|(cases a;done))))
    |(exfalso;split at a<;>first|(cases a;done)|(split at a<;>first|(cases a;done)|(split at a<;>cases a)))
  obtain⟨f,i⟩:=f;obtain⟨c,m,g⟩:=YI i;have:=n c m;subst this;obtain⟨b,_,q,j⟩:=tE e g;refine⟨Wd d b,λk=>?_,j⟩;rw[Sem.run_bind,(tF f g (.inl ⟨_,m⟩)).2];exact(AJ2 f g (q k)).1
end
section
variable {P : Q1}
theorem AEi {t:Q7}{v i:J0}{K:J0->Prop}(b:pS P t v i K):PR P (Instr.indexAt t v i) K:=by
 unfold pS at b;split at b
 ·rename_i h d;split at b
  ·rename_i p len c j k l e;obtain⟨a,rfl,⟨f,g⟩,b⟩:=b;refine⟨_,λm=>?_,b⟩;simp[Instr.indexAt,asIntOf,BN d,run_sizeOf e,f,g]
  ·exact b.elim
 ·rename_i len h d;split at b
  ·rename_i p j k l e;obtain⟨a,rfl,b⟩:=At.mk b;obtain⟨⟨f,g⟩,b⟩:=b;refine⟨_,λm=>?_,b⟩;simp[Instr.indexAt,asIntOf,BN d,run_sizeOf e,f,g,Instr.sureAddr]
  ·exact b.elim
 ·exact b.elim
theorem AId {t:Q7}{v i:J0}{K:J0->Prop}(a:pT P t v i K):PR P (Instr.index t v i) K:=by
 unfold pT at a;split at a
 ·rename_i c;split at a
  ·rename_i s g b;obtain⟨⟨d,h⟩,a⟩:=a;refine⟨_,λj=>?_,a⟩;have e:b.toNat<s.size:=by omega
   have f:s[b.toNat]? =some s[b.toNat]:=by simp[e]
   simp[Instr.index,asIntOf,BN c,d,f,du]
  ·exact a.elim
 ·exact NG a
 ·exact a.elim
theorem VS {x:Option J0}{d max:Nat}{K:Nat->Prop}(a:gR x d max K):
  (x=none/\K d)\/ ∃c b,x=some (.int c b)/\0<=b/\b<=(max:Int)/\K b.toNat:=by
 unfold gR at a;split at a
 ·rename_i c b;obtain⟨⟨e,f⟩,a⟩:=a;exact .inr ⟨c,b,rfl,e,f,a⟩
 ·exact .inl ⟨rfl,a⟩
 ·exact a.elim
theorem run_sliceBound {d:IntKind}{a:Int}{b:Nat}{e:BoundsCode}(f:0<=a)(g:a<=(b:Int))(c:World):
  (Instr.sliceBound (.int d a) b e).run P c= .ok a.toNat c:=by
 simp[Instr.sliceBound,asIntOf,f,g]
theorem Nh {b:Bool}{len g:Nat}{k m:Option J0}{K:Nat->Nat->Prop}
  (p:gR m len g λe=>gR k 0 e λl=>K l e): ∃l e,(∀ d,(Instr.sliceBounds b len g k m none).run P d= .ok (l,e,g) d)/\K l e:=by
 obtain⟨f,h⟩|⟨s,t,f,n,o,h⟩:=VS p
 ·obtain⟨a,c⟩|⟨q,r,a,i,j,c⟩:=VS h
  ·exact⟨_,_,λd=>by simp[Instr.sliceBounds,f,a],c⟩
  ·exact⟨_,_,λd=>by simp[Instr.sliceBounds,f,a,run_sliceBound i j],c⟩
 ·obtain⟨a,c⟩|⟨q,r,a,i,j,c⟩:=VS h
  ·exact⟨_,_,λd=>by simp[Instr.sliceBounds,f,a,run_sliceBound n o],c⟩
  ·exact⟨_,_,λd=>by simp[Instr.sliceBounds,f,a,run_sliceBound n o,run_sliceBound i j],c⟩
theorem AIQ {t:Q7}{v:J0}{g h:Option J0}{K:J0->Prop}(c:pU P t v g h K):PR P (Instr.sliceAt t v g h none) K:=by
 unfold pU at c;split at c
 ·rename_i d;split at c
  ·rename_i s;obtain⟨l,i,e,c⟩:=Nh (P:=P) (b:=false) c;refine⟨_,λj=>?_,c⟩;simp[Instr.sliceAt,Instr.slice,BN d,e]
  ·exact c.elim
 ·rename_i k d;split at c
  ·rename_i p len o m f;obtain⟨l,i,e,c⟩:=Nh (P:=P) (b:=true) c;refine⟨_,λj=>?_,c⟩;simp[Instr.sliceAt,Instr.slice,BN d,e,run_sizeOf f,A7]
  ·exact c.elim
 ·rename_i q k d;split at c
  ·rename_i p m f;obtain⟨a,rfl,n⟩:=At.mk c;obtain⟨l,i,e,c⟩:=Nh (P:=P) (b:=false) n;refine⟨_,λj=>?_,c⟩;simp[Instr.sliceAt,BN d,e,run_sizeOf f,Instr.sureAddr]
  ·exact c.elim
 ·exact c.elim
theorem AHK {t:Q7}{v d:J0}{e f:Option J0}{K:J0->Prop}(a:pV P t v e f d K):PR P (Instr.sliceAt t v e f (some d)) K:=by
 unfold pV at a;split at a
 ·rename_i q g;split at a
  ·rename_i p len r s u w b x h;obtain⟨⟨i,j⟩,⟨k,l⟩,a⟩:=a;obtain⟨c,b⟩|⟨y,z,c,m,n,b⟩:=VS a
   ·refine⟨_,λo=>?_,b⟩;simp[Instr.sliceAt,Instr.slice,Instr.sliceBounds,BN g,run_sizeOf h,A7,c,run_sliceBound i j,run_sliceBound k l]
   ·refine⟨_,λo=>?_,b⟩;simp[Instr.sliceAt,Instr.slice,Instr.sliceBounds,BN g,run_sizeOf h,A7,c,run_sliceBound i j,run_sliceBound k l,run_sliceBound m n]
  ·exact a.elim
 ·exact a.elim
theorem af.mk {b:Bool}{c d:Prop}(a:af b c d):(b=true->c)/\(b=false->d):=by
 cases b
 ·exact⟨λa=>(by cases a),λ_=>a⟩
 ·exact⟨λ_=>a,λa=>(by cases a)⟩
theorem AJ5 {c:Bool}{a b:Option J0}{va vb:J0}(e: ∀v,a=some v->va=v)(f: ∀v,b=some v->vb=v){K:J0->Prop}(d:pW c a b K):
  K (if c then va else vb):=by
 unfold pW at d;split at d
 ·rename_i x g;rw[e _ rfl,f _ rfl];cases c<;>exact d
 ·rename_i x g _;rw[e _ rfl,f _ rfl];cases c<;>exact d
 ·rename_i x;rw[e _ rfl];cases c
  ·exact d.elim
  ·exact d
 ·rename_i g;rw[f _ rfl];cases c
  ·exact d
  ·exact d.elim
 ·exact d.elim
theorem Rx {N:Nat}{a:Act}{b:Env}(d:Fits N a b){x:Option Operand}{K:Option J0->Prop}(c:lU b x K):K (x.map a.eval):=by
 cases x with
 |none=>exact c
 |some x=>exact BV d c
theorem SX {N:Nat}{a:Act}{c:Env}(d:Fits N a c){t:Q7}: ∀ {l:List (Nat×Operand)} {K:List (Nat×Array J0)->Prop},lW P t c l K->K (l.map λp=>(p.1,(a.eval p.2).cells))
 | [],K,b=>b
 |(i,x)::g,K,b=>by
  unfold lW at b;split at b
  ·have e:=Rj (BV d b);have f:=SX d e;exact f
  ·exact b.elim
theorem uB: ∀(a:List Field),placesOf P a=a.mapM (λf=>(P.info? f.type).map λi=>(f.offset,i.size))
 | []=>rfl
 |f::b=>by
  simp only[placesOf,P4,Option.bind_eq_bind,Option.pure_def,uB b];cases P.info? f.type with
  |none=>rfl
  |some i=>simp only[HU,Pa];cases b.mapM (λf=>(P.info? f.type).map λi=>(f.offset,i.size))<;>rfl
theorem ALH {t:Q7}{b:Array (Nat×J0)}{cells:Array J0}(a:pX P t (b.toList.map λp=>(p.1,p.2.cells))=some cells)(c:World):
  (Instr.build t b).run P c= .ok (.agg cells) c:=by
 unfold pX at a;split at a
 ·rename_i j e;split at a
  ·rename_i z f;split at a
   ·rename_i k d;split at a
    ·rename_i l g;rw[<- nK] at a;rw[uB] at g;have h:Instr.fill (λx=>l[x]?) z.cells b.toList=some cells:=by simpa using a
     simp[Instr.build,run_underlying d,typeInfo,zeroValue,e,f,V0,run_places c _ _ g,h]
    ·cases a
   ·rename_i m n d;split at a
    ·rename_i o i;rw[<- nK] at a;simp[Instr.build,run_underlying d,sizeOf,typeInfo,zeroValue,e,f,i,a]
    ·cases a
   ·cases a
  ·cases a
 ·cases a
theorem uC {N:Nat}{a:Act}{n:Env}(e:Fits N a n){o:Oper}{K:J0->Prop}(r:Jo o)(d:nL P o n K):
  ∃v,(∀ g,(execOp a.eval o).run P g= .ok (.value v) g)/\K v:=by
 have lift: ∀ {s:Sem J0},PR P s K->(execOp a.eval o=do pure (.value (<- s)))-> ∃v,(∀ g,(execOp a.eval o).run P g= .ok (.value v) g)/\K v:=by intro s ⟨v,j,u⟩ w;exact⟨v,λg=>by rw[w];exact ja (j g),u⟩
 have y:=AFB (P:=P) e (o:=o) (K:=K) r;unfold nL at d;cases f:o.op
 case nilCheck x=>
  rw[f] at d;have d:=BV e d;unfold tC at d;cases k:a.eval x<;>rw[k] at d<;>simp only[] at d
  rename_i p;obtain⟨b,rfl,d⟩:=At.mk d;exact⟨_,λg=>by simp[execOp,f,k],d⟩
 case binOp A t x q t'=>
  rw[f] at d;have d:=BV e (BV e d);refine lift (ANn (λc h=>by subst h;rfl) (λc h=>by subst h;rfl) d) ?_;simp[execOp,f]
 case indexAddr t x i=>
  rw[f] at d;have d:=BV e (BV e d);refine lift (AEi d) ?_;simp[execOp,f]
 case index t x i=>
  rw[f] at d;have d:=BV e (BV e d);refine lift (AId d) ?_;simp[execOp,f]
 case slice t x B C z=>
  rw[f] at d;cases z with
  |some m=>
   have d:=BV e (Rx e (Rx e (BV e d)));refine lift (AHK d) ?_;simp[execOp,f]
  |none=>
   have d:=Rx e (Rx e (BV e d));refine lift (AIQ d) ?_;simp[execOp,f]
 case build t D=>
  rw[f] at d;have d:=SX e d;split at d
  ·rename_i cells h;refine⟨_,λg=>?_,d⟩;simp only[execOp,f];refine ja (ALH ?_ g);rw[<- h];congr 1;simp
  ·exact d.elim
 case pick c x q=>
  rw[f] at d;have d:=BV e d;cases h:a.eval c<;>rw[h] at d<;>simp only[] at d
  rename_i b;have d:=AJ5 (va:=a.eval x) (vb:=a.eval q) (λv j=>e.rdv j) (λv j=>e.rdv j) d;exact⟨_,λg=>by simp[execOp,f,h,asBool],d⟩
 case fieldAddr t x i=>
  rw[f] at d;have d:=BV e d;cases k:a.eval x<;>rw[k] at d<;>simp only[] at d
  obtain⟨b,rfl,l⟩:=At.mk d;clear d;unfold TG at l;split at l
  ·rename_i v h;exact⟨v,λg=>by simp only[execOp,f,k];exact ja (DN h g),l⟩
  ·exact l.elim
 all_goals (rw[f] at d;simp only[] at d;rw[<- f] at d;exact y d)
def NH(b:aa)(a:Q6):Nat->List J0->Prop
 |_,[]=>True
 |i,[v]=>ah b (a.add i)=some v
 |i,v::c=>ah b (a.add i)=some v/\NH b a (i+1) c
def loadT(P:Q1)(t:Q7)(c:aa)(a:Q6)(K:J0->(aa->Prop)->Prop):Prop:=
 match XQ P t with
 |true=>match P.info? t with
  |some i=>match Nat.beq (jN P 20 t).length i.size with
   |true=>pM c a 0 (jN P 20 t) λd=>K (.agg d.toArray) (λb=>NH b a 0 d)
   |false=>False
  |none=>False
 |false=>match P.underlying t with
  |some _=>match jN P 20 t with
   | [s]=>s.load c a λx=>K (s.val x) (λb=>ah b a=some (s.val x))
   |_=>False
  |none=>False
def nX(P:Q1)(b:Oper)(c:Env)(d:aa)(K:J0->(aa->Prop)->Prop):Prop:=
 match b.op with
 | .load t x=>rd c x λv=>match v with
  | .pointer p=>At p λa=>loadT P t d a K
  |_=>False
 |_=>False
theorem WV {b:aa}{a:Q6}{i:Nat}{v:J0}{c:List J0}:NH b a i (v::c)↔ah b (a.add i)=some v/\NH b a (i+1) c:=by
 cases c with
 |nil=>simp[NH]
 |cons u d=>simp[NH]
theorem WW {d:aa}{a:Q6}: ∀ {l:List Sc} {i:Nat} {K:List J0->Prop},pM d a i l K-> ∃c,c.length=l.length/\NH d a i c/\K c
 | [],_,_,b=>⟨[],rfl,trivial,b⟩
 |s::l,i,K,b=>by
  obtain⟨x,e,b⟩:=Sc.cC b;obtain⟨c,f,g,b⟩:=WW b;exact⟨s.val x::c,by simp[f],WV.2 ⟨e,g⟩,b⟩
theorem run_loadCellsFrom {A:al}{b:aa}{a:Q6}{n:Nat}: ∀ {c:List J0} {i:Nat} {acc:Array J0},NH b a i c->
  (loadCellsFrom a i c.length acc).run P (A.at b n)= .ok (acc++c.toArray) (A.at b n)
 | [],_,acc,_=>by simp[loadCellsFrom]
 |v::c,i,acc,d=>by
  obtain⟨e,f⟩:=WV.1 d;have g:=run_loadCellsFrom (A:=A) (n:=n) (acc:=acc.push v) f;have h:(load (a.add i)).run P (A.at b n)= .ok v (A.at b n):=by have j:(A.at b n).cell? (a.add i)=some v:=e;simp[load,Sem.run,j]
  simp only[A6,loadCellsFrom,Sem.run_bind,h,Result.andThen_ok,g];simp
theorem uD {t:Q7}{b:World}(c: ∃a,P.underlying t=some a):(isAgg t).run P b= .ok (XQ P t) b:=by obtain⟨a,hd⟩:=c;unfold isAgg XQ;rw[hd];cases a<;>simp[BN hd]
theorem uE {A:al}{t:Q7}{i:aa}{a:Q6}{K:J0->(aa->Prop)->Prop}(b:loadT P t i a K):
  ∃v st,(∀ c,st c-> ∀n,(loadVar t a).run P (A.at c n)= .ok v (A.at c n))/\st i/\K v st:=by
 unfold loadT at b;cases d:XQ P t with
 |true=>
  rw[d] at b;simp only[] at b;have f: ∃e,P.underlying t=some e:=by
   cases f:P.underlying t with
   |none=>simp[XQ,f] at d
   |some e=>exact⟨e,rfl⟩
  split at b
  ·rename_i q j;split at b
   ·rename_i g;have g:=IH g;obtain⟨r,k,l,b⟩:=WW b;refine⟨_,_,λc h n=>?_,l,b⟩;have m:=run_loadCellsFrom (P:=P) (A:=A) (n:=n) (acc:= #[]) h;simp only[loadVar,Sem.run_bind,uD f,d,Result.andThen_ok,if_true,run_sizeOf j];rw[<- g,<-k];simp only[loadCells,m,Result.andThen_ok];simp
   ·exact b.elim
  ·exact b.elim
 |false=>
  rw[d] at b;simp only[] at b;split at b
  ·rename_i e hd;split at b
   ·rename_i s _;obtain⟨x,o,b⟩:=Sc.cC b;refine⟨_,_,λc h n=>?_,o,b⟩;have p:(A.at c n).cell? a=some (s.val x):=h;simp[loadVar,uD ⟨e,hd⟩,d,load,Sem.run,p]
   ·exact b.elim
  ·exact b.elim
theorem cC {A:al}{N:Nat}{a:Act}{e:Env}(h:Fits N a e){f:Oper}{g:aa}{K:J0->(aa->Prop)->Prop}(c:nX P f e g K):
  ∃v st,(∀ d,st d->iL P A f a.eval v d)/\st g/\K v st:=by
 unfold nX at c;split at c
 ·rename_i t x i;have c:=BV h c;split at c
  ·rename_i p d;obtain⟨b,rfl,c⟩:=At.mk c;obtain⟨v,st,j,k,c⟩:=uE (A:=A) c;refine⟨v,st,λl m n=>?_,k,c⟩;have:=j l m n;simp only[execOp,i,d];refine ja ?_;simp only[Instr.loadAt,Instr.sureAddr,Sem.run_bind,Sem.run_pure,Result.andThen_ok];exact this
  ·exact c.elim
 ·exact c.elim
end
section
variable {P : Q1} {A : al} {r : Option Nat} {ops : Array Oper} {qb : Oper -> Bool} {ord : Nat -> Nat -> Bool}
abbrev Kt:=Act->aa->List (Nat×(aa->Prop))->Prop
def FI(P:Q1)(A:al)(ops:Array Oper)(qb:Oper->Bool)(ord:Nat->Nat->Bool)(i:Nat)(K:Kt):Kt:=λa c d=>
 match ops[i]? with
 |none=>False
 |some b=>
  if Region.wanted b (yielded ops a.tmps)=true then
   if qb b=true then
    ∃v,iL P A b a.eval v c/\K (a.put b.dst v) c ((i,iL P A b a.eval v)::d)
   else
    ∀f,EV P b a.eval (A.at c f) λv g=> ∃e h,g=A.at e h/\(∀ p∈d,un ord i p.1=true->p.2 e)/\K (a.put b.dst v) e d
  else K (a.put b.dst undef) c d
def mI(K:Kt):Prop:= ∀a b c d,K a b c->(∀ p∈d,p∈c)->K a b d
theorem FI.mono {i:Nat}{K f:Kt}(h: ∀a c d,K a c d->f a c d){a:Act}{c:aa}{d:List (Nat×(aa->Prop))}
  (b:FI P A ops qb ord i K a c d):FI P A ops qb ord i f a c d:=by
 unfold FI at b ⊢;cases g:ops[i]? with
 |none=>rw[g] at b;exact b
 |some l=>
  rw[g] at b;simp only at b ⊢;split
  ·rename_i e;rw[if_pos e] at b;split
   ·grind
   ·rename_i j;rw[if_neg j] at b;intro k;refine(b k).mono ?_
    grind
  ·rename_i e;rw[if_neg e] at b;exact h _ _ _ b
theorem FI.fH {i:Nat}{K:Kt}(c:mI K):mI (FI P A ops qb ord i K):=by
 intro a s t u b d;unfold FI at b ⊢;cases h:ops[i]? with
 |none=>rw[h] at b;exact b
 |some w=>
  rw[h] at b;simp only at b ⊢;split
  ·rename_i e;rw[if_pos e] at b;split
   ·rename_i f;rw[if_pos f] at b;obtain⟨v,k,g⟩:=b;refine⟨v,k,c _ _ _ _ g (λp j=>?_)⟩
    grind
   ·rename_i f;rw[if_neg f] at b;intro l;refine(b l).mono ?_;rintro v x ⟨m,n,o,q,g⟩;exact⟨m,n,o,λp j=>q p (d p j),c _ _ _ _ g d⟩
  ·rename_i e;rw[if_neg e] at b;exact c _ _ _ _ b d
theorem FI.swap {i f:Nat}{c d:Oper}(m:ops[i]? =some c)(g:ops[f]? =some d)(E:c.apart ops d=true)(F:Jo c)(G:Jo d)
  (T:un ord i f=true) (k:qb d=true) {K:Kt} (H:mI K) {a:Act} {q:aa} {s:List (Nat×(aa->Prop))}
  (b:FI P A ops qb ord f (FI P A ops qb ord i K) a q s):FI P A ops qb ord i (FI P A ops qb ord f K) a q s:=by
 obtain⟨t,I,w⟩:=Oper.apart_spec E;have U:un ord f i=true:=by unfold un at *;grind
 have x: ∀u,execOp (a.put d.dst u).eval c=execOp a.eval c:=λu=>execOp_put c F a d.dst u w
 have V: ∀u,execOp (a.put c.dst u).eval d=execOp a.eval d:=λu=>execOp_put d G a c.dst u t
 have y: ∀u,Region.wanted c (yielded ops (a.put d.dst u).tmps)=Region.wanted c (yielded ops a.tmps):=λu=>wanted_put c a d.dst u w
 have l: ∀u,Region.wanted d (yielded ops (a.put c.dst u).tmps)=Region.wanted d (yielded ops a.tmps):=λu=>wanted_put d a c.dst u t
 have z: ∀u,iL P A c (a.put d.dst u).eval=iL P A c a.eval:=λu=>by grind [iL]
 have n: ∀u,iL P A d (a.put c.dst u).eval=iL P A d a.eval:=λu=>by grind [iL]
 have B: ∀v u,(a.put c.dst v).put d.dst u=(a.put d.dst u).put c.dst v:=λv u=>Act.put_comm a v u I
 unfold FI at b ⊢;rw[g] at b;rw[m];simp only at b ⊢;by_cases e:Region.wanted d (yielded ops a.tmps)=true
 ·rw[if_pos e] at b;rw[if_pos k] at b;obtain⟨J,L,b⟩:=b;rw[m] at b;simp only[y,z] at b;by_cases h:Region.wanted c (yielded ops a.tmps)=true
  ·rw[if_pos h] at b ⊢;by_cases j:qb c=true
   ·rw[if_pos j] at b ⊢;obtain⟨C,M,b⟩:=b;refine⟨C,M,?_⟩;rw[g];simp only[l,n];rw[if_pos e,if_pos k];refine⟨J,L,?_⟩;rw[B];exact H _ _ _ _ b λp D=>by grind
   ·rw[if_neg j] at b ⊢;intro o;have:=b o;unfold EV at this;rw[x] at this;refine EV.mono this ?_;rintro C W ⟨N,O,R,D,b⟩;refine⟨N,O,R,λp S=>D p (AH _ S),?_⟩;rw[g];simp only[l,n];rw[if_pos e,if_pos k]
    grind [List.mem_cons_self]
  ·rw[if_neg h] at b ⊢;rw[g];simp only[l,n];rw[if_pos e,if_pos k]
   grind
 ·rw[if_neg e] at b;rw[m] at b;simp only[y,z] at b;by_cases h:Region.wanted c (yielded ops a.tmps)=true
  ·rw[if_pos h] at b ⊢;by_cases j:qb c=true
   ·rw[if_pos j] at b ⊢
    simp_all
   ·rw[if_neg j] at b ⊢;intro o;have:=b o;unfold EV at this ⊢;rw[x] at this;refine Next.dy ?_ this
    simp_all
  ·rw[if_neg h] at b ⊢;rw[g];simp only[l];rw[if_neg e,B];exact b
def Re(ord:Nat->Nat->Bool)(l:List Nat)(i:Nat):Bool:=l.all λa=> !ord i a
def UM(ops:Array Oper)(qb:Oper->Bool)(i:Nat):Bool:=match ops[i]? with|some a=>qb a|none=>false
def l9(ops:Array Oper)(qb:Oper->Bool)(ord:Nat->Nat->Bool)(l:List Nat):Option Nat:=l.find? λi=>UM ops qb i&&Re ord l i
def FT(P:Q1)(A:al)(ops:Array Oper)(qb:Oper->Bool)(ord:Nat->Nat->Bool)(Q:Act->aa->Prop):Nat->List Nat->Kt
 |_,[]=>λa b _=>Q a b
 |0,_::_=>λ_ _ _=>False
 |k+1,x::l=>λa b c=>
  match l9 ops qb ord (x::l) with
  |some i=>FI P A ops qb ord i (FT P A ops qb ord Q k ((x::l).erase i)) a b c
  |none=> ∀i∈x::l,Re ord (x::l) i=true->FI P A ops qb ord i (FT P A ops qb ord Q k ((x::l).erase i)) a b c
variable {Q : Act -> aa -> Prop}
theorem FT.fH: ∀(k:Nat) (l:List Nat),mI (FT P A ops qb ord Q k l)
 |_,[]=>by intro a d _ _ b _;unfold FT at b ⊢;exact b
 |0,_::_=>by intro a d _ _ b _;unfold FT at b;exact b.elim
 |k+1,x::l=>by
  intro a d h j b e;unfold FT at b ⊢;split
  ·rename_i i c;rw[c] at b;exact FI.fH (FT.fH k _) _ _ _ _ b e
  ·rename_i c;rw[c] at b;exact λi f g=>FI.fH (FT.fH k _) _ _ _ _ (b i f g) e
def oJ(ops:Array Oper)(qb:Oper->Bool)(ord:Nat->Nat->Bool):Bool:=
 (ops.toList.all λe=>KU e)&&
 (List.range ops.size).all λi=>
  match ops[i]? with
  |none=>false
  |some c=>
   (c.after.toList.all λa=> !Region.binds .any a||decide (a.on<i))&&
   (List.range ops.size).all λb=>
    match ops[b]? with
    |none=>false
    |some d=>
     if decide (b<i) then
      if ord i b then c.after.toList.any λa=>Region.binds .any a&&(a.on==b||(decide (b<a.on)&&ord a.on b))
      else(!(qb c||qb d))||(c.apart ops d&&d.apart ops c)
     else !ord i b
structure mJ (ops:Array Oper) (qb:Oper->Bool) (ord:Nat->Nat->Bool):Prop where
 nd: ∀(i:Nat) (o:Oper),ops[i]? =some o->KU o=true
 back: ∀(i:Nat) (o:Oper),ops[i]? =some o-> ∀e∈o.after,Region.binds .any e=true->e.on<i
 low: ∀i j,i<ops.size->j<ops.size->ord i j=true->j<i
 pair: ∀(i j:Nat) (oi oj:Oper),ops[i]? =some oi->ops[j]? =some oj->j<i->
   (ord i j=true/\ ∃e∈oi.after,Region.binds .any e=true/\(e.on=j\/(j<e.on/\ord e.on j=true)))\/
   (ord i j=false/\(qb oi=true\/qb oj=true->oi.apart ops oj=true/\oj.apart ops oi=true))
theorem AH3(c:oJ ops qb ord=true):mJ ops qb ord:=by
 unfold oJ at c;simp only[A3,E0,Lq] at c;obtain⟨k,l⟩:=c;refine⟨λi f a=>k f (by grind),λi f a g h j=>?_,λi b d e a=>?_,λi b q s d e m=>?_⟩
 ·grind
 ·grind
 ·have n:i<ops.size:=(Array.getElem?_eq_some_iff.1 d).1;have o:b<ops.size:=(Array.getElem?_eq_some_iff.1 e).1;have:=l i n;rw[d] at this;simp only[A3,E0,Lq] at this;have:=this.2 b o;rw[e] at this;simp only at this;rw[if_pos (by simpa using m)] at this;cases a:ord i b with
  |true=>
   rw[a] at this;simp only[if_true,List.any_eq_true,A3,DG,beq_iff_eq,decide_eq_true_eq] at this;obtain⟨g,h,j,p⟩:=this;exact .inl ⟨rfl,g,by simpa using h,j,p⟩
  |false=>
   rw[a] at this;simp only[CA,if_false,A3,DG,CI,GS] at this;refine .inr ⟨rfl,λt=>?_⟩
   grind
theorem YV {l:List Nat}{i a:Nat}(b:Re ord l i=true)(c:a∈l):ord i a=false:=by simp_all [Re,E0,CI]
theorem Rq {l:List Nat}{i a:Nat}(b:Re ord l i=true):Re ord (l.erase a) i=true:=by grind [Re,List.all_eq_true,List.mem_of_mem_erase]
theorem Su {l:List Nat}{a:Nat}(b:l9 ops qb ord l=some a):a∈l/\UM ops qb a=true/\Re ord l a=true:=by
 unfold l9 at b
 grind
theorem AKj {l:List Nat}(b:l9 ops qb ord l=none){a:Nat}(c:a∈l)(d:UM ops qb a=true):Re ord l a=false:=by simp_all [l9,Hh,G3]
theorem wv {i:Nat}(b:UM ops qb i=true): ∃a,ops[i]? =some a/\qb a=true:=by
 unfold UM at b
 grind
theorem mJ.swap(f:mJ ops qb ord){i b:Nat}(q:i≠b)(s:i<ops.size)(t:UM ops qb b=true)(u:ord i b=false)(v:ord b i=false){K:Kt}(l:mI K){a:Act}{g:aa}
  {h:List (Nat×(aa->Prop))}:
  (FI P A ops qb ord b (FI P A ops qb ord i K) a g h->FI P A ops qb ord i (FI P A ops qb ord b K) a g h)/\
  (UM ops qb i=true->FI P A ops qb ord i (FI P A ops qb ord b K) a g h->FI P A ops qb ord b (FI P A ops qb ord i K) a g h):=by
 obtain⟨j,d,m⟩:=wv t;have e:ops[i]? =some ops[i]:=FA s;have n:=Yc (f.nd _ _ e);have o:=Yc (f.nd _ _ d);have p:(ops[i]).apart ops j=true/\j.apart ops (ops[i])=true:=by
  rcases MT q with k|k
  ·rcases f.pair b i j _ d e k with⟨c,_⟩|⟨_,c⟩
   ·rw[v] at c;cases c
   simp_all
  ·rcases f.pair i b _ j e d k with⟨c,_⟩|⟨_,c⟩
   ·rw[u] at c;cases c
   ·exact c (.inr m)
 have w:un ord i b=true:=by grind [un,Nat.lt_or_gt_of_ne,Nat.max_eq_right,Nat.min_eq_left,Nat.max_eq_left,Nat.min_eq_right]
 have x:un ord b i=true:=by unfold un at *;grind
 exact⟨FI.swap e d p.1 n o w m l,λy=>FI.swap d e p.2 o n x (by grind [wv]) l⟩
theorem FT.both(D:mJ ops qb ord): ∀(h:Nat) (l:List Nat),l.length=h+1->(∀ i∈l,i<ops.size)-> ∀(i:Nat),i∈l->Re ord l i=true->
  (∀ a c d,FT P A ops qb ord Q (h+1) l a c d->FI P A ops qb ord i (FT P A ops qb ord Q h (l.erase i)) a c d)/\
  (UM ops qb i=true-> ∀a c d,FI P A ops qb ord i (FT P A ops qb ord Q h (l.erase i)) a c d->FT P A ops qb ord Q (h+1) l a c d):=by
 intro h
 induction h with
 |zero=>
  intro l z s i f m;obtain⟨x,rfl⟩:=List.length_eq_one_iff.1 z;have:i=x:=by simpa using f
  subst this;constructor
  ·intro a c d e;unfold FT at e;split at e
   ·rename_i b j;have:=(Su j).1;have:b=i:=by simpa using this
    subst this;exact e
   ·exact e i (by simp) m
  ·intro j a c d e;unfold FT;split
   ·rename_i b B;have:=(Su B).1;have:b=i:=by simpa using this
    subst this;exact e
   ·intro E F _;have:E=i:=by simpa using F
    subst this;exact e
 |succ h t=>
  intro l z s i f m;obtain⟨x,g,rfl⟩: ∃x g,l=x::g:=by cases l with|nil=>cases z|cons x g=>exact⟨x,g,rfl⟩
  have u: ∀ {b},b∈x::g->((x::g).erase b).length=h+1:=λj=>by simp_all
  have v: ∀ {b},∀i∈(x::g).erase b,i<ops.size:=λi f=>s i (A09 f)
  have w: ∀ {p b},p∈x::g->p≠b->p∈(x::g).erase b:=λG H=>(List.mem_erase_of_ne H).2 G
  constructor
  ·intro a c d e;unfold FT at e;split at e
   ·rename_i b j;obtain⟨n,y,o⟩:=Su j;by_cases k:b=i
    ·subst k;exact e
    ·have C:=FI.mono (λa c d=>(t ((x::g).erase b) (u n) v i (w f (Ne.symm k)) (Rq m)).1 a c d) e;have q:=(D.swap (Ne.symm k) (s i f) y (YV m n) (YV o f) (FT.fH _ _)).1 C;rw[List.erase_comm] at q;exact FI.mono (λa c d=>(t ((x::g).erase i) (u f) v b (w n k) (Rq o)).2 y a c d) q
   ·exact e i f m
  ·intro j a c d e;unfold FT;split
   ·rename_i b B;obtain⟨n,y,o⟩:=Su B;by_cases k:b=i
    ·subst k;exact e
    ·have C:=FI.mono (λa c d=>(t ((x::g).erase i) (u f) v b (w n k) (Rq o)).1 a c d) e;have q:=(D.swap (Ne.symm k) (s i f) y (YV m n) (YV o f) (FT.fH _ _)).2 j C;rw[List.erase_comm] at q;exact FI.mono (λa c d=>(t ((x::g).erase b) (u n) v i (w f (Ne.symm k)) (Rq m)).2 j a c d) q
   ·rename_i I;have:=AKj I f j;rw[m] at this;cases this
theorem AJx {a i:Nat}{listed:Array Bool}(b:i<a)(c:listed.size=a)(d:listed.getD i false=false):left a (listed.setIfInBounds i true)=(left a listed).erase i:=by grind [AKx,List.erase_append_right]
theorem FT.any {m:Nat}{I:Exit->Act->World->Prop}(S: ∀a e d,Q a e->I .normal a (A.at e d))(l:mJ ops qb ord):
  ∀(fuel:Nat) (listed:Array Bool) (a:Act) (e:aa) (aN:List (Nat×(aa->Prop))),(left ops.size listed).length=fuel->listed.size=ops.size->
   gQ ord listed->FT P A ops qb ord Q fuel (left ops.size listed) a e aN-> ∀d,wpAnyIn (Fw r) m P .any ops I fuel listed a (A.at e d):=by
 intro fuel
 induction fuel with
 |zero=>
  intro listed a e aN y z _ q d;have n:left ops.size listed= []:=DA y;refine⟨?_,?_⟩
  ·rcases J:Region.ready .any ops listed with _|⟨i,t⟩
   ·rfl
   ·exfalso;have f:i∈Region.ready .any ops listed:=by simp_all
    obtain⟨K,al,o,_⟩:=mem_ready.1 f;have h:i<ops.size:=(Array.getElem?_eq_some_iff.1 o).1;have:i∈left ops.size listed:=mem_left.2 ⟨h,by simp_all⟩;rw[n] at this;cases this
  ·rw[n] at q;unfold FT at q;exact S _ _ _ q
 |succ fuel B=>
  intro listed a e aN y z L q d;refine⟨λJ=>?_,λi f=>?_⟩
  ·exfalso;have T: ∀j i,i<j->i∈left ops.size listed->False:=by
    intro j
    induction j with
    |zero=>intro i f;omega
    |succ j U=>
     intro i _ f;obtain⟨h,K⟩:=mem_left.1 f;have o:ops[i]? =some ops[i]:=FA h;by_cases s: ∀g∈ops[i].after,Region.binds .any g=true->listed.getD g.on false=true
     ·have:i∈Region.ready .any ops listed:=mem_ready.2 ⟨by simp_all,_,o,s⟩;rw[J] at this;cases this
     ·simp only[Classical.not_forall] at s;obtain⟨g,n,k,C⟩:=s;have am:=l.back i _ o g n k;exact U g.on (by omega) (mem_left.2 ⟨by omega,by simpa using C⟩)
   have C:left ops.size listed≠ []:=by grind
   obtain⟨i,f⟩:=List.exists_mem_of_ne_nil _ C;exact T (i+1) i (by omega) f
  ·obtain⟨K,w,p,s⟩:=mem_ready.1 f;have h:i<ops.size:=(Array.getElem?_eq_some_iff.1 p).1;have M:listed.getD i false=false:=by simp_all
   have V: ∀b,b<i->listed.getD b false=false->ord i b=false:=by
    intro b u x;have W:ops[b]? =some ops[b]:=FA (by omega);rcases l.pair i b w _ p W u with⟨_,g,n,k,D⟩|⟨D,_⟩
    ·exfalso;have N:=s g n k;rcases D with rfl|⟨X,Y⟩
     ·rw[N] at x;cases x
     ·have:=L g.on b N X Y;rw[this] at x;cases x
    ·exact D
   have Z:i∈left ops.size listed:=mem_left.2 ⟨h,M⟩;have ab:Re ord (left ops.size listed) i=true:=by
    unfold Re;simp only[E0,CI];intro b u;obtain⟨ac,ad⟩:=mem_left.1 u;cases k:ord i b with
    |false=>rfl
    |true=>rw[V b (l.low i b h ac k) ad] at k;cases k
   have c:=(FT.both (Q:=Q) (P:=P) (A:=A) l fuel _ y (λb u=>(mem_left.1 u).1) i Z ab).1 a e aN q;have E:gQ ord (listed.setIfInBounds i true):=by
    intro j b O ae o;by_cases af:b=i
    ·simp_all
    ·rw[getD_set_ne false (Ne.symm af)];by_cases ag:j=i
     ·grind
     ·rw[getD_set_ne false (Ne.symm ag)] at O;exact L j b O ae o
   have ah:=AJx h z M;have F:(left ops.size (listed.setIfInBounds i true)).length=fuel:=by simp_all
   have G:(listed.setIfInBounds i true).size=ops.size:=by simp[z]
   rw[<- ah] at c;unfold FI at c;rw[p] at c;unfold wpOpIn;simp only[p];split
   ·rename_i H;simp only[H,if_true] at c;by_cases R:qb w=true
    ·rw[if_pos R] at c;obtain⟨v,ai,c⟩:=c;refine EV.wpIn (l.nd i w p) ?_;unfold EV;rw[ai d];exact B _ _ _ _ F G E c d
    ·rw[if_neg R] at c;refine EV.wpIn (l.nd i w p) ((c d).mono ?_);rintro v an ⟨ao,aj,rfl,_,ak⟩;exact B _ _ _ _ F G E ak aj
   ·rename_i H;simp only at c;rw[if_neg H] at c;exact⟨λ_ _=>trivial,B _ _ _ _ F G E c d⟩
theorem AAZ {id m:Nat}{d:Exit->Act->World->Prop}(f: ∀a b c,Q a b->d .normal a (A.at b c))(g:P.follows .mixedOrders=true)
  (h:oJ ops qb ord=true) {a:Act} {b:aa} {c:Nat} (i:FT P A ops qb ord Q ops.size (List.range ops.size) a b []):(Code.region id ops true).wpIn (Fw r) m P d a (A.at b c):=by
 refine wpIn_region_any g ?_;have e:=APC ops.size;refine FT.any (Q:=Q) (ord:=ord) (qb:=qb) (aN:= []) f (AH3 h) _ _ _ b (by rw[e];simp) (by simp) ?_ (by rw[e];exact i) (c+1);intro j l k;exfalso;by_cases b:j<ops.size<;>simp[b] at k
end
inductive Cls where
 |pure|load|fE
def cls(P:Q1)(b:Oper):Cls:=
 match b.op with
 | .load _ _=> .load
 | .binOp d t x e _=>match VD P d t x e with| .no=> .fE|_=> .pure
 | .convert s a _=>match P.underlying s with
  |some (.int _)=>(match P.underlying a with|some (.int _)=> .pure|_=> .fE)
  |some .string=>(match P.underlying a with|some .string=> .pure|_=> .fE)
  |_=> .fE
 | .call c=>match c.callee with
  | .builtin .min=>(match c.argTypes[0]? with
   |some t=>(match P.underlying t with|some (.float _)=> .fE|_=> .pure)
   |none=> .pure)
  | .builtin .max=>(match c.argTypes[0]? with
   |some t=>(match P.underlying t with|some (.float _)=> .fE|_=> .pure)
   |none=> .pure)
  | .builtin .cap=> .pure
  | .builtin .len=>(match c.argTypes[0]? with
   |some t=>(match P.underlying t with|some (.map _ _)=> .fE|_=> .pure)
   |none=> .fE)
  |_=> .fE
 | .move _| .assign _| .pick .. | .build .. | .nilCheck _| .unOp .. | .makeInterface .. | .makeFunc .. | .fieldAddr .. | .field .. | .indexAddr .. | .index .. | .slice .. | .extract .. => .pure
 |_=> .fE
def gT(A:al)(P:Q1)(m:Sem Unit)(b:aa)(K:aa->Prop):Prop:= ∀c,∃a d,m.run P (A.at b c)= .ok () (A.at a d)/\K a
def KD(a:Env)(l:Array Operand):Array J0:=(l.toList.map (ρof a)).toArray
def AR5(P:Q1)(f:Q8):Bool:=match P.funcs[f]? with|some fn=>(match fn.body with|none=>true|some _=>false)|none=>false
def nY(A:al)(P:Q1)(f:Q8)(args:Array J0)(b:aa)(K:A2L):Prop:= ∀c,∃v a d,(callFunc f args).run P (A.at b c)= .ok (.value v) (A.at a d)/\K v a
def qz(A:al)(P:Q1)(d:Oper)(c:Call)(e:Env)(g:aa)(K:A2L):Prop:=
 match c.callee with
 | .value (.func f)=>known e c.args.toList (match AR5 P f with
  |true=>nY A P f (KD e c.args) g λv a=>Pf P d.type v λv=>K v a
  |false=>TG P (callFunc f (KD e c.args)) λx=>match x with
   | .enter h i=>AA A P h i g λv a=>Pf P d.type v λv=>K v a
   |_=>False)
 | .value x=>rd e x λfv=>known e c.args.toList (Em A P fv (KD e c.args) g λv a=>Pf P d.type v λv=>K v a)
 | .builtin b=>known e c.args.toList (match b with
  | .append=>BG A P (Builtin.append_ c.argTypes d.type (KD e c.args)) g λv a=>Pf P d.type v λv=>K v a
  | .copy=>BG A P (Builtin.copy_ c.argTypes d.type (KD e c.args)) g λv a=>Pf P d.type v λv=>K v a
  | .delete=>BG A P (Builtin.delete_ c.argTypes d.type (KD e c.args)) g λv a=>Pf P d.type v λv=>K v a
  | .clear=>BG A P (Builtin.clear_ c.argTypes d.type (KD e c.args)) g λv a=>Pf P d.type v λv=>K v a
  | .len=>BG A P (Builtin.len_ c.argTypes d.type (KD e c.args)) g λv a=>Pf P d.type v λv=>K v a
  | .real=>BG A P (Builtin.real_ c.argTypes d.type (KD e c.args)) g λv a=>Pf P d.type v λv=>K v a
  | .imag=>BG A P (Builtin.imag_ c.argTypes d.type (KD e c.args)) g λv a=>Pf P d.type v λv=>K v a
  | .complex=>BG A P (Builtin.complex_ c.argTypes d.type (KD e c.args)) g λv a=>Pf P d.type v λv=>K v a
  | .min=>BG A P (Builtin.min_ c.argTypes d.type (KD e c.args)) g λv a=>Pf P d.type v λv=>K v a
  | .max=>BG A P (Builtin.max_ c.argTypes d.type (KD e c.args)) g λv a=>Pf P d.type v λv=>K v a
  |_=>False)
 | .invoke x name=>rd e x λj=>known e c.args.toList (lR A P j name (KD e c.args) g λv a=>Pf P d.type v λv=>K v a)
def Vf(a:Q6):aa->Nat->List J0->(aa->Prop)->Prop
 |h,_,[],K=>K h
 |h,i,v::b,K=>Ze (MS v) (ae h (a.add i) v λc=>Vf a c (i+1) b K)
def qA(P:Q1)(t:Q7)(c v:J0)(d:aa)(K:aa->Prop):Prop:=
 match c with
 | .pointer p=>At p λa=>match P.info? t with
  |some i=>lV P t v λb=>match Nat.beq b.size i.size with
   |true=>Vf a d 0 b.toList K
   |false=>False
  |none=>False
 |_=>False
def AUb(P:Q1)(t:Q7)(v:J0)(a:aa)(K:A2L):Prop:=
 lV P t v λc=>ao a (.cells c t) λb d=>K (.pointer (some ⟨b,0,none⟩)) d
def rowOf(P:Q1)(b:Q7)(len:Nat)(c:List (Nat×Array J0)):Option (Array J0):=
 match P.info? b with
 |some a=>match a.zero with
  |some z=>match Nat.ble (len*a.size) (2^24) with
   |true=>kK (λi=>some (i*a.size,a.size)) ((Array.range (len*a.size)).map (z.cells[· % z.cells.size]!)) c
   |false=>none
  |none=>none
 |none=>none
def uF(P:Q1)(t:Q7)(len:Nat)(c:Array (Nat×Operand))(d:Env)(e:aa)(K:A2L):Prop:=
 match P.underlying t with
 |some (.slice a)=>lW P t d c.toList λl=>match rowOf P a len l with
  |some cells=>ao e (.cells cells a) λb f=>K (.slice (some ⟨b,0,none⟩) len len) f
  |none=>False
 |_=>False
def SH(ops:List Oper)(b:Option Tmp)(a:Nat):Option Q7:=
 match b with
 |none=>none
 |some t=>match ops with
  | []=>none
  |o::r=>match o.op with
   | .extract (.tmp t') c=>(match Nat.beq t' t with|true=>(match Nat.beq c a with|true=>some o.type|false=>SH r (some t) a)|false=>SH r (some t) a)
   |_=>SH r (some t) a
def jU(P:Q1)(t:Option Q7)(v:J0)(K:J0->Prop):Prop:=
 match t with
 |none=>K v
 |some t=>Pf P t v K
theorem Mc {P:Q1}{t:Option Q7}{v:J0}{K:J0->Prop}(a:jU P t v K):K v:=by
 cases t with
 |none=>exact a
 |some t=>exact Me a
def jV(A:al)(P:Q1)(ops:Array Oper)(f:Oper)(d:Env)(g:aa)(K:A2L):Prop:=
 match f.op with
 | .call c=>qz A P f c d g K
 | .makeSlice t l c=>rd d l λl=>rd d c λc=>BG A P (Instr.makeSlice t l c) g λv a=>Pf P f.type v λv=>K v a
 | .lookup t x i ok=>rd d x λx=>rd d i λi=>BG A P (Instr.lookup t x i ok) g λv a=>Pf P f.type v λv=>K v a
 | .mapUpdate t m e x=>rd d m λm=>rd d e λe=>rd d x λx=>gT A P (Instr.mapUpdate t m e x) g λa=>K undef a
 | .mapEntry t m e=>rd d m λm=>rd d e λe=>BG A P (Instr.mapEntry t m e) g λv a=> ∃e u:J0,v= .tuple #[e,u]/\jU P (SH ops.toList f.dst 0) e λe=>jU P (SH ops.toList f.dst 1) u λu=>K (.tuple #[e,u]) a
 | .entryStore t m s x=>rd d m λm=>rd d s λs=>rd d x λx=>gT A P (Instr.entryStore t m s x) g λa=>K undef a
 | .convert s k x=>rd d x λx=>BG A P (convert s k x) g λv a=>Pf P f.type v λv=>K v a
 | .binOp j t x h _=>rd d x λv=>rd d h λu=>BG A P (do eqGuard j t x h v u;binOp j t v u) g λv a=>Pf P f.type v λv=>K v a
 | .typeAssert x t u ok=>rd d x λx=>BG A P (Instr.typeAssert x t u ok) g λv a=>Pf P f.type v λv=>K v a
 | .store t x h=>rd d x λn=>rd d h λv=>qA P t n v g λa=>K undef a
 | .box t x=>rd d x λv=>AUb P t v g K
 | .buildSlice t len o=>uF P t len o d g K
 | .range t x=>rd d x λx=>BG A P (Instr.range t x) g λv a=> ∃b:Nat,v= .pointer (some ⟨b,0,none⟩)/\K (.pointer (some ⟨b,0,none⟩)) a
 | .next x s=>rd d x λx=>BG A P (Instr.next x s f.type) g λv a=>(v= .tuple #[.bool false]/\K (.tuple #[.bool false]) a)\/(∃ e u:J0,v= .tuple #[.bool true,e,u]/\jU P (SH ops.toList f.dst 1) e λe=>jU P (SH ops.toList f.dst 2) u λu=>K (.tuple #[.bool true,e,u]) a)
 | .entry x=>rd d x λx=>BG A P (Instr.entry x) g λv a=> ∃e u:J0,v= .tuple #[e,u]/\jU P (SH ops.toList f.dst 0) e λe=>jU P (SH ops.toList f.dst 1) u λu=>K (.tuple #[e,u]) a
 | .alloc .. | .makeMap .. =>known d f.op.operands.toList (Sem.vc P (execOp (ρof d) f) g λx a=>match x with
  | .value v=>K v a
  | .skip=>K undef a
  |_=>False)
 |_=>False
theorem VP {N:Nat}{a:Act}{b:Env}(d:Fits N a b){l:Array Operand}(c: ∀x∈l.toList,ρof b x=a.eval x):KD b l=l.map a.eval:=by unfold KD;rw[CM c];apply Array.toList_inj.1;rw[Array.toList_map]
section
variable {P : Q1} {A : al}
theorem IG {b:Oper}{e:Operand->J0}{s:Sem J0}{f:aa}{K:A2L}(g:execOp e b=do pure (.value (<- s)))
  (h:BG A P s f λv a=>Pf P b.type v λv=>K v a): ∀c,EV P b e (A.at f c) λv i=> ∃a d,i=A.at a d/\K v a:=by
 intro c;obtain⟨v,a,d,j,hd⟩:=h c;unfold EV;rw[g,ja j];exact⟨a,d,rfl,Me hd⟩
theorem X8 {d:Oper}{e:Operand->J0}{s:Sem J0}{f:aa}{K g:A2L}(h:execOp e d=do pure (.value (<- s)))
  (i:BG A P s f g) (j: ∀v a,g v a->K v a): ∀b,EV P d e (A.at f b) λv k=> ∃a c,k=A.at a c/\K v a:=by
 intro b;obtain⟨v,a,c,l,hd⟩:=i b;unfold EV;rw[h,ja l];exact⟨a,c,rfl,j _ _ hd⟩
theorem qB {d:Oper}{e:Operand->J0}{s:Sem Unit}{f:aa}{K:A2L}(g:execOp e d=do s;pure .skip)
  (h:gT A P s f λa=>K undef a): ∀b,EV P d e (A.at f b) λv i=> ∃a c,i=A.at a c/\K v a:=by
 intro b;obtain⟨a,c,j,hd⟩:=h b;unfold EV;rw[g,AUC j];exact⟨a,c,rfl,hd⟩
theorem AJj {N:Nat}{a:Act}{u:Env}(k:Fits N a u){l:Oper}{c:Call}(h:l.op= .call c){n:aa}{K:A2L}(d:qz A P l c u n K):
  ∀g,EV P l a.eval (A.at n g) λv q=> ∃i j,q=A.at i j/\K v i:=by
 have y: ∀ {fv:J0} {s:A2L} {x:Operand},c.callee= .value x->a.eval x=fv->Em A P fv (c.args.map a.eval) n s->
   ∀g,EV P l a.eval (A.at n g) λv q=> ∃i j,q=A.at i j/\s v i:=by
  intro fv s x e t z g;have:=z g;unfold EV;have o:execOp a.eval l=(do let w <-Deferred.ofValue fv (c.args.map a.eval);invoke w.target w.args:Sem Next):=by simp only[execOp,h,resolve,e,t]
  rw[o];exact this
 unfold qz at d;split at d
 ·rename_i f e;obtain⟨p,d⟩:=JI k d;rw[VP k p] at d;split at d
  ·intro g;obtain⟨v,i,j,B,hd⟩:=d g;have o:(execOp a.eval l).run P (A.at n g)= .ok (.value v) (A.at i j):=by simp only[execOp,h,resolve,e,Act.eval,Deferred.ofValue];simp only[Sem.run_bind,Sem.run_pure,Result.andThen_ok,invoke];simpa using B
   unfold EV;rw[o];exact⟨i,j,rfl,Me hd⟩
  ·obtain⟨x,t,d⟩:=NG d;split at d
   ·rename_i C D;intro g;have o:(execOp a.eval l).run P (A.at n g)= .ok (.enter C D) (A.at n g):=by simp only[execOp,h,resolve,e,Act.eval,Deferred.ofValue];simp only[Sem.run_bind,Sem.run_pure,Result.andThen_ok,invoke];have:=t (A.at n g);simpa using this
    unfold EV;rw[o];refine Calls.mono (d g) ?_;rintro F q ⟨v,rfl,i,j,rfl,hd⟩;exact⟨v,rfl,i,j,rfl,Me hd⟩
   ·exact d.elim
 ·rename_i x e;have d:=BV k d;obtain⟨p,d⟩:=JI k d;rw[VP k p] at d;intro g;refine EV.mono (y e rfl d g) ?_;rintro v q ⟨i,j,rfl,hd⟩;exact⟨i,j,rfl,Me hd⟩
 ·rename_i b e;obtain⟨p,d⟩:=JI k d;rw[VP k p] at d;split at d
  ·exact IG (by simp only[execOp,h,resolve,e];rfl) d
  ·exact IG (by simp only[execOp,h,resolve,e];rfl) d
  ·exact IG (by simp only[execOp,h,resolve,e];rfl) d
  ·exact IG (by simp only[execOp,h,resolve,e];rfl) d
  ·exact IG (by simp only[execOp,h,resolve,e];rfl) d
  ·exact IG (by simp only[execOp,h,resolve,e];rfl) d
  ·exact IG (by simp only[execOp,h,resolve,e];rfl) d
  ·exact IG (by simp only[execOp,h,resolve,e];rfl) d
  ·exact IG (by simp only[execOp,h,resolve,e];rfl) d
  ·exact IG (by simp only[execOp,h,resolve,e];rfl) d
  ·exact d.elim
 ·rename_i x name e;have d:=BV k d;obtain⟨p,d⟩:=JI k d;rw[VP k p] at d;intro g;have o:execOp a.eval l=(callMethod (a.eval x) name (c.args.map a.eval):Sem Next):=by
   simp only[execOp,h,resolve,e];have E:(#[a.eval x]++Array.map a.eval c.args)[0]? =some (a.eval x):=by rw[IT (by simp)];rfl
   simp[invoke];rw[E];show callMethod (a.eval x) name ((Array.map a.eval c.args).extract 0 c.args.size)=_;rw[show c.args.size=(Array.map a.eval c.args).size by simp,Array.extract_size]
  unfold EV;rw[o];refine Next.dy ?_ (d g);rintro v q ⟨i,j,rfl,hd⟩;exact⟨i,j,rfl,Me hd⟩
theorem Yf {A:al}{a:Q6}: ∀ {l:List J0} {b:aa} {i:Nat} {K:aa->Prop},Vf a b i l K-> ∀n,∃d,(storeCells a l i).run P (A.at b n)= .ok () (A.at d n)/\K d
 | [],b,i,K,c,n=>⟨b,rfl,c⟩
 |v::s,b,i,K,c,n=>by
  unfold Vf at c;cases e:MS v with
  |false=>rw[e] at c;exact c.elim
  |true=>
   rw[e] at c;obtain⟨⟨u,g⟩,h,j⟩:=c;obtain⟨d,k,o⟩:=Yf j n;refine⟨d,?_,o⟩;have p:=tA (A:=A) (P:=P) (m:= .plain) (f:=(.pure ():Sem Unit)) (n:=n) e g h;simp only[storeCells,Sem.run_bind];have q:(store (a.add i) v).run P (A.at b n)= .ok () (A.at (dk b (a.add i) v) n):=p;rw[q];exact k
theorem AIH {A:al}{t:Q7}{f v:J0}{g:aa}{K:aa->Prop}(b:qA P t f v g K):gT A P (Instr.storeAt t f v) g K:=by
 intro h;unfold qA at b;split at b
 ·rename_i p;obtain⟨a,rfl,c⟩:=At.mk b;split at c
  ·rename_i n i;have d:=Rj c;split at d
   ·rename_i e;have e:=IH e;obtain⟨j,k,l⟩:=Yf (P:=P) (A:=A) d h;refine⟨j,h,?_,l⟩;simp[Instr.storeAt,Instr.sureAddr,storeVar,run_sizeOf i,e,k]
   ·exact d.elim
  ·exact c.elim
 ·exact b.elim
theorem ASI {A:al}{t:Q7}{v:J0}{a:aa}{b:Nat}:(Instr.box t v).run P (A.at a b)= .ok (.pointer (some ⟨a.size,0,none⟩)) (A.at (a.push (.cells v.cells t)) b):=rfl
theorem ARD {A:al}{t c:Q7}(j:P.underlying t=some (.slice c)){len:Nat}{d:Array (Nat×J0)}{cells:Array J0}{h:aa}{n:Nat}
  (a:rowOf P c len (d.toList.map λp=>(p.1,p.2.cells))=some cells):
  (Instr.buildSlice t len d).run P (A.at h n)= .ok (.slice (some ⟨h.size,0,none⟩) len len) (A.at (h.push (.cells cells c)) n):=by
 unfold rowOf at a;split at a
 ·rename_i b f;split at a
  ·rename_i z k;split at a
   ·rename_i g;have g:=Vc g;rw[<- nK] at a;have l: ¬(len*b.size>2^24):=by omega
    unfold Instr.buildSlice;simp only[Sem.run_bind,BN j,Result.andThen_ok,run_sizeOf f,if_neg l];by_cases e:len*b.size=0
    ·have o:Instr.fill (λi=>some (i*b.size,b.size)) ((Array.range (len*b.size)).map ((#[]:Array J0)[· % (#[]:Array J0).size]!)) d.toList=some cells:=by rw[<- a];congr 1;simp[e]
     rw[if_pos e];simp only[Sem.run_bind,Sem.run_pure,Result.andThen_ok,o];rfl
    ·rw[if_neg e];have q:(zeroValue c).run P (A.at h n)= .ok z (A.at h n):=by simp[zeroValue,tD f,k]
     simp only[Sem.run_bind,q,Sem.run_pure,Result.andThen_ok,a];rfl
   ·cases a
  ·cases a
 ·cases a
theorem uG {N:Nat}{a:Act}{q:Env}(f:Fits N a q){ops:Array Oper}{j:Oper}{h:aa}{K:A2L}(e:jV A P ops j q h K):
  ∀n,EV P j a.eval (A.at h n) λv y=> ∃g o,y=A.at g o/\K v g:=by
 have z:Jo j->known q j.op.operands.toList (Sem.vc P (execOp (ρof q) j) h λx g=>match x with
   | .value v=>K v g
   | .skip=>K undef g
   |_=>False)-> ∀n,EV P j a.eval (A.at h n) λv y=> ∃g o,y=A.at g o/\K v g:=by
  intro C e n;obtain⟨D,e⟩:=JI f e;obtain⟨x,g,o,B,e⟩:=AO4 (A:=A) e n;rw[execOp_congr j C (λx E=>D x (by simpa using E))] at B;unfold EV;rw[B];split at e
  ·exact⟨g,o,rfl,e⟩
  ·exact⟨g,o,rfl,e⟩
  ·exact e.elim
 unfold jV at e;split at e
 ·rename_i c d;exact AJj f d e
 ·rename_i t l c d;exact IG (by simp only[execOp,d]) (BV f (BV f e))
 ·rename_i t x i ok d;exact IG (by simp only[execOp,d]) (BV f (BV f e))
 ·rename_i t m w x d;exact qB (by simp only[execOp,d]) (BV f (BV f (BV f e)))
 ·rename_i t m w d;refine X8 (by simp only[execOp,d]) (BV f (BV f e)) ?_;rintro v g ⟨w,u,rfl,h⟩;exact Mc (Mc h)
 ·rename_i t m s x d;exact qB (by simp only[execOp,d]) (BV f (BV f (BV f e)))
 ·rename_i s I x d;exact IG (by simp only[execOp,d]) (BV f e)
 ·rename_i J t x F _ d;exact IG (by simp only[execOp,d]) (BV f (BV f e))
 ·rename_i x t u ok d;exact IG (by simp only[execOp,d]) (BV f e)
 ·rename_i t x F d;exact qB (by simp only[execOp,d]) (AIH (BV f (BV f e)))
 ·rename_i t x d;intro n;have p:=Rj (BV f e);unfold EV;simp only[execOp,d];rw[ja ASI];exact⟨_,_,rfl,p⟩
 ·rename_i t len L d;intro n;unfold uF at e;split at e
  ·rename_i M G;have p:=SX f e;split at p
   ·rename_i cells k;unfold EV;simp only[execOp,d];rw[ja (ARD (A:=A) (n:=n) (h:=h) G (cells:=cells) (by rw[<- k];congr 1;simp))];exact⟨_,_,rfl,p⟩
   ·exact p.elim
  ·exact e.elim
 ·rename_i t x d;refine X8 (by simp only[execOp,d]) (BV f e) ?_;rintro v g ⟨b,rfl,h⟩;exact h
 ·rename_i x s d;refine X8 (by simp only[execOp,d]) (BV f e) ?_;rintro v g (⟨rfl,h⟩|⟨w,u,rfl,h⟩)
  ·exact h
  ·exact Mc (Mc h)
 ·rename_i x d;refine X8 (by simp only[execOp,d]) (BV f e) ?_;rintro v g ⟨w,u,rfl,h⟩;exact Mc (Mc h)
 ·rename_i d;exact z (λH b k=>by rw[d] at k;cases k) e
 ·rename_i d;exact z (λH b k=>by rw[d] at k;cases k) e
 ·exact e.elim
end
def qC:List Prop->Prop->Prop
 | [],K=>K
 |p::l,K=>p/\qC l K
theorem uH: ∀ {l:List Prop} {K:Prop},qC l K->(∀ p∈l,p)/\K
 | [],_,a=>⟨λ_ b=>(by cases b),a⟩
 |p::l,_,⟨b,a⟩=>by
  obtain⟨d,e⟩:=uH a;refine⟨λf c=>?_,e⟩;rcases List.mem_cons.1 c with rfl|c
  ·exact b
  ·exact d f c
def AQ3(ord:Nat->Nat->Bool)(i:Nat)(a:aa)(b:List (Nat×(aa->Prop))):List Prop:=(b.filter λp=>un ord i p.1).map λp=>p.2 a
def nZ(ops:Array Oper)(e:Oper)(a:Env)(c d:Env->Prop):Prop:=
 match e.guard with
 |none=>c a
 |some (f,h)=>match ops[f]? with
  |some i=>match i.dst with
   |some b=>match a.get b with
    |some (.bool g)=>match h with
     |true=>af g (c (a.set b (.bool true))) (d (a.set b (.bool false)))
     |false=>af g (d (a.set b (.bool true))) (c (a.set b (.bool false)))
    |some _=>d a
    |none=>False
   |none=>False
  |none=>False
def Ul(A:al)(P:Q1)(N:Nat)(ops:Array Oper):List Oper->Env->aa->(Env->aa->Prop)->Prop
 | [],a,b,c=>c a b
 |o::rest,a,b,c=>
  match nH N o.dst with
  |false=>False
  |true=>nZ ops o a
   (λa=>match cls P o with
    | .pure=>nL P o a λv=>Ul A P N ops rest (a.put o.dst v) b c
    | .load=>nX P o a b λv _=>Ul A P N ops rest (a.put o.dst v) b c
    | .fE=>jV A P ops o a b λv d=>Ul A P N ops rest (a.put o.dst v) d c)
   (λa=>Ul A P N ops rest (a.put o.dst undef) b c)
theorem uI {ops:Array Oper}{k:Oper}{N:Nat}{a:Act}{e:Env}(f:Fits N a e){q s:Env->Prop}(b:nZ ops k e q s):
  (Region.wanted k (yielded ops a.tmps)=true/\ ∃h,Fits N a h/\q h)\/(Region.wanted k (yielded ops a.tmps)=false/\ ∃h,Fits N a h/\s h):=by
 unfold nZ at b;split at b
 ·rename_i c;exact .inl ⟨by simp[Region.wanted,c],e,f,b⟩
 ·rename_i t x c;split at b
  ·rename_i y u;split at b
   ·rename_i l hd;split at b
    ·rename_i g n;have i:=f.get l _ n;have d:yielded ops a.tmps t=some g:=by simp[yielded,u,hd,i]
     have j:Fits N a (e.set l (.bool g)):=f.py i;split at b
     ·obtain⟨o,p⟩:=af.mk b;cases g with
      |true=>exact .inl ⟨by simp[Region.wanted,c,d],_,j,o rfl⟩
      |false=>exact .inr ⟨by simp[Region.wanted,c,d],_,j,p rfl⟩
     ·obtain⟨o,p⟩:=af.mk b;cases g with
      |true=>exact .inr ⟨by simp[Region.wanted,c,d],_,j,o rfl⟩
      |false=>exact .inl ⟨by simp[Region.wanted,c,d],_,j,p rfl⟩
    ·rename_i v w n;have i:=f.get l _ n;refine .inr ⟨?_,e,f,b⟩;have d:yielded ops a.tmps t=none:=by simp only[yielded,u,hd,i,Pa];cases v<;>first|rfl|exact absurd rfl (w _)
     simp[Region.wanted,c,d]
    ·exact b.elim
   ·exact b.elim
  ·exact b.elim
structure QV (W:List Nat) (a a':Act):Prop where
 get: ∀t,t∉W->a'.tmps[t]? =a.tmps[t]?
 ds:a'.defers=a.defers
theorem QV.refl(W:List Nat)(a:Act):QV W a a:=⟨λ_ _=>rfl,rfl⟩
theorem QV.put {W:List Nat}{a d:Act}(c:QV W a d){b:Option Tmp}{v:J0}(hd: ∀t,b=some t->t∈W):QV W a (d.put b v):=by
 cases b with
 |none=>exact c
 |some b=>
  refine⟨λt e=>?_,c.ds⟩;have:b≠t:=λf=>e (f▸hd b rfl)
  simp only[Act.put];rw[DQ this];exact c.get t e
def dstsOf(l:List Oper):List Nat:=l.filterMap (·.dst)
theorem uJ {l:List Oper}{a:Oper}(c:a∈l){b:Nat}(hd:a.dst=some b):b∈dstsOf l:=List.mem_filterMap.2 ⟨a,c,hd⟩
section
variable {P : Q1} {A : al} {r : Option Nat} {m N : Nat} {ops : Array Oper} {ord : Nat -> Nat -> Bool}
theorem Wy {a:Oper}(c:cls P a≠ .fE):Jo a:=λe b d=>c (by simp[cls,d])
theorem Ym {b:Oper}(c:cls P b≠ .fE):KU b=true:=by
 unfold KU;split
 ·rename_i a;exact absurd (by simp[cls,a]) c
 ·rename_i a;exact absurd (by simp[cls,a]) c
 ·rfl
theorem AG5 {ops:Array Oper}{b:Oper}{d:Env}{e:aa}{K:A2L}(c:jV A P ops b d e K):KU b=true:=by
 unfold KU;split
 ·rename_i a;simp[jV,a] at c
 ·rename_i a;simp[jV,a] at c
 ·rfl
theorem uK {n:Env->aa->Prop}{p:Exit->Act->World->Prop}: ∀(l:List Oper) (i:Env) (e:aa) (a:Act) (f:Nat),Ul A P N ops l i e n->Fits N a i->
  (∀ q c g h,Fits N q c->QV (dstsOf l) a q->n c g->p .normal q (A.at g h))->wpListIn (Fw r) m P ops p l a (A.at e f)
 | [],i,e,a,f,b,s,u=>u a i e f s (QV.refl _ _) b
 |o::rest,i,e,a,f,b,s,u=>by
  unfold Ul at b;split at b
  ·exact b.elim
  ·rename_i hd;have next: ∀(v:J0) (c:Env) (g:aa) (h:Nat),Fits N a c->Ul A P N ops rest (c.put o.dst v) g n->wpListIn (Fw r) m P ops p rest (a.put o.dst v) (A.at g h):=by
    intro v c g h d w;refine uK rest _ g _ h w (d.put hd) ?_;intro C D E F G B H;refine u C D E F G ⟨λt j=>?_,B.ds.trans ?_⟩ H
    ·have I:t∉dstsOf rest:=λK=>j (by simp only[dstsOf,Wa];split<;>simp_all [dstsOf])
     rw[B.get t I];exact(QV.put (W:=dstsOf (o::rest)) (QV.refl _ a) (λt j=>uJ CH j)).get t j
    ·cases o.dst<;>rfl
   unfold wpListIn;rcases uI s b with⟨y,c,d,b⟩|⟨y,c,d,b⟩
   ·rw[if_pos y];split at b
    ·rename_i k;have w:Jo o:=Wy (P:=P) (by rw[k];intro x;cases x);obtain⟨v,z,b⟩:=uC d w b;refine EV.wpIn (Ym (P:=P) (by rw[k];intro x;cases x)) ?_;unfold EV;rw[z];exact next v c e f d b
    ·rename_i k;obtain⟨v,st,z,J,b⟩:=cC (A:=A) d b;refine EV.wpIn (Ym (P:=P) (by rw[k];intro x;cases x)) ?_;unfold EV;rw[z e J f];exact next v c e f d b
    ·refine EV.wpIn (AG5 b) ((uG d b f).mono ?_);rintro v L ⟨g,h,rfl,b⟩;exact next v c g h d b
   ·rw[if_neg (by rw[y];simp)];exact⟨λ_ _=>trivial,next undef c e f d b⟩
def gU(P:Q1)(a:Oper):Bool:=match cls P a with| .fE=>false|_=>true
abbrev Ke:=Env->aa->List (Nat×(aa->Prop))->Prop
def o0(A:al)(P:Q1)(N:Nat)(ops:Array Oper)(ord:Nat->Nat->Bool)(i:Nat)(K:Ke):Ke:=λa c d=>
 match ops[i]? with
 |none=>False
 |some b=>match nH N b.dst with
  |false=>False
  |true=>nZ ops b a
   (λa=>match cls P b with
    | .pure=>nL P b a λv=>K (a.put b.dst v) c d
    | .load=>nX P b a c λv st=>K (a.put b.dst v) c ((i,st)::d)
    | .fE=>jV A P ops b a c λv e=>qC (AQ3 ord i e d) (K (a.put b.dst v) e d))
   (λa=>K (a.put b.dst undef) c d)
def qD(a:Nat->Prop):List Nat->Prop
 | []=>True
 | [i]=>a i
 |i::l=>a i/\qD a l
theorem uL {c:Nat->Prop}: ∀ {l:List Nat},qD c l-> ∀i∈l,c i
 | [],_,_,a=>by cases a
 | [j],a,i,b=>by
  have:i=j:=by simpa using b
  subst this;exact a
 |j::x::l,a,i,b=>by
  rcases List.mem_cons.1 b with rfl|b
  ·exact a.1
  ·exact uL a.2 i b
def jW(A:al)(P:Q1)(N:Nat)(ops:Array Oper)(ord:Nat->Nat->Bool)(c:Env->aa->Prop):Nat->List Nat->Ke
 |_,[]=>λa b _=>c a b
 |0,_::_=>λ_ _ _=>False
 |f+1,x::l=>λa b d=>
  match l9 ops (gU P) ord (x::l) with
  |some i=>o0 A P N ops ord i (jW A P N ops ord c f ((x::l).erase i)) a b d
  |none=>qD (λi=>o0 A P N ops ord i (jW A P N ops ord c f ((x::l).erase i)) a b d) ((x::l).filter (Re ord (x::l)))
def qE(c d:List (Nat×(aa->Prop))):Prop:= ∀b∈d,(∀ a,b.2 a)\/ ∃p∈c,p.1=b.1/\ ∀a,p.2 a->b.2 a
theorem ZQ {y:Act}{i:Nat}{K:Ke}{F:Kt}
  (u: ∀j e a k l,K j e k->Fits N a j->QV (dstsOf ops.toList) y a->qE k l->F a e l)
  {j:Env} {e:aa} {a:Act} {k:List (Nat×(aa->Prop))} {l:List (Nat×(aa->Prop))}
  (b:o0 A P N ops ord i K j e k) (H:Fits N a j) (I:QV (dstsOf ops.toList) y a) (n:qE k l):FI P A ops (gU P) ord i F a e l:=by
 unfold o0 at b;unfold FI;split at b
 ·exact b.elim
 ·rename_i g G;have J:g∈ops.toList:=by rw[Array.mem_toList_iff];exact Wb G
  try rw[G]
  try simp only
  split at b
  ·exact b.elim
  ·rename_i hd;have w: ∀v,QV (dstsOf ops.toList) y (a.put g.dst v):=λv=>I.put (λt L=>uJ J L)
   rcases uI H b with⟨z,M,d,b⟩|⟨z,M,d,b⟩
   ·rw[if_pos z];split at b
    ·rename_i h;have o:gU P g=true:=by simp[gU,h]
     rw[if_pos o];have O:Jo g:=Wy (P:=P) (by rw[h];intro x;cases x);obtain⟨v,q,b⟩:=uC d O b;refine⟨v,λB=>q _,?_⟩;refine u _ _ _ _ _ b (d.put hd) (w v) ?_;intro s c;rcases List.mem_cons.1 c with rfl|c
     ·exact .inl λe B=>q _
     ·exact n s c
    ·rename_i h;have o:gU P g=true:=by simp[gU,h]
     rw[if_pos o];obtain⟨v,st,q,Q,b⟩:=cC (A:=A) d b;refine⟨v,q e Q,?_⟩;refine u _ _ _ _ _ b (d.put hd) (w v) ?_;intro s c;rcases List.mem_cons.1 c with rfl|c
     ·exact .inr ⟨(i,st),CH,rfl,q⟩
     ·rcases n s c with f|⟨p,C,f,D⟩
      ·exact .inl f
      ·exact .inr ⟨p,AH _ C,f,D⟩
    ·rename_i h;have o: ¬gU P g=true:=by simp[gU,h]
     rw[if_neg o];intro B;refine(uG d b B).mono ?_;rintro v U ⟨E,R,rfl,b⟩;obtain⟨S,b⟩:=uH b;refine⟨E,R,rfl,?_,?_⟩
     ·intro s c T;rcases n s c with f|⟨p,C,f,D⟩
      ·exact f E
      ·exact D E (S _ (List.mem_map.2 ⟨p,List.mem_filter.2 ⟨C,by rw[f];exact T⟩,rfl⟩))
     ·exact u _ _ _ _ _ b (d.put hd) (w v) n
   ·rw[if_neg (by rw[z];simp)];exact u _ _ _ _ _ b (d.put hd) (w undef) n
theorem qF {q:Env->aa->Prop}{a0:Act}{Q:Act->aa->Prop}(n: ∀o s t,Fits N o s->QV (dstsOf ops.toList) a0 o->q s t->Q o t):
  ∀(f:Nat) (l:List Nat) (c:Env) (d:aa) (a:Act) (e:List (Nat×(aa->Prop))) (g:List (Nat×(aa->Prop))),
   jW A P N ops ord q f l c d e->Fits N a c->QV (dstsOf ops.toList) a0 a->qE e g->FT P A ops (gU P) ord Q f l a d g
 |_,[],c,d,a,e,g,b,h,j,_=>by
  unfold jW at b;unfold FT;exact n a c d h j b
 |0,_::_,c,d,a,e,g,b,_,_,_=>by
  unfold jW at b;exact b.elim
 |f+1,x::l,c,d,a,e,g,b,h,j,k=>by
  unfold jW at b;unfold FT;split
  ·rename_i i p;rw[p] at b;exact ZQ (λc d a e g b h j k=>qF n f _ c d a e g b h j k) b h j k
  ·rename_i p;rw[p] at b;intro i u v;exact ZQ (λc d a e g b h j k=>qF n f _ c d a e g b h j k) (uL b i (List.mem_filter.2 ⟨u,v⟩)) h j k
def mq(A:al)(P:Q1)(N:Nat)(ops:Array Oper)(d:Bool)(a:Env)(b:aa)(c:Env->aa->Prop):Prop:=
 match d with
 |false=>Ul A P N ops ops.toList a b c
 |true=>match oJ ops (gU P) (pK ops) with
  |true=>jW A P N ops (pK ops) c ops.size (List.range ops.size) a b []
  |false=>False
theorem AGV {id:Nat}{g:Bool}{h:Env}{i:aa}{f:Env->aa->Prop}{a:Act}{q:Nat}{Q:Exit->Act->World->Prop}(s:P.follows .mixedOrders=true)
  (e:mq A P N ops g h i f) (o:Fits N a h) (p: ∀b c d j,Fits N b c->QV (dstsOf ops.toList) a b->f c d->Q .normal b (A.at d j)):
  (Code.region id ops g).wpIn (Fw r) m P Q a (A.at i q):=by
 unfold mq at e;cases g with
 |false=>exact wpIn_region_list (uK _ _ _ _ _ e o p)
 |true=>
  simp only[] at e;split at e
  ·rename_i t;refine AAZ (qb:=gU P) (ord:=pK ops) (Q:=λb d=> ∃c,Fits N b c/\QV (dstsOf ops.toList) a b/\f c d) ?_ s t ?_
   ·rintro b d j ⟨c,k,l,n⟩;exact p b c d j k l n
   ·exact qF (Q:=λb d=> ∃c,Fits N b c/\QV (dstsOf ops.toList) a b/\f c d) (a0:=a) (λb c d k l n=>⟨c,k,l,n⟩) _ _ h i a [] []
     e o (QV.refl _ _) (λ_ u=>by cases u)
  ·exact e.elim
end
inductive Lv where
 |one (s:Sc)
 |agg (l:List Sc)
def mC:List Sc->Type
 | []=>Unit
 |s::l=>s.Ty×mC l
def jX:(l:List Sc)->mC l->List J0
 | [],_=> []
 |s::l,x=>s.val x.1::jX l x.2
def Lv.Ty:Lv->Type
 | .one s=>s.Ty
 | .agg l=>mC l
def Lv.val:(v:Lv)->v.Ty->J0
 | .one s,x=>s.val x
 | .agg l,x=> .agg (jX l x).toArray
def Sc.un(v:J0):(s:Sc)->(s.Ty->Prop)->Prop
 | .int a,K=>match v with| .int d e=>(match decide (d=a) with|true=>K e|false=>False)|_=>False
 | .bool,K=>match v with| .bool b=>K b|_=>False
 | .str,K=>match v with| .string s=>K s|_=>False
 | .ptr,K=>match v with| .pointer p=>K p|_=>False
 | .sl,K=>match v with| .slice p l c=>K ⟨p,l,c⟩|_=>False
 | .map,K=>match v with| .map f=>K f|_=>False
 | .any,K=>K v
 | .js a,K=>match v with| .float d e=>(match decide (d=a) with|true=>K e|false=>False)|_=>False
 | .jt a,K=>match v with| .complex d e m=>(match decide (d=a) with|true=>K (e,m)|false=>False)|_=>False
theorem Sc.dB {v:J0}: ∀ {s:Sc} {K:s.Ty->Prop},s.un v K-> ∃x,v=s.val x/\K x
 | .int c,K,a=>by
  cases v<;>simp only[Sc.un] at a
  rename_i d b;split at a
  ·rename_i hd;have hd:=of_decide_eq_true hd;subst hd;exact⟨b,rfl,a⟩
  ·exact a.elim
 | .bool,K,a=>by cases v<;>simp only[Sc.un] at a;exact⟨_,rfl,a⟩
 | .str,K,a=>by cases v<;>simp only[Sc.un] at a;exact⟨_,rfl,a⟩
 | .ptr,K,a=>by cases v<;>simp only[Sc.un] at a;exact⟨_,rfl,a⟩
 | .sl,K,a=>by cases v<;>simp only[Sc.un] at a;exact⟨_,rfl,a⟩
 | .map,K,a=>by cases v<;>simp only[Sc.un] at a;exact⟨_,rfl,a⟩
 | .any,K,a=>⟨v,rfl,a⟩
 | .js c,K,a=>by
  cases v<;>simp only[Sc.un] at a
  rename_i d b;split at a
  ·rename_i hd;have hd:=of_decide_eq_true hd;subst hd;exact⟨b,rfl,a⟩
  ·exact a.elim
 | .jt c,K,a=>by
  cases v<;>simp only[Sc.un] at a
  rename_i d b m;split at a
  ·rename_i hd;have hd:=of_decide_eq_true hd;subst hd;exact⟨(b,m),rfl,a⟩
  ·exact a.elim
def qM:(l:List Sc)->List J0->(mC l->Prop)->Prop
 | [],[],K=>K ()
 |s::l,v::a,K=>s.un v λx=>qM l a λb=>K (x,b)
 | [],_::_,_=>False
 |_::_,[],_=>False
theorem vJ: ∀ {l:List Sc} {c:List J0} {K:mC l->Prop},qM l c K-> ∃b,c=jX l b/\K b
 | [],[],_,a=>⟨(),rfl,a⟩
 |s::l,v::c,K,a=>by
  obtain⟨x,d,e⟩:=Sc.dB a;obtain⟨b,f,g⟩:=vJ e;exact⟨(x,b),by rw[d,f];rfl,g⟩
 | [],_::_,_,a=>a.elim
 |_::_,[],_,a=>a.elim
def Lv.un(v:J0):(a:Lv)->(a.Ty->Prop)->Prop
 | .one s,K=>s.un v K
 | .agg l,K=>match v with| .agg b=>qM l b.toList K|_=>False
theorem Lv.dB {v:J0}: ∀ {b:Lv} {K:b.Ty->Prop},b.un v K-> ∃x,v=b.val x/\K x
 | .one s,K,a=>Sc.dB a
 | .agg l,K,a=>by
  cases v<;>simp only[Lv.un] at a
  rename_i e;obtain⟨c,d,a⟩:=vJ a;refine⟨c,?_,a⟩;simp only[Lv.val];rw[<- d]
abbrev Live:=List (Nat×Lv)
def gV:Live->Type
 | []=>Unit
 |x::a=>x.2.Ty×gV a
def NZ:(L:Live)->Env->(gV L->Prop)->Prop
 | [],_,K=>K ()
 |x::b,a,K=>match a.get x.1 with|some v=>x.2.un v λc=>NZ b a λd=>K (c,d)|none=>False
def MB:(L:Live)->gV L->Nat->Option J0
 | [],_,_=>none
 |x::b,a,t=>bif Nat.beq t x.1 then some (x.2.val a.1) else MB b a.2 t
def je(t:Nat):List Nat->Bool
 | []=>false
 |x::a=>bif Nat.beq t x then true else je t a
def Gf(L:Live)(b:List Nat)(a:Env)(c:gV L):Env:=
 {get:=λt=>match MB L c t with|some v=>some v|none=>bif je t b then a.get t else none,ds:=a.ds}
def Nj(b a:List Nat):Bool:=match b with| []=>true|x::c=>bif je x a then false else Nj c a
theorem ZI {t:Nat}: ∀ {l:List Nat},je t l=true↔t∈l
 | []=>by simp[je]
 |x::b=>by
  unfold je;by_cases a:t=x
  ·subst a;simp
  ·rw[UR a];simp only[cond_false,HS,a,false_or];exact ZI
theorem Uw {c:List Nat}: ∀ {e:List Nat},Nj e c=true-> ∀t∈e,t∉c
 | [],_,_,f=>by cases f
 |x::h,a,t,d=>by
  unfold Nj at a;cases b:je x c with
  |true=>rw[b] at a;cases a
  |false=>
   rw[b] at a;rcases List.mem_cons.1 d with rfl|d
   ·intro g;rw[ZI.2 g] at b;cases b
   ·exact Uw a t d
theorem JX {d:Env}: ∀ {L:Live} {K:gV L->Prop},NZ L d K-> ∃c,(∀ t v,MB L c t=some v->d.get t=some v)/\K c
 | [],K,b=>⟨(),λ_ _ a=>(by cases a),b⟩
 |(e,g)::h,K,b=>by
  unfold NZ at b;split at b
  ·rename_i v i;obtain⟨x,j,k⟩:=Lv.dB b;obtain⟨c,l,m⟩:=JX k;refine⟨(x,c),λt v a=>?_,m⟩;change (bif Nat.beq t e then some (g.val x) else MB h c t)=some v at a;by_cases f:t=e
   ·subst f;have n:Nat.beq t t=true:=by simp
    rw[n] at a;rw[<- a,cond_true,<-j];exact i
   ·rw[UR f] at a;exact l t v a
  ·exact b.elim
theorem vK {L:Live}{b:List Nat}{f:Env}{c:gV L}{t:Nat}{v:J0}(a:(Gf L b f c).get t=some v):
  MB L c t=some v\/(MB L c t=none/\t∈b/\f.get t=some v):=by
 unfold Gf at a;simp only at a;split at a
 ·rename_i u d;rw[d];exact .inl a
 ·rename_i d;cases e:je t b with
  |false=>rw[e] at a;cases a
  |true=>rw[e] at a;exact .inr ⟨d,ZI.1 e,a⟩
theorem AHB {L:Live}{c d:gV L}{t:Nat}(a:MB L c t=none):MB L d t=none:=by
 induction L with
 |nil=>rfl
 |cons x f e=>
  unfold MB at a ⊢;by_cases b:t=x.1
  ·subst b;simp at a
  ·rw[UR b] at a ⊢;exact e a
structure Fu (W:List Nat) (nd:Bool) (a a':Act):Prop where
 get: ∀t,t∉W->a'.tmps[t]? =a.tmps[t]?
 ds:nd=true->a'.defers=a.defers
theorem Fu.refl {W:List Nat}{nd:Bool}{a:Act}:Fu W nd a a:=⟨λ_ _=>rfl,λ_=>rfl⟩
theorem Fu.trans {e f V:List Nat}{nd g h:Bool}{a b c:Act}(i:Fu e nd a b)(j:Fu f g b c)(m: ∀t∈e,t∈V)(n: ∀t∈f,t∈V)(k:h=true->nd=true/\g=true):Fu V h a c:=
 ⟨λt l=>(j.get t λd=>l (n t d)).trans (i.get t λd=>l (m t d)),λd=>(j.ds (k d).2).trans (i.ds (k d).1)⟩
theorem Fu.aj {d V:List Nat}{nd e:Bool}{a b:Act}(f:Fu d nd a b)(g: ∀t∈d,t∈V)(h:e=true->nd=true):Fu V e a b:=
 ⟨λt i=>f.get t λc=>i (g t c),λc=>f.ds (h c)⟩
theorem Fits.join {N:Nat}{a b:Act}{d e:Env}(f:Fits N a d)(g:Fits N b e){h:List Nat}{nd:Bool}(l:nd=true)(i:Fu h nd a b){L:Live}{j:List Nat}(m:Nj j h=true){k:gV L}
  (n: ∀t v,MB L k t=some v->e.get t=some v):Fits N b (Gf L j d k):=by
 refine⟨g.size,λt v o=>?_,(i.ds l).trans f.ds⟩;rcases vK o with c|⟨_,p,c⟩
 ·exact g.get t v (n t v c)
 ·rw[i.get t (Uw m t p)];exact f.get t v c
theorem Fits.again {N:Nat}{a b:Act}{e f:Env}{L:Live}{c:List Nat}{m g:gV L}(h:Fits N a (Gf L c e m))(i:Fits N b f){j:List Nat}{nd:Bool}(n:nd=true)(k:Fu j nd a b)
  (o:Nj c j=true) (p: ∀t v,MB L g t=some v->f.get t=some v):Fits N b (Gf L c e g):=by
 refine⟨i.size,λt v q=>?_,(k.ds n).trans h.ds⟩;rcases vK q with d|⟨r,l,d⟩
 ·exact i.get t v (p t v d)
 ·rw[k.get t (Uw o t l)];refine h.get t v ?_;unfold Gf;simp only;rw[AHB r,ZI.2 l];exact d
inductive bT where
 |none
 |bB (L:Live) (kept:List Nat)
 |seq (x y:bT)
 |bC (L:Live) (kept:List Nat) (x y:bT)
 |cond (x y:bT)
 |block (x:bT)
 |bM (L:Live) (kept:List Nat) (x:bT)
 |loop (L:Live) (kept:List Nat) (x:bT)
 |range (ps:List Lv) (x y:bT)
 |scope (L:Live) (kept:List Nat) (x y z:bT)
def writes:Code->List Nat
 | .region _ c _=>dstsOf c.toList
 | .seq a b=>writes a++writes b
 | .cond _ a b=>writes a++writes b
 | .block _ a=>writes a
 | .loop a=>writes a
 | .scope a=>writes a
 |_=> []
def GV:Code->Bool
 | .rangeFunc .. =>false
 | .seq a b=>GV a&&GV b
 | .cond _ a b=>GV a&&GV b
 | .block _ a=>GV a
 | .loop a=>GV a
 | .scope a=>GV a
 |_=>true
inductive iP where
 |ag (i:Nat)
 |eK (l:Nat)
def kW:Option Nat->Code
 |none=> .ret
 |some id=> .exit id
def iQ:List Lv->Type
 | []=>Unit
 |lv::l=>lv.Ty×iQ l
def kX:(l:List Lv)->iQ l->List J0
 | [],_=> []
 |lv::l,x=>lv.val x.1::kX l x.2
theorem Ye: ∀(l:List Lv) (x:iQ l),(kX l x).length=l.length
 | [],_=>rfl
 |_::l,x=>by simp[kX,Ye l x.2]
def jY:Env->List Tmp->List J0->Env
 |e,p::ps,v::a=>jY (e.set p v) ps a
 |e,_,_=>e
def Xc(k:al)(P:Q1)(fv:J0)(e:List Lv)(body:iQ e->Nat->aa->(aa->Prop)->(Option Nat->aa->Prop)->Prop)(a:aa)(n:aa->Prop)(o:Option Nat->aa->Prop):Prop:=
 ∀(rec:Go.Loop),rec.state= .ready->rec.pending=none->rec.params.size=e.length->
  (∀ (x:iQ e) (h:aa) (i:A2L),h[a.size+1]? =some (.loop rec)->
   body x (a.size+1) h
    (λc=> ∃d,c[a.size+1]? =some (.loop d)/\i (.bool true) (c.setIfInBounds (a.size+1) (.loop {d with state:= .ready,pending:=none})))
    (λg c=> ∃d,c[a.size+1]? =some (.loop d)/\i (.bool false) (c.setIfInBounds (a.size+1) (.loop {d with state:= .done,pending:=some (kW g)})))->
   Em k P (.func (.yield (a.size+1)) #[] #[]) (kX e x).toArray h i)->
  ∃f l,TG P (do let m <-Deferred.ofValue fv #[.func (.yield (a.size+1)) #[] #[]];invoke m.target m.args:Sem Next) (λx=>x= .enter f l)/\
   AA k P f l ((a.push (.deferred (some []))).push (.loop rec)) λ_ j=>
    ∃b,j[a.size+1]? =some (.loop b)/\b.state≠ .busy/\
     ((b.pending=none/\n (j.setIfInBounds (a.size+1) (.loop {b with state:= .exhausted})))\/
     ∃g,b.pending=some (kW g)/\o g (j.setIfInBounds (a.size+1) (.loop {b with state:= .exhausted})))
def F7(n:al)(P:Q1)(N:Nat)(q:Bool):Code->bT->Env->aa->(Env->aa->Prop)->(iP->Env->aa->Prop)->(Env->aa->Prop)->Prop
 | .skip,_,d,e,k,_,_=>k d e
 | .exit id,_,d,e,_,kb,_=>kb (.ag id) d e
 | .ret,_,d,e,_,_,m=>m d e
 | .label _,_,d,e,k,_,_=>k d e
 | .goto l,_,d,e,_,kb,_=>kb (.eK l) d e
 | .region _ y u,r,d,e,k,_,_=>match r with
  | .bB L o=>match Nj o (dstsOf y.toList) with
   |true=>ai (λj e=>k (Gf L o d j) e) λK=>mq n P N y u d e λh g=>NZ L h λj=>K j g
   |false=>False
  |_=>mq n P N y u d e k
 | .seq a b,r,d,e,k,kb,m=>match r with
  | .seq x t=>F7 n P N q a x d e (λd e=>F7 n P N q b t d e k kb m) kb m
  | .bC L o x t=>match Nj o (writes a)&&GV a with
   |true=>ai (λj e=>F7 n P N q b t (Gf L o d j) e k kb m) λK=>F7 n P N q a x d e (λh g=>NZ L h λj=>K j g) kb m
   |false=>False
  |_=>False
 | .cond c p C,r,d,e,k,kb,m=>match r with
  | .cond x t=>rd d c λv=>match v with| .bool b=>af b (F7 n P N q p x d e k kb m) (F7 n P N q C t d e k kb m)|_=>False
  |_=>False
 | .block id c,r,d,e,k,kb,m=>match r with
  | .block x=>F7 n P N q c x d e k (λs h g=>match s with| .ag i=>(match Nat.beq i id with|true=>k h g|false=>kb (.ag i) h g)| .eK l=>kb (.eK l) h g) m
  | .bM L o x=>match Nj o (writes c)&&GV c with
   |true=>ai (λj e=>k (Gf L o d j) e) λK=>
     F7 n P N q c x d e (λh g=>NZ L h λj=>K j g) (λs h g=>match s with| .ag i=>(match Nat.beq i id with|true=>NZ L h λj=>K j g|false=>kb (.ag i) h g)| .eK l=>kb (.eK l) h g) m
   |false=>False
  |_=>False
 | .loop c,r,d,e,_,kb,m=>match r with
  | .loop L o x=>match Nj o (writes c)&&GV c with
   |true=>NZ L d λj=>Loop (λK j e=>F7 n P N q c x (Gf L o d j) e (λh g=>NZ L h λj=>K j g) kb m) j e
   |false=>False
  |_=>False
 | .rangeFunc f ps D c,r,d,e,k,kb,m=>match r with
  | .range z x t=>match (!q)&&Nat.beq z.length ps.size&&ps.toList.all λp=>Nat.blt p N with
   |true=>rd d f λfv=>Xc n P fv z
     (λargs l E F B=>F7 n P N true D x (jY {get:=d.get,ds:= []} ps.toList (kX z args)) E
      (λh g=> ∃A,g[l]? =some (.loop A)/\A.state= .ready/\
       F7 n P N true c t h (g.setIfInBounds l (.loop {A with state:= .busy})) (λ_ w=>F w) (λs _ w=>match s with| .ag i=>B (some i) w| .eK _=>False) (λ_ w=>B none w))
      (λ_ _ _=>False) (λ_ _=>False))
     e
     (λg=>k {get:=d.get,ds:=e.size::d.ds} g)
     (λs g=>match s with|none=>m {get:=d.get,ds:=e.size::d.ds} g|some i=>kb (.ag i) {get:=d.get,ds:=e.size::d.ds} g)
   |false=>False
  |_=>False
 | .scope (.seq b (.seq c (.seq (.label l) u))),r,d,e,k,kb,m=>match r with
  | .scope L o G x t=>match ((findLabel b l).isNone&&(findLabel c l).isNone)&&(Nj o (writes c++writes u)&&(GV b&&(GV c&&GV u))) with
   |true=>F7 n P N q b G d e (λd e=>F7 n P N q c x d e
     (λh g=>NZ L h λj=>Loop (λK j e=>F7 n P N q u t (Gf L o d j) e k
      (λs h g=>match s with| .ag i=>kb (.ag i) h g| .eK H=>match Nat.beq H l with|true=>NZ L h λj=>K j g|false=>False) m) j g)
     (λs h g=>match s with| .ag i=>kb (.ag i) h g| .eK _=>False) m) (λs h g=>match s with| .ag i=>kb (.ag i) h g| .eK _=>False) m
   |false=>False
  |_=>False
 |_,_,_,_,_,_,_=>False
def dv(d:al)(N:Nat)(e:List Nat)(nd:Bool)(f:Act)(g:Env->aa->Prop)(kb:iP->Env->aa->Prop)(h:Env->aa->Prop):Exit->Act->World->Prop:=
 λx a i=> ∃b c j,i=d.at c j/\Fits N a b/\Fu e nd f a/\(match x with
  | .normal=>g b c
  | .exit id=>kb (.ag id) b c
  | .goto l=>kb (.eK l) b c
  | .ret=>h b c
  |_=>False)
theorem dv.mono {e:al}{N:Nat}{f V:List Nat}{nd g:Bool}{h:Act}{j k:Env->aa->Prop}{kb l:iP->Env->aa->Prop}{m n:Env->aa->Prop}
  (q: ∀t∈f,t∈V) (r:g=true->nd=true) (s: ∀b c,j b c->k b c) (o: ∀i b c,kb i b c->l i b c) (u: ∀b c,m b c->n b c) {x:Exit} {a:Act} {p:World}
  (v:dv e N f nd h j kb m x a p):dv e N V g h k l n x a p:=by
 obtain⟨b,c,w,y,z,A,d⟩:=v;refine⟨b,c,w,y,z,A.aj q r,?_⟩;cases x<;>simp only at d ⊢
 ·exact s _ _ d
 ·exact o _ _ _ d
 ·exact o _ _ _ d
 ·exact u _ _ d
section
variable {F : Fence} {n : Nat} {P : Q1} {c : Code} {Q : Exit -> Act -> World -> Prop} {a : Act} {w : World}
def mD(F:Fence)(n:Nat)(P:Q1)(c:Code)(Q:Exit->Act->World->Prop)(a:Act)(w:World):Prop:=
 ∀(b:Frame) (e:List Item) (d:List Frame),b.roundOf=F.round->F.fn b.fn->F.room (d.length+1+n)->
  ∃f g h,Q f g h/\ArrivesIn (Machine.fenced P F) P (lone (b.atR a (.inLoop c::e)) d w) b e d f g h
theorem vL(r:c.wpIn F n P (Exit.then (mD F n P c Q) Q) a w)(b:Frame)(i:List Item)(f:List Frame)(k:b.roundOf=F.round)(m:F.fn b.fn)(o:F.room (f.length+1+n)):
  ∃j p q,Q j p q/\ArrivesIn (Machine.fenced P F) P (lone (b.atR a (.code c:: .inLoop c::i)) f w) b i f j p q:=by
 obtain⟨j,g,h,d,e⟩:=r b (.inLoop c::i) f k m o;cases j with
 |normal=>
  obtain⟨s,t,u,v,y⟩:=d b i f k m o;exact⟨s,t,u,v,.of_steps e y⟩
 |exit id=>exact⟨_,g,h,d,.pass (x:= .inLoop c) rfl (λ_ _=> .inl (by simp)) e⟩
 |goto l=>exact⟨_,g,h,d,.pass (x:= .inLoop c) rfl (λ_ _=> .inl (by simp)) e⟩
 |ret=>exact⟨_,g,h,d,.pass (x:= .inLoop c) rfl (λ_ _=> .inl (by simp)) e⟩
 |panic z=>exact⟨_,g,h,d,.pass (x:= .inLoop c) rfl (λ_ _=> .inl (by simp)) e⟩
 |outgrown=>exact⟨_,g,h,d,.pass (x:= .inLoop c) rfl (λ_ _=> .inl (by simp)) e⟩
theorem AH6(f:c.wpIn F n P (Exit.then (mD F n P c Q) Q) a w):mD F n P c Q a w:=λb g h i d e=>
 let ⟨j,k,l,m,o⟩:=vL f b g h i d e
 ⟨j,k,l,m,.of_steps (.one (fenced_calm d e rfl) stepR_inLoop) o⟩
theorem AGW(f:c.wpIn F n P (Exit.then (mD F n P c Q) Q) a w):(Code.loop c).wpIn F n P Q a w:=λb g h i d e=>
 let ⟨j,k,l,m,o⟩:=vL f b g h i d e
 ⟨j,k,l,m,.of_steps (.one (fenced_calm d e rfl) stepR_loop) o⟩
end
def YJ(F:Fence)(n:Nat)(P:Q1)(c rest:Code)(Q:Exit->Act->World->Prop)(a:Act)(w:World):Prop:=
 ∀(b:Frame) (e:List Item) (d:List Frame),b.roundOf=F.round->F.fn b.fn->F.room (d.length+1+n)->
  ∃f g h,Q f g h/\ArrivesIn (Machine.fenced P F) P (lone (b.atR a (.code rest:: .inScope c::e)) d w) b e d f g h
def oC(l:Nat)(b:Act->World->Prop)(Q:Exit->Act->World->Prop):Exit->Act->World->Prop
 | .goto d,a,w=>d=l/\b a w
 |e,a,w=>Q e a w
section
variable {F : Fence} {n : Nat} {P : Q1} {Q : Exit -> Act -> World -> Prop} {a : Act} {w : World}
theorem AEe {P:Q1}{b:Frame}{a:Act}{d:List Item}{e:List Frame}{w:World}{c:Code}:step P (lone (b.atR a (.inScope c::d)) e w)= .next (lone (b.atR a d) e w):=
 step_lone_go (by simp[stepG,stepG.exec,Frame.atR])
theorem AH1 {P:Q1}{b:Frame}{a:Act}{d:List Item}{e:List Frame}{w:World}{c:Code}:step P (lone (b.atR a (.code (.scope c)::d)) e w)= .next (lone (b.atR a (.code c:: .inScope c::d)) e w):=
 step_lone_go (by simp[stepG,stepG.exec,Frame.atR])
theorem vM {c rest x:Code}{l:Nat}(q:findLabel c l=some rest)(r:x.wpIn F n P (oC l (YJ F n P c rest Q) Q) a w):YJ F n P c x Q a w:=by
 intro b e m o i j;have s:gotoIn l (.inScope c::e)=some (.code rest:: .inScope c::e):=by simp[gotoIn,q]
 obtain⟨t,g,h,f,d⟩:=r b (.inScope c::e) m o i j;cases t with
 |normal=>exact⟨.normal,g,h,f,StepsIn.trans d (.one (fenced_calm i j rfl) AEe)⟩
 |exit id=>
  have p:exitTo id (.inScope c::e)=exitTo id e:=by simp[exitTo]
  exact⟨.exit id,g,h,f,λu k=>d.1 u (by rw[p];exact k),λv k=>d.2 v (by rw[p];exact k)⟩
 |goto E=>
  obtain⟨rfl,y⟩:=f;obtain⟨z,A,B,C,D⟩:=y b e m o i j;exact⟨z,A,B,C,.of_steps (d.1 _ s) D⟩
 |ret=>exact⟨_,g,h,f,d⟩
 |panic G=>exact⟨_,g,h,f,d⟩
 |outgrown=>exact⟨_,g,h,f,d⟩
theorem AEl {c rest:Code}{l:Nat}(f:findLabel c l=some rest)(g:c.wpIn F n P (oC l (YJ F n P c rest Q) Q) a w):(Code.scope c).wpIn F n P Q a w:=λb h i j d e=>
 let ⟨k,m,o,p,q⟩:=vM f g b h i j d e
 ⟨k,m,o,p,.of_steps (.one (fenced_calm d e rfl) AH1) q⟩
end
theorem QV.g {b:List Nat}{nd:Bool}{a d:Act}(e:QV b a d):Fu b nd a d:=⟨e.get,λ_=>e.ds⟩
theorem ASD(d:al)(b:aa)(n:Nat):(d.at b n).heap=b:=rfl
theorem run_getLoop {P:Q1}{d:al}{b:aa}{n l:Nat}{rec:Go.Loop}(e:b[l]? =some (.loop rec)):(Instr.getLoop l).run P (d.at b n)= .ok rec (d.at b n):=by simp[Instr.getLoop,Sem.run_bind,getObj,Sem.run,ASD,e]
theorem XY {P:Q1}{d:al}{b:aa}{n l:Nat}{rec:Go.Loop}{e:Obj}(f:b[l]? =some (.loop rec)):(setObj l e).run P (d.at b n)= .ok () (d.at (b.setIfInBounds l e) n):=by simp[setObj,Sem.run,f,al.at]
theorem run_beginRound {P:Q1}{d:al}{b:aa}{n l:Nat}{rec:Go.Loop}(e:b[l]? =some (.loop rec))(f:rec.state= .ready):
  (Instr.beginRound l).run P (d.at b n)= .ok () (d.at (b.setIfInBounds l (.loop {rec with state:= .busy})) n):=by
 simp[Instr.beginRound,Sem.run_bind,run_getLoop e,XY e,f]
theorem run_endRound {P:Q1}{e:al}{d:aa}{n l:Nat}{rec:Go.Loop}{b:Option Code}(f:d[l]? =some (.loop rec)):
  (Instr.endRound l b).run P (e.at d n)= .ok (.bool b.isNone) (e.at (d.setIfInBounds l (.loop {rec with state:=if b.isNone then .ready else .done,pending:=b})) n):=by
 simp[Instr.endRound,Sem.run_bind,run_getLoop f,XY f]
theorem run_endLoop {P:Q1}{d:al}{b:aa}{n l:Nat}{rec:Go.Loop}(e:b[l]? =some (.loop rec))(f:rec.state≠ .busy):
  (Instr.endLoop l).run P (d.at b n)= .ok rec.pending (d.at (b.setIfInBounds l (.loop {rec with state:= .exhausted})) n):=by
 simp_all [Instr.endLoop,Sem.run_bind,run_getLoop,XY,absurd]
theorem AFF {P:Q1}{d:al}{b:aa}{n:Nat}{fn:Q8}{tmps:Array J0}{ps:Array Tmp}{e body:Code}:
  (Instr.enterLoop fn tmps ps e body none).run P (d.at b n)=
   .ok (b.size+1,[kJ b.size]) (d.at ((b.push (.deferred (some []))).push (.loop {state:= .ready,pending:=none,fn,tmps,params:=ps,assign:=e,body,defers:=b.size})) n):=by
 simp[Instr.enterLoop,Sem.run_bind,newObj,Sem.run,al.at,kJ];rfl
theorem vN {N:Nat}: ∀(ps:List Tmp) (d:List J0) (e:Env) (tmps:Array J0),(∀ p∈ps,p<N)->Fits N {tmps:=tmps,defers:= []} e->
  Fits N {tmps:=(ps.zip d).foldl (λtmps (t,a)=>tmps.setIfInBounds t a) tmps,defers:= []} (jY e ps d)
 | [],_,_,_,_,b=>by simpa [jY] using b
 |_::_,[],_,_,_,b=>by simpa [jY] using b
 |p::ps,v::d,e,tmps,f,b=>by
  have g:=b.set (v:=v) (f p CH);exact vN ps d (e.set p v) (tmps.setIfInBounds p v) (λh i=>f h (AH _ i)) g
def YX(P:Q1)(b:al)(N:Nat)(c:Code):Prop:= ∀(m:Nat) (d:Bool) (e:Option Nat) (j:bT) (f:Env) (g:aa) (h:Env->aa->Prop) (kb:iP->Env->aa->Prop) (i:Env->aa->Prop) (a:Act) (n:Nat),
  (d=false->e=none)->F7 b P N d c j f g h kb i->Fits N a f->c.wpIn (Fw e) m P (dv b N (writes c) (GV c) a h kb i) a (b.at g n)
theorem AJn {P:Q1}{h:al}{N:Nat}{c b body:Code}{l:Nat}(ak:YX P h N c)(am:YX P h N b){m:Nat}{q:Bool}{j:Option Nat}{L:Live}{z:List Nat}{U V:bT}{r:Env}{d:aa}{W:Env->aa->Prop}{kb:iP->Env->aa->Prop}{s:Env->aa->Prop}{X a:Act}{n:Nat}{Y:List Nat}{nd:Bool}{Q:Exit->Act->World->Prop}{A:Act->World->Prop}
  (Z:q=false->j=none) (an:findLabel body l=some (.seq .skip b)) (ab:Nj z (writes c++writes b)=true) (ao:GV c=true) (ap:GV b=true)
  (aq:F7 h P N q c U r d
     (λk o=>NZ L k λe=>Loop (λK e d=>F7 h P N q b V (Gf L z r e) d W
      (λB k o=>match B with| .ag i=>kb (.ag i) k o| .eK C=>match Nat.beq C l with|true=>NZ L k λe=>K e o|false=>False) s) e o)
     (λB k o=>match B with| .ag i=>kb (.ag i) k o| .eK _=>False) s)
  (ac:Fits N a r) (ad: ∀f,Fu (writes c++writes b) true a f->Fu Y nd X f) (u:dv h N Y nd X W kb s=Q) (ar:A=YJ (Fw j) m P body (.seq .skip b) Q):(Code.seq c (.seq (.label l) b)).wpIn (Fw j) m P (oC l A Q) a (h.at d n):=by
 have au: ∀t∈writes c,t∈writes c++writes b:=λt D=>List.mem_append.2 (.inl D)
 have av: ∀t∈writes b,t∈writes c++writes b:=λt D=>List.mem_append.2 (.inr D)
 let aw:gV L->aa->Prop:=λe E=> ∀f G,Fits N f (Gf L z r e)->Fu (writes c++writes b) true a f->b.wpIn (Fw j) m P (oC l A Q) f (h.at E G)
 refine wpIn_seq (wpIn_mono (ak m q j U r d _ _ s a n Z aq ac) ?_);rintro H I aK ⟨ae,af,J,rfl,M,ax,p⟩;have O:Fu (writes c++writes b) true a I:=ax.aj au (λ_=>ao);have ag:=ad I O;cases H with
 |normal=>
  obtain⟨e,ay,az⟩:=JX p;refine wpIn_seq (wpIn_label ?_);have aA:=az aw ?_
  ·exact aA I J (ac.join M rfl O ab ay) O
  ·intro e E aC f G ah aD;refine wpIn_mono (am m q j V _ E _ _ s f G Z aC ah) ?_;rintro H v aL ⟨R,S,x,rfl,y,aE,g⟩;have ai:Fu (writes c++writes b) true f v:=aE.aj av (λ_=>ap);have aj:Fu (writes c++writes b) true a v:=aD.trans ai (λ_ d=>d) (λ_ d=>d) (λ_=>⟨rfl,rfl⟩);have T:=ad v aj;cases H with
   |normal=>rw[<- u];exact⟨R,S,x,rfl,y,T,g⟩
   |exit i=>rw[<- u];exact⟨R,S,x,rfl,y,T,g⟩
   |goto C=>
    simp only at g;split at g
    ·rename_i aF;have aG:=IH aF;subst aG;obtain⟨aM,aH,aI⟩:=JX g;refine⟨rfl,?_⟩;have hd:=aI v x (ah.again y rfl ai ab aH) aj;rw[ar] at hd ⊢;exact vM an (wpIn_seq (wpIn_skip hd))
    ·exact g.elim
   |ret=>rw[<- u];exact⟨R,S,x,rfl,y,T,g⟩
   |panic aJ=>exact g.elim
   |outgrown=>exact g.elim
 |exit i=>rw[<- u];exact⟨ae,af,J,rfl,M,ag,p⟩
 |goto C=>exact p.elim
 |ret=>rw[<- u];exact⟨ae,af,J,rfl,M,ag,p⟩
 |panic aJ=>exact p.elim
 |outgrown=>exact p.elim
theorem AJd {P:Q1}{e:al}{N:Nat}{b c d:Code}{l:Nat}(S:YX P e N b)(T:YX P e N c)(U:YX P e N d){m:Nat}{p:Bool}{s:Option Nat}{L:Live}{z:List Nat}{A V W:bT}{j:Env}{f:aa}{u:Env->aa->Prop}{kb:iP->Env->aa->Prop}{k:Env->aa->Prop}{a:Act}{n:Nat}
  (B:p=false->s=none) (X:(findLabel b l).isNone=true) (Y:(findLabel c l).isNone=true) (Z:Nj z (writes c++writes d)=true) (ab:GV b=true) (ac:GV c=true) (ad:GV d=true)
  (ae:F7 e P N p b A j f (λj f=>F7 e P N p c V j f
     (λg h=>NZ L g λq=>Loop (λK q f=>F7 e P N p d W (Gf L z j q) f u
      (λr g h=>match r with| .ag i=>kb (.ag i) g h| .eK C=>match Nat.beq C l with|true=>NZ L g λq=>K q h|false=>False) k) q h)
     (λr g h=>match r with| .ag i=>kb (.ag i) g h| .eK _=>False) k) (λr g h=>match r with| .ag i=>kb (.ag i) g h| .eK _=>False) k)
  (af:Fits N a j):(Code.scope (.seq b (.seq c (.seq (.label l) d)))).wpIn (Fw s) m P (dv e N (writes (.scope (.seq b (.seq c (.seq (.label l) d))))) (GV (.scope (.seq b (.seq c (.seq (.label l) d))))) a u kb k) a (e.at f n):=by
 have ag:findLabel b l=none:=by simpa using X
 have ah:findLabel c l=none:=by simpa using Y
 have D:findLabel (.seq b (.seq c (.seq (.label l) d))) l=some (.seq .skip d):=by simp[findLabel,ag,ah]
 have ai:GV (.scope (.seq b (.seq c (.seq (.label l) d))))=true:=by grind [GV]
 have E: ∀t∈writes b,t∈writes (.scope (.seq b (.seq c (.seq (.label l) d)))):=λt aj=>by simp_all [writes,HW]
 have G: ∀t∈writes c++writes d,t∈writes (.scope (.seq b (.seq c (.seq (.label l) d)))):=λt aj=>by
  simp_all [HW,writes]
 generalize ap:writes (.scope (.seq b (.seq c (.seq (.label l) d))))=H at E G ⊢;rw[ai];generalize v:dv e N H true a u kb k=Q;obtain⟨I,J⟩: ∃I:Act->World->Prop,I=YJ (Fw s) m P (.seq b (.seq c (.seq (.label l) d))) (.seq .skip d) Q:=⟨_,rfl⟩;refine AEl D ?_;rw[<- J];refine wpIn_seq (wpIn_mono (S m p s A j f _ _ k a n B ae af) ?_);rintro ak am aq ⟨M,O,R,rfl,x,an,o⟩;have y:Fu H true a am:=an.aj E λ_=>ab
 cases ak with
 |normal=>exact AJn T U B D Z ac ad o x (λar ao=>y.trans ao (λ_ f=>f) G λ_=>⟨rfl,rfl⟩) v J
 |exit i=>rw[<- v];exact⟨M,O,R,rfl,x,y,o⟩
 |goto C=>exact o.elim
 |ret=>rw[<- v];exact⟨M,O,R,rfl,x,y,o⟩
 |panic au=>exact o.elim
 |outgrown=>exact o.elim
theorem AI7 {P:Q1}{y:al}{N:Nat}(a7:P.follows .mixedOrders=true): ∀(aE:Nat) (c:Code),SizeOf.sizeOf c<aE-> ∀(m:Nat) (C:Bool) (A:Option Nat) (G:bT) (k:Env) (d:aa) (q:Env->aa->Prop) (kb:iP->Env->aa->Prop) (r:Env->aa->Prop) (a:Act) (n:Nat),
  (C=false->A=none)->F7 y P N C c G k d q kb r->Fits N a k->c.wpIn (Fw A) m P (dv y N (writes c) (GV c) a q kb r) a (y.at d n):=by
 intro aE
 induction aE with
 |zero=>intro c Z;omega
 |succ aE T=>
  intro c Z;cases c with
  |skip=>intro m C A G k d q kb r a n _ e o;exact wpIn_skip ⟨k,d,n,rfl,o,Fu.refl,e⟩
  |exit id=>intro m C A G k d q kb r a n _ e o;exact wpIn_exit ⟨k,d,n,rfl,o,Fu.refl,e⟩
  |ret=>intro m C A G k d q kb r a n _ e o;exact wpIn_ret ⟨k,d,n,rfl,o,Fu.refl,e⟩
  |label l=>intro m C A G k d q kb r a n _ e o;exact wpIn_label ⟨k,d,n,rfl,o,Fu.refl,e⟩
  |goto l=>intro m C A G k d q kb r a n _ e o;exact wpIn_goto ⟨k,d,n,rfl,o,Fu.refl,e⟩
  |refuse S=>intro m C A G k d q kb r a n _ e o;simp only[F7] at e
  |region id ah V=>
   intro m C A G k d q kb r a n _ e o;have plain: ∀X,(∀ av ai ad aw,Fits N av ai->QV (dstsOf ah.toList) a av->X ai ad->dv y N (writes (.region id ah V)) (GV (.region id ah V)) a q kb r .normal av (y.at ad aw))->
     mq y P N ah V k d X->(Code.region id ah V).wpIn (Fw A) m P (dv y N (writes (.region id ah V)) (GV (.region id ah V)) a q kb r) a (y.at d n):=
    λX a8 a9=>AGV a7 a9 o a8
   cases G with
   |bB L aj=>
    simp only[F7] at e;split at e
    ·rename_i H;have e:=e _ (λ_ _ d=>d);refine plain _ ?_ e;intro av ai ad aw aM ap I;obtain⟨ae,s,O⟩:=JX I;exact⟨_,ad,aw,rfl,o.join aM rfl (ap.g (nd:=true)) H s,ap.g,O⟩
    ·exact e.elim
   |_=>exact plain q (λav ai ad aw aM ap I=>⟨ai,ad,aw,rfl,aM,ap.g,I⟩) e
  |seq x S=>
   have ax:=T x (by simp at Z;omega);have aN:=T S (by simp at Z;omega);intro m C A G k d q kb r a n Y e o;have tail: ∀(X:Env->aa->Prop) (aO aP:bT),F7 y P N C x aO k d X kb r->
     (∀ h g j,Fits N h g->Fu (writes x) (GV x) a h->X g j-> ∃D,Fits N h D/\F7 y P N C S aP D j q kb r)->
     (Code.seq x S).wpIn (Fw A) m P (dv y N (writes (.seq x S)) (GV (.seq x S)) a q kb r) a (y.at d n):=by
    intro X aO aP I ak;refine wpIn_seq (wpIn_mono (ax m C A aO k d X kb r a n Y I o) ?_);intro am h aF E;have aq: ∀t∈writes x,t∈writes (.seq x S):=λt aQ=>by grind [writes]
    have ba: ∀t∈writes S,t∈writes (.seq x S):=λt aQ=>by grind [writes]
    have ar:GV (.seq x S)=true->GV x=true/\GV S=true:=λd=>by simpa [GV] using d
    cases am with
    |normal=>
     obtain⟨g,j,U,rfl,u,B,s⟩:=E;obtain⟨D,ab,aR⟩:=ak h g j u B s;refine wpIn_mono (aN m C A aP D j q kb r h U Y aR ab) ?_;rintro aY aG aZ ⟨bb,aS,bc,rfl,bd,be,bf⟩;exact⟨bb,aS,bc,rfl,bd,B.trans be aq ba ar,bf⟩
    |exit id=>obtain⟨g,j,U,rfl,u,B,s⟩:=E;exact⟨g,j,U,rfl,u,B.aj aq (λd=>(ar d).1),s⟩
    |ret=>obtain⟨g,j,U,rfl,u,B,s⟩:=E;exact⟨g,j,U,rfl,u,B.aj aq (λd=>(ar d).1),s⟩
    |goto l=>obtain⟨g,j,U,rfl,u,B,s⟩:=E;exact⟨g,j,U,rfl,u,B.aj aq (λd=>(ar d).1),s⟩
    |panic a0=>obtain⟨_,_,_,_,_,_,s⟩:=E;exact s.elim
    |outgrown=>obtain⟨_,_,_,_,_,_,s⟩:=E;exact s.elim
   cases G with
   |seq J ag=>
    simp only[F7] at e;exact tail _ J ag e (λh g j u _ I=>⟨g,u,I⟩)
   |bC L aj J ag=>
    simp only[F7] at e;split at e
    ·rename_i H;simp only[A3] at H;have e:=e _ (λ_ _ d=>d);refine tail _ J ag e ?_;intro h g j u B I;obtain⟨ae,s,O⟩:=JX I;exact⟨_,o.join u H.2 B H.1 s,O⟩
    ·exact e.elim
   |_=>simp only[F7] at e
  |cond v x S=>
   have ax:=T x (by simp at Z;omega);have aN:=T S (by simp at Z;omega);intro m C A G k d q kb r a n Y e o;cases G with
   |cond J ag=>
    simp only[F7] at e;have e:=BV o e;cases aH:a.eval v<;>rw[aH] at e<;>simp only[] at e
    rename_i b;obtain⟨j,M⟩:=af.mk e;refine wpIn_cond aH ?_;cases b with
    |true=>exact wpIn_mono (ax m C A J k d q kb r a n Y (j rfl) o) (λ_ _ _ E=>E.mono (λt aQ=>by grind [writes]) (λd=>by grind [GV]) (λ_ _ d=>d) (λ_ _ _ d=>d) (λ_ _ d=>d))
    |false=>exact wpIn_mono (aN m C A ag k d q kb r a n Y (M rfl) o) (λ_ _ _ E=>E.mono (λt aQ=>by grind [writes]) (λd=>by grind [GV]) (λ_ _ d=>d) (λ_ _ _ d=>d) (λ_ _ d=>d))
   |_=>simp only[F7] at e
  |block id x=>
   have T:=T x (by simp at Z;omega);intro m C A G k d q kb r a n Y e o;have tail: ∀(X:Env->aa->Prop) (ay:iP->Env->aa->Prop) (J:bT),F7 y P N C x J k d X ay r->
     (∀ h g j,Fits N h g->Fu (writes x) (GV x) a h->X g j-> ∃D,Fits N h D/\q D j)->
     (∀ i h g j,Fits N h g->Fu (writes x) (GV x) a h->ay (.ag i) g j->(i=id/\ ∃D,Fits N h D/\q D j)\/(i≠id/\kb (.ag i) g j))->(∀ l g j,ay (.eK l) g j->kb (.eK l) g j)->
     (Code.block id x).wpIn (Fw A) m P (dv y N (writes (.block id x)) (GV (.block id x)) a q kb r) a (y.at d n):=by
    intro X ay J I j M aS;refine wpIn_block (wpIn_mono (T m C A J k d X ay r a n Y I o) ?_);intro am h aF E;obtain⟨g,R,U,rfl,u,B,s⟩:=E;cases am with
    |normal=>obtain⟨D,ab,ak⟩:=j h g R u B s;exact⟨D,R,U,rfl,ab,B,ak⟩
    |exit i=>
     simp only[Exit.inBlock];rcases M i h g R u B s with⟨an,D,ab,ak⟩|⟨an,ak⟩
     ·rw[if_pos an];exact⟨D,R,U,rfl,ab,B,ak⟩
     ·rw[if_neg an];exact⟨g,R,U,rfl,u,B,ak⟩
    |ret=>exact⟨g,R,U,rfl,u,B,s⟩
    |goto l=>exact⟨g,R,U,rfl,u,B,aS l _ _ s⟩
    |panic a0=>exact s.elim
    |outgrown=>exact s.elim
   cases G with
   |block J=>
    simp only[F7] at e;refine tail _ _ J e (λh g j u _ I=>⟨g,u,I⟩) ?_ (λ_ _ _ d=>d);intro i h g j u _ I;by_cases an:i=id
    ·subst an;simp only[Nat.beq_refl] at I
     grind
    grind [UR]
   |bM L aj J=>
    simp only[F7] at e;split at e
    ·rename_i H;simp only[A3] at H;have e:=e _ (λ_ _ d=>d);have a1: ∀h g j,Fits N h g->Fu (writes x) (GV x) a h->NZ L g (λae=>q (Gf L aj k ae) j)-> ∃D,Fits N h D/\q D j:=by intro h g j u B I;obtain⟨ae,s,O⟩:=JX I;exact⟨_,o.join u H.2 B H.1 s,O⟩
     refine tail _ _ J e a1 ?_ (λ_ _ _ d=>d);intro i h g j u B I;by_cases an:i=id
     ·subst an;simp only[Nat.beq_refl] at I;exact .inl ⟨rfl,a1 h g j u B I⟩
     grind [UR]
    ·exact e.elim
   |_=>simp only[F7] at e
  |loop x=>
   have T:=T x (by simp at Z;omega);intro m C A G k d q kb r a n Y e o;cases G with
   |loop L aj J=>
    simp only[F7] at e;split at e
    ·rename_i H;simp only[A3] at H;obtain⟨ae,s,e⟩:=JX e;have bg:Fits N a (Gf L aj k ae):=o.join o H.2 (Fu.refl (W:=writes x)) H.1 s
     let K:gV L->aa->Prop:=λae d=> ∀h n,Fits N h (Gf L aj k ae)->Fu (writes x) (GV x) a h->
      x.wpIn (Fw A) m P (Exit.then (mD (Fw A) m P x (dv y N (writes x) (GV x) a q kb r)) (dv y N (writes x) (GV x) a q kb r)) h (y.at d n)
     have ap:=e K ?_
     ·exact AGW (ap a n bg Fu.refl)
     ·intro ae d bh h n u B;refine wpIn_mono (T m C A J _ d _ kb r h n Y bh u) ?_;intro am aG aZ E;obtain⟨D,M,au,rfl,ab,aT,O⟩:=E;have aI:Fu (writes x) (GV x) a aG:=B.trans aT (λ_ d=>d) (λ_ d=>d) (λd=>⟨d,d⟩);cases am with
      |normal=>
       obtain⟨bW,bi,aR⟩:=JX O;exact AH6 (aR aG au (u.again ab H.2 aT H.1 bi) aI)
      |exit i=>exact⟨D,M,au,rfl,ab,aI,O⟩
      |ret=>exact⟨D,M,au,rfl,ab,aI,O⟩
      |goto l=>exact⟨D,M,au,rfl,ab,aI,O⟩
      |panic a0=>exact O.elim
      |outgrown=>exact O.elim
    ·exact e.elim
   |_=>simp only[F7] at e
  |rangeFunc f ps aJ x=>
   have bj:=T aJ (by simp at Z;omega);have ax:=T x (by simp at Z;omega);intro m C A G k d q kb r a n Y e o;cases G with
   |range a2 J ag=>
    simp only[F7] at e;split at e
    ·rename_i a3;simp only[A3,CI,E0] at a3;obtain⟨⟨bk,aK⟩,bm⟩:=a3;have aK:=IH aK;have bn:=Y bk;subst bn;have e:=BV o e;refine wpIn_rangeFunc λfn _=>?_
     let az:Go.Loop:= {state:= .ready,pending:=none,fn,tmps:=a.tmps,params:=ps,assign:=aJ,body:=x,defers:=d.size}
     have bo: ∀args:List J0,args.length=ps.size-> ∀(R:aa) (ao:A2L),R[d.size+1]? =some (.loop az)->
       F7 y P N true aJ J (jY {get:=k.get,ds:= []} ps.toList args) R
        (λai ad=> ∃aL,ad[d.size+1]? =some (.loop aL)/\aL.state= .ready/\
         F7 y P N true x ag ai (ad.setIfInBounds (d.size+1) (.loop {aL with state:= .busy}))
          (λ_ M=> ∃ac,M[d.size+1]? =some (.loop ac)/\ao (.bool true) (M.setIfInBounds (d.size+1) (.loop {ac with state:= .ready,pending:=none})))
          (λaU _ M=>match aU with| .ag i=>(∃ ac,M[d.size+1]? =some (.loop ac)/\ao (.bool false) (M.setIfInBounds (d.size+1) (.loop {ac with state:= .done,pending:=some (kW (some i))})))| .eK _=>False)
          (λ_ M=> ∃ac,M[d.size+1]? =some (.loop ac)/\ao (.bool false) (M.setIfInBounds (d.size+1) (.loop {ac with state:= .done,pending:=some (kW none)}))))
        (λ_ _ _=>False) (λ_ _=>False)->
       Em y P (.func (.yield (d.size+1)) #[] #[]) args.toArray R ao:=by
      intro args bp R ao aV aW n;have bq:(do let V <-Deferred.ofValue (.func (.yield (d.size+1)) #[] #[]) args.toArray;invoke V.target V.args:Sem Next).run P (y.at R n)=
        .ok (.round (d.size+1) fn ((ps.zip args.toArray).foldl (λtmps (t,a)=>tmps.setIfInBounds t a) a.tmps) aJ x) (y.at R n):=by
       have br: ¬(args.toArray).size≠ps.size:=by simp[bp]
       simp only[Deferred.ofValue,Sem.run_bind,Sem.run_pure,Result.andThen_ok,invoke,Instr.yield,run_getLoop aV,Array.empty_append];show Sem.run P (if(args.toArray).size≠ps.size then _ else _) _=_;rw[if_neg br];rfl
      rw[bq];simp only[Next.out];have bs:Fits N {tmps:=(ps.zip args.toArray).foldl (λtmps (t,a)=>tmps.setIfInBounds t a) a.tmps,defers:= []} (jY {get:=k.get,ds:= []} ps.toList args):=by have bt:Fits N {tmps:=a.tmps,defers:= []} {get:=k.get,ds:= []}:=⟨o.size,o.get,rfl⟩;have:=vN ps.toList args _ a.tmps (λp E=>by simpa using bm p E) bt;rw[<- Array.foldl_toList,Array.toList_zip];exact this
      refine roundIn_of_wpIn trivial (wpIn_mono (bj 0 true (some (d.size+1)) J _ R _ _ _ _ n (λd=>by cases d) aW bs) ?_);intro am h aF E;obtain⟨g,j,U,rfl,u,B,s⟩:=E;cases am<;>simp only at s
      obtain⟨aL,bu,bv,bw⟩:=s;refine⟨_,run_beginRound bu bv,?_⟩;refine wpIn_mono (ax 0 true (some (d.size+1)) ag _ _ _ _ _ h U (λd=>by cases d) bw u) ?_;intro aY aG aZ bx;obtain⟨D,M,au,rfl,ab,aT,O⟩:=bx;cases aY<;>simp only at O
      ·obtain⟨ac,aA,aC⟩:=O;exact⟨_,_,run_endRound aA,_,rfl,_,_,rfl,aC⟩
      ·obtain⟨ac,aA,aC⟩:=O;exact⟨_,_,run_endRound aA,_,rfl,_,_,rfl,aC⟩
      ·obtain⟨ac,aA,aC⟩:=O;exact⟨_,_,run_endRound aA,_,rfl,_,_,rfl,aC⟩
     obtain⟨bz,bA,bD,bE⟩:=e az rfl rfl aK.symm (λx R ao aV aW=>bo (kX a2 x) ((Ye a2 x).trans aK) R ao aV aW);obtain⟨nx,bF,rfl⟩:=NG bD;have aD:=bF (y.at ((d.push (.deferred (some []))).push (.loop az)) n);rw[Sem.run_bind] at aD;have bG:(resolve a.eval (rangeCall f (d.size+1)) 0)=Deferred.ofValue (a.eval f) #[.func (.yield (d.size+1)) #[] #[]]:=by simp[resolve,Act.eval]
     cases hd:(Deferred.ofValue (a.eval f) #[.func (.yield (d.size+1)) #[] #[]]).run P (y.at ((d.push (.deferred (some []))).push (.loop az)) n) with
     |halt S w=>rw[hd] at aD;cases aD
     |ok V aF=>
      rw[hd] at aD;have aq:aF=y.at ((d.push (.deferred (some []))).push (.loop az)) n:=by cases aH:a.eval f<;>rw[aH] at hd<;>simp[Deferred.ofValue] at hd<;>first|exact hd.2.symm|(cases hd)
      subst aq;refine⟨d.size+1,[kJ d.size],_,V,_,bz,bA,_,AFF,by rw[bG];exact hd,λ_ _=>trivial,aD,λar=>by simp at ar,XG.2 (Calls.mono (bE n) ?_)⟩;rintro bX bY ⟨v,rfl,M,au,rfl,a4,bH,bI,a5⟩;have aX:Fits N {a with defers:= [kJ d.size]++a.defers} {get:=k.get,ds:=d.size::k.ds}:=⟨o.size,o.get,by simp[o.ds]⟩;refine⟨a4.pending,_,run_endLoop bH bI,?_⟩;generalize M.setIfInBounds (d.size+1) (.loop {a4 with state:= .exhausted})=bZ at a5 ⊢;rcases a5 with⟨E,bJ⟩|⟨aU,E,a6⟩
      ·rw[E];exact⟨_,_,_,rfl,aX,⟨λ_ _=>rfl,λd=>by simp[GV] at d⟩,bJ⟩
      ·rw[E];cases aU with
       |none=>exact wpIn_ret ⟨_,_,_,rfl,aX,⟨λ_ _=>rfl,λd=>by simp[GV] at d⟩,a6⟩
       |some i=>exact wpIn_exit ⟨_,_,_,rfl,aX,⟨λ_ _=>rfl,λd=>by simp[GV] at d⟩,a6⟩
    ·exact e.elim
   |_=>simp only[F7] at e
  |scope b=>
   intro m C A G k d q kb r a n Y e o;cases b with
   |seq bK bL=>
    cases bL with
    |seq c S=>
     cases S with
     |seq z V=>
      cases z with
      |label l=>
       cases G with
       |scope L aj b0 J ag=>
        simp only[F7] at e;split at e
        ·rename_i H;simp only[A3] at H;obtain⟨⟨bN,bO⟩,H,bP,bQ,bR⟩:=H;have bS:=T bK (by simp at Z;omega);have bU:=T c (by simp at Z;omega);have bV:=T V (by simp at Z;omega);exact AJd bS bU bV Y bN bO H bP bQ bR e o
        ·exact e.elim
       |_=>simp only[F7] at e
      |_=>simp only[F7] at e
     |_=>simp only[F7] at e
    |_=>simp only[F7] at e
   |_=>simp only[F7] at e
theorem AKV {P:Q1}{b:al}{N:Nat}(k:P.follows .mixedOrders=true)(c:Code)(m:Nat)(d:Bool)(e:Option Nat)(j:bT)(f:Env)(g:aa)(h:Env->aa->Prop)(kb:iP->Env->aa->Prop)(i:Env->aa->Prop)(a:Act)(n:Nat)
  (l:d=false->e=none) (o:F7 b P N d c j f g h kb i) (p:Fits N a f):c.wpIn (Fw e) m P (dv b N (writes c) (GV c) a h kb i) a (b.at g n):=
 AI7 k (SizeOf.sizeOf c+1) c (Hn _) m d e j f g h kb i a n l o p
def kY(P:Q1):List ResultVar->Env->aa->(List J0->Prop)->Prop
 | [],_,_,K=>K []
 | .tmp t::d,b,c,K=>match b.get t with|some v=>kY P d b c λe=>K (v::e)|none=>False
 | .cell a t::d,b,c,K=>match b.get a with
  |some v=>(match v with| .pointer p=>At p λf=>loadT P t c f λv _=>kY P d b c λe=>K (v::e)|_=>False)
  |none=>False
def oneOf(a:List J0)(K:J0->Prop):Prop:=match a with| [v]=>K v|a=>K (.tuple a.toArray)
def vO(P:Q1)(l:List ResultVar)(a:Env)(b:aa)(K:J0->Prop):Prop:=kY P l a b λc=>oneOf c K
def qN:List Nat->aa->(aa->Prop)->Prop
 | [],a,K=>K a
 |r::b,a,K=>a[r]? =some (.deferred (some []))/\qN b (a.setIfInBounds r (.deferred none)) K
def mE:Nat->List J0->Nat->Option J0
 |_,[],_=>none
 |i,v::a,t=>bif Nat.beq t i then some v else mE (i+1) a t
def qO(P:Q1)(fn:Func)(c:A2L)(a:Env)(d:aa):Prop:=qN a.ds d λb=>vO P fn.results.toList a b λv=>c v b
def qP(A:al)(P:Q1)(f:Q8)(b:bT)(args:List J0)(d:aa)(a:A2L):Prop:=
 match P.funcs[f]? with
 |none=>False
 |some fn=>match fn.body with
  |none=>False
  |some c=>match Nat.ble args.length fn.ntmps with
   |true=>F7 A P fn.ntmps false c b {get:=mE 0 args,ds:= []} d (qO P fn a) (λ_ _ _=>False) (qO P fn a)
   |false=>False
theorem vP: ∀ {l:List J0} {i t:Nat} {v:J0},mE i l t=some v->i<=t/\l[t-i]? =some v
 | [],_,_,_,a=>by cases a
 |u::e,i,t,v,a=>by
  unfold mE at a;by_cases b:t=i
  ·subst b;have c:Nat.beq t t=true:=by simp
   rw[c,cond_true] at a;exact⟨A0 _,by simpa using a⟩
  ·rw[UR b,cond_false] at a;obtain⟨f,d⟩:=vP a;refine⟨by omega,?_⟩;have:t-i=(t-(i+1))+1:=by omega
   rw[this,Wf];exact d
section
variable {P : Q1} {A : al}
def oD(tmps:Array J0):ResultVar->Sem J0
 | .tmp t=>pure (tmps.getD t undef)
 | .cell x t=>do loadVar t (<- asAddr (tmps.getD x undef))
theorem ALK(fn:Func)(tmps:Array J0):results fn tmps=(do let a <-fn.results.mapM (oD tmps);pure (if b:a.size=1 then a[0] else .tuple a)):=rfl
theorem Rn {N:Nat}{a:Act}{j:Env}(d:Fits N a j){e:aa}{n:Nat}: ∀ {l:List ResultVar} {K:List J0->Prop},kY P l j e K->
  ∃c,(l.mapM (oD a.tmps)).run P (A.at e n)= .ok c (A.at e n)/\K c
 | [],K,b=>⟨[],rfl,b⟩
 | .tmp t::k,K,b=>by
  unfold kY at b;split at b
  ·rename_i v f;obtain⟨c,g,h⟩:=Rn (n:=n) d b;refine⟨v::c,?_,h⟩;have i:a.tmps.getD t undef=v:=by have:=d.get t v f;simp[this]
   rw[P4];simp only[Sem.run_bind,Sem.run_pure,Result.andThen_ok,oD,g,i]
  ·exact b.elim
 | .cell x t::k,K,b=>by
  unfold kY at b;split at b
  ·rename_i v f;split at b
   ·rename_i p;obtain⟨m,rfl,o⟩:=At.mk b;obtain⟨u,st,q,r,h⟩:=uE (A:=A) o;obtain⟨c,g,s⟩:=Rn (n:=n) d h;refine⟨u::c,?_,s⟩;have i:a.tmps.getD x undef= .pointer (some m):=by have:=d.get x _ f;simp[this]
    rw[P4];simp only[Sem.run_bind,Sem.run_pure,Result.andThen_ok,oD,i,asAddr,q e r n,g]
   ·exact b.elim
  ·exact b.elim
theorem ALU {N:Nat}{a:Act}{e:Env}(f:Fits N a e){fn:Func}{c:aa}{n:Nat}{K:J0->Prop}(b:vO P fn.results.toList e c K):
  ∃v,(results fn a.tmps).run P (A.at c n)= .ok v (A.at c n)/\K v:=by
 obtain⟨d,g,b⟩:=Rn (A:=A) f (n:=n) b;have h:(results fn a.tmps).run P (A.at c n)= .ok (if i:d.toArray.size=1 then d.toArray[0] else .tuple d.toArray) (A.at c n):=by rw[ALK,V0];simp only[Sem.run_bind,Sem.run_map,g,Result.andThen_ok,Sem.run_pure]
 refine⟨_,h,?_⟩
 match d,b with
 | [],b=>exact b
 | [v],b=>exact b
 |u::v::j,b=>simpa [oneOf] using b
theorem vQ {fn:Func}{tmps:Array J0}{d:Ending->World->Prop}{K:aa->Prop}(e: ∀a b,K a->LeavesInM (Fw none) 0 P fn tmps d [] .returning (A.at a b)):
  ∀(l:List Nat) (a:aa) (b:Nat),qN l a K->LeavesInM (Fw none) 0 P fn tmps d (l.map kJ) .returning (A.at a b)
 | [],a,b,c=>e a b c
 |r::f,a,b,⟨g,c⟩=>by
  refine⟨by simp,.inl ⟨r,_,rfl,run_takeDeferred (w:=A.at a b) g,?_⟩⟩;exact vQ e f _ b c
theorem AHX(s:P.follows .mixedOrders=true){f:Q8}{m:bT}{args:List J0}{j:aa}{e:A2L}(b:qP A P f m args j e):
  AA A P f args.toArray j e:=by
 intro n;unfold qP at b;split at b
 ·exact b.elim
 ·rename_i fn u;split at b
  ·exact b.elim
  ·rename_i c w;split at b
   ·rename_i o;have o:=Vc o;refine XG.1 (callsIn_of_wp_marks (F:=Fw none) (n:=0) u w trivial ?_);have x:Fits fn.ntmps {tmps:=args.toArray++Array.replicate (fn.ntmps-args.toArray.size) undef,defers:= []} {get:=mE 0 args,ds:= []}:=by refine⟨by simp;omega,λt v k=>?_,rfl⟩;obtain⟨_,g⟩:=vP k;have y:t<args.length:=(List.getElem?_eq_some_iff.1 (by simpa using g)).1;rw[IT (by simpa using y)];simpa using g
    refine wpIn_mono (AKV s c 0 false none m _ j _ _ _ _ n (λ_=>rfl) b x) ?_;intro z a H B;obtain⟨h,d,i,rfl,p,_,l⟩:=B;have q:qO P fn e h d->LeavesInM (Fw none) 0 P fn a.tmps (λh C=> ∃v,h= .returned v/\ ∃d i,C=A.at d i/\e v d) a.defers .returning (A.at d i):=by intro D;rw[p.ds];refine vQ ?_ h.ds d i D;intro g r E;obtain⟨v,k,G⟩:=ALU (A:=A) p (n:=r) E;exact⟨v,k,v,rfl,g,r,rfl,G⟩
    cases z<;>simp only at l
    ·exact q l
    ·exact q l
   ·exact b.elim
end
def Gr(c:IntKind)(a b:Int):Int:=c.wrap ((BitVec.ofInt c.bits a &&& BitVec.ofInt c.bits b).toNat:Int)
def dX(c:IntKind)(a b:Int):Int:=c.wrap ((BitVec.ofInt c.bits a ||| BitVec.ofInt c.bits b).toNat:Int)
def Zy(c:IntKind)(a b:Int):Int:=c.wrap ((BitVec.ofInt c.bits a ^^^ BitVec.ofInt c.bits b).toNat:Int)
end Go.Lf
namespace Go.Lf.G
noncomputable abbrev P:Q1:=Go.Proofs.Tryz.prog
def JG:Q8:=3
def KH:Q8:=9
def Hy:Q8:=10
def Ve:Q8:=11
def Gm:Q8:=12
def FZ:Q8:=13
def JJ:Q8:=14
def Kq:Q8:=15
def KF:Q8:=16
def ER:Q8:=17
def Ih:Q8:=18
def KT:Q8:=19
def Dg:Q8:=20
def P7:Q8:=21
def FV:Q8:=22
def OC:Q8:=26
def Mk:Q8:=33
def Cv:Q8:=34
def Cm:Q8:=35
def GI:Q8:=36
def Sv:Q8:=37
def Xi:Q8:=38
def F9:Q8:=39
def Dz:Q8:=40
def Ez:Q8:=41
def FU:Q8:=42
def Dt:Q8:=43
def Fg:Q8:=44
def QD:Q8:=45
def VG:Q8:=46
def CB:Q8:=47
def L8:Q8:=48
def Nf:Q8:=49
def G5:Q8:=50
def EN:Q8:=51
def Ll:Q8:=52
def KR:Q8:=53
def Oo:Q8:=54
def Mi:Q8:=55
def Dr:Q8:=56
def IW:Q8:=57
def HV:Q8:=58
def JR:Q8:=59
def Ka:Q8:=60
def Aw:Q8:=61
def IL:Q8:=62
def Bg:Q8:=63
def Lx:Q8:=64
def IR:Q8:=65
def LG:Q8:=66
def GG:Q8:=67
def Lr:Q8:=68
def RO:Q8:=69
def GU:Q8:=75
def Bw:Q8:=76
def SY:Q8:=79
def Fy:Q8:=80
def GD:Q8:=81
def Hz:Q8:=82
def JS:Q8:=83
def DU:Q8:=84
def G8:Q8:=85
def Lm:Q8:=86
def PX:Q8:=87
def Sj:Q8:=88
def DW:Q8:=89
def OA:Q8:=90
def Li:Q8:=91
def QI:Q8:=92
def Fh:Q8:=93
def L9:Q8:=94
def OG:Q8:=95
def Sr:Q8:=96
def Eh:Q8:=97
def Be:Q8:=98
def Af:Q8:=99
def CL:Q8:=100
def O9:Q8:=101
def OU:Q8:=102
def QH:Q8:=103
def KJ:Q8:=104
def Gg:Q8:=105
def JZ:Q8:=106
def JL:Q8:=107
def Pp:Q8:=108
def QE:Q8:=109
def Pw:Q8:=110
def OY:Q8:=111
def Ld:Q8:=112
def Uz:Q8:=113
def DY:Q8:=114
def Fj:Q8:=118
def LP:Q8:=122
def OO:Q8:=123
def Py:Q8:=124
def Gv:Q8:=125
def IA:Q8:=126
def UY:Q8:=127
def R8:Q8:=128
def Ro:Q8:=129
def Qj:Q8:=130
def JW:Q8:=131
def OQ:Q8:=132
def JA:Q8:=133
def HY:Q8:=134
def QT:Q8:=135
def Kc:Q8:=136
def PG:Q8:=137
def Jv:Q8:=138
def SI:Q8:=139
def KX:Q8:=140
def PN:Q8:=141
def Cg:Q8:=142
def Jg:Q8:=143
def IM:Q8:=144
def Pn:Q8:=145
def JC:Q8:=146
def GH:Q8:=147
def Gw:Q8:=148
def R6:Q8:=149
def KQ:Q8:=150
def EA:Q8:=151
def DX:Q8:=152
def Dm:Q8:=153
def Mf:Q8:=154
def SE:Q8:=155
def Qb:Q8:=156
def SV:Q8:=157
def Gz:Q8:=158
def Kg:Q8:=159
def OW:Q8:=160
def Nk:Q8:=161
def LY:Q8:=162
def Jq:Q8:=163
def Tz:Q8:=164
def Cj:Q8:=165
def Lj:Q8:=166
def Kb:Q8:=167
def O8:Q8:=168
def Cu:Q8:=172
def QG:Q8:=174
def JQ:Q8:=175
def LZ:Q8:=176
def Ku:Q8:=177
def Lu:Q8:=178
def PI:Q8:=179
def KW:Q8:=180
def P5:Q8:=181
def GN:Q8:=182
def Sm:Q8:=183
def Ls:Q8:=184
def Ux:Q8:=185
def Eu:Q8:=186
def Ia:Q8:=187
def DK:Q8:=188
def Kr:Q8:=189
def JK:Q8:=190
def Gy:Q8:=191
def Qd:Q8:=192
def Cy:Q8:=193
def Lt:Q8:=194
def UX:Q8:=195
def Dq:Q8:=196
def TH:Q8:=197
def DR:Q8:=198
def Ik:Q8:=199
def Lg:Q8:=200
def N9:Q8:=201
def BP:Q8:=202
def DD:Q8:=203
def KV:Q8:=204
def Je:Q8:=205
def Ju:Q8:=206
def SS:Q8:=218
def JH:Q8:=219
def Qs:Q8:=220
def LQ:Q8:=222
def JB:Q8:=225
def QC:Q8:=226
def Iu:Q8:=227
def Cz:Q8:=228
def WR:Q8:=229
def QL:Q8:=230
def EU:Q8:=231
def Fq:Q8:=232
def Gu:Q8:=233
def I8:Q8:=234
def QF:Q8:=235
def Nq:Q8:=242
def N7:Q8:=243
def Du:Q8:=248
def Gq:Q8:=250
def Dj:Q8:=257
def OM:Q8:=258
def OV:Q8:=259
def DZ:Q8:=285
def t_:Q7:=0
def Bp:Q7:=3
def qY:Q7:=4
def EI:Q7:=5
def BK:Q7:=9
def BU:Q7:=27
def GM:Q7:=29
def AQ:Q7:=33
def Bc:Q7:=36
def AR:Q7:=44
def Ry:Q7:=51
def DJ:Q7:=53
def Gt:Q7:=55
def FO:Q7:=57
def Mj:Q7:=60
def CP:Q7:=66
def DL:Q7:=69
def DC:Q7:=86
def Ah:Q7:=96
def CQ:Q7:=102
def qZ:Q7:=104
def Bv:Q7:=106
def IC:Q7:=110
def Eb:Q7:=111
def Df:Q7:=112
def Av:Q7:=114
def DI:Q7:=116
def w9:Q7:=124
def ZZ:Q7:=140
def F4:Q7:=142
def Ew:Q7:=143
def SA:Q7:=145
def wc:Q7:=165
def Xn:Q7:=167
def Ff:Q7:=171
def AEp:Q7:=189
def Au:Q7:=190
def FW:Q7:=192
def Bj:Q7:=195
def NW:Q7:=203
def Hg:Q7:=215
def Gi:Q7:=220
def BM:Q7:=231
def Mv:Q7:=240
def BD:Q7:=243
def Wm:Q7:=246
def ra:Q7:=277
def EE:Q7:=279
def Rm:Q7:=281
def we:Q7:=283
def Mo:Q7:=285
def oG:Q7:=293
def Jf:Q7:=298
def Ee:Q7:=343
def UL:Q7:=384
def Ef:Q7:=386
def FQ:Q7:=388
theorem mixed:P.follows .mixedOrders=true:=by decide +kernel
end Go.Lf.G
