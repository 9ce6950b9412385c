/-
 LIFT, part A: worlds as heaps beside a fixed rest; one operation's outcome at the level of values; a region that draws its order, walked in the text's order.
-/
import Derived.WalkKit
import Derived.OrdersIn
import Derived.RangeFuncIn
import Derived.RangeFuncLeaves
import Derived.RangeFuncCalls
import Derived.TacticsInMore
import Derived.RangeFuncRecord
import Derived.Test.YtgpmoonnachoaaaGreatDoorProg
set_option maxRecDepth 100000
set_option linter.unusedVariables false
set_option linter.unusedSimpArgs false
open Go.IntKind renaming i64→J9,wrap→J8
open Go.Value renaming string→J7,int→J6,pointer→J5,slice→J4,bool→J3,tuple→J1
open Go.Obj renaming cells→J2
open Go renaming Value→J0,Addr→Q6,TypeId→Q7,FuncId→Q8,Program→Q1
open Go.Addr renaming add→Q9,mk→Q5
namespace Go.Lf
abbrev Q2:=Option Q6
abbrev A2I:=ByteArray
abbrev A0:=@Nat.le_refl
abbrev A1:=@List.length_append
abbrev A2:=@List.getElem?_eq_getElem
abbrev A3:=@Bool.and_eq_true
abbrev A4:=@List.append_assoc
abbrev A5:=@Nat.zero_le
abbrev A6:=@List.length_cons
abbrev An:=@List.length_take
abbrev As:=@Nat.le_trans
abbrev Ax:=@List.take_add_one
abbrev AD:=@Nat.mod_eq_of_lt
abbrev AE:=@List.take_of_length_le
abbrev AF:=@Int.toNat_natCast
abbrev AG:=@List.mem_cons_of_mem
abbrev AH:=@List.flatMap_cons
abbrev AI:=@Nat.zero_add
abbrev AK:=@Nat.mul_le_mul_right
abbrev AM:=@List.mem_of_getElem?
abbrev AN:=@List.append_nil
abbrev AS:=@List.getElem_mem
abbrev AT:=@List.filter_cons
abbrev AW:=@List.length_map
abbrev B9:=@List.map_map
abbrev Bk:=@List.take_length
abbrev Bm:=@Option.some.inj
abbrev Bs:=@Nat.mul_one
abbrev By:=@List.map_append
abbrev BE:=@List.getElem?_map
abbrev BT:=@Option.some.injEq
abbrev BW:=@List.map_cons
abbrev BY:=@Nat.le_succ
abbrev C2:=@List.mem_of_mem_take
abbrev C5:=@List.getElem?_drop
abbrev Cd:=@List.mem_cons_self
abbrev Cl:=@Bool.false_eq_true
abbrev Cp:=@Nat.mod_lt
abbrev CA:=@Bool.not_eq_true'
abbrev CC:=@List.getElem_of_mem
abbrev CD:=@List.map_congr_left
abbrev CH:=@Iff.rfl
abbrev CI:=@List.length_drop
abbrev CM:=@Nat.mul_comm
abbrev CN:=@List.length_singleton
abbrev CT:=@List.nil_append
abbrev Dd:=@Nat.add_mul
abbrev Ds:=@Option.toList_some
abbrev DA:=@List.eq_nil_of_length_eq_zero
abbrev DB:=@List.getElem?_of_mem
abbrev DE:=@Bool.or_eq_true
abbrev DG:=@List.all_cons
abbrev DH:=@List.take_append_drop
abbrev DM:=@Array.getElem?_setIfInBounds_ne
abbrev DO:=@List.cons_append
abbrev DP:=@Nat.pow_succ
abbrev DQ:=@List.all_eq_true
abbrev DS:=@Array.toList_setIfInBounds
abbrev E0:=@List.find?_cons
abbrev Ek:=@List.getElem?_append_right
abbrev F0:=@Nat.lt_of_lt_of_le
abbrev F2:=@List.drop_eq_getElem_cons
abbrev Fc:=@Nat.lt_or_ge
abbrev Fk:=@Nat.mul_assoc
abbrev Fl:=@Function.comp_def
abbrev Fm:=@List.getElem?_take
abbrev Fo:=@List.flatMap_append
abbrev Ft:=@Array.getElem?_eq_getElem
abbrev FA:=@List.filter_sublist
abbrev FF:=@Bool.true_and
abbrev FG:=@Option.getD_some
abbrev G0:=@Nat.add_zero
abbrev G3:=@List.getElem?_append_left
abbrev G4:=@List.length_nil
abbrev Ge:=@Bool.eq_iff_iff
abbrev Gk:=@Bool.or_eq_false_iff
abbrev GB:=@List.sum_cons
abbrev GC:=@Int.le_refl
abbrev GF:=@Nat.pow_add
abbrev GO:=@List.find?_eq_none
abbrev GP:=@ByteArray.data_append
abbrev GS:=@Nat.min_eq_left
abbrev GW:=@List.cons.injEq
abbrev Hb:=@List.mem_cons
abbrev Hc:=@List.mem_of_mem_drop
abbrev Hh:=@List.drop_drop
abbrev Hi:=@Nat.add_le_add_left
abbrev Hj:=@Nat.lt_succ_self
abbrev Hk:=@Array.length_toList
abbrev Hn:=@Array.toList_modify
abbrev Hv:=@ByteArray.size_append
abbrev HA:=@List.getElem?_cons_zero
abbrev HC:=@Nat.two_pow_pos
abbrev HD:=@Nat.le_add_right
abbrev HE:=@Bool.false_and
abbrev HG:=@List.filter_congr
abbrev HI:=@List.mem_append_left
abbrev HJ:=@Nat.add_assoc
abbrev HK:=@Bool.or_true
abbrev HL:=@List.set_append_right
abbrev HM:=@List.drop_zero
abbrev HN:=@List.getElem?_set_self
abbrev HP:=@Option.map_some
abbrev HR:=@List.mem_append
abbrev HS:=@Array.getElem?_modify
abbrev HT:=@Nat.zero_mul
abbrev HU:=@List.take_succ_cons
abbrev HW:=@List.foldl_append
abbrev HX:=@List.foldl_cons
abbrev I0:=@List.drop_of_length_le
abbrev I2:=@Int.mul_assoc
abbrev I3:=@Int.pow_add
abbrev Is:=@List.Perm.refl
abbrev It:=@Nat.eq_of_beq_eq_true
abbrev Iv:=@List.mem_append_right
abbrev Ix:=@Array.toList_append
abbrev ID:=@Array.getElem?_append_left
abbrev IF:=@List.drop_succ_cons
abbrev IH:=@Nat.lt_trichotomy
abbrev IN:=@List.getElem?_set_ne
abbrev IS:=@List.append_cancel_left
abbrev IT:=@Nat.or_lt_two_pow
abbrev Jx:=@List.map_id
abbrev JT:=@Nat.sub_zero
abbrev Kf:=@Nat.shiftLeft_zero
abbrev Kp:=@Nat.xor_lt_two_pow
abbrev Ks:=@List.map_flatMap
abbrev Kx:=@Bool.not_false
abbrev KB:=@Bool.not_true
abbrev KK:=@List.mem_range
abbrev Lk:=@List.mem_of_find?_eq_some
abbrev Ln:=@List.getElem_inj
abbrev Lo:=@Option.none_or
abbrev Lq:=@Prod.mk.injEq
abbrev Ly:=@List.take_succ_eq_append_getElem
abbrev Lz:=@List.not_mem_nil
abbrev LI:=@Int.ofNat_tmod
abbrev LL:=@List.pairwise_singleton
abbrev LN:=@ByteArray.size_extract
abbrev LO:=@List.getElem?_eq_none
abbrev LR:=@ByteArray.ext_iff
abbrev LS:=@List.takeWhile_cons
abbrev Mb:=@List.getElem?_set
abbrev Mn:=@List.getElem?_toArray
abbrev Mu:=@List.toList_toArray
abbrev My:=@Nat.lt_or_gt_of_ne
abbrev Mz:=@List.foldl_nil
abbrev MA:=@List.mem_map_of_mem
abbrev MD:=@List.range_succ
abbrev MT:=@List.flatten_append
abbrev MY:=@List.pairwise_map
abbrev N2:=@List.singleton_append
abbrev N3:=@List.take_zero
abbrev N4:=@List.take_append_of_le_length
abbrev N5:=@List.mem_singleton
abbrev N6:=@Array.ext'
abbrev Nd:=@Nat.shiftLeft_eq
abbrev No:=@Nat.log2_lt
abbrev Nx:=@Int.natAbs_natCast
abbrev NO:=@ByteArray.ext
abbrev NX:=@Bool.and_false
abbrev Of:=@List.filter_append
abbrev On:=@List.perm_append_singleton
abbrev OF:=@List.filter_map
abbrev OK:=@List.set_getElem_self
abbrev ON:=@Nat.min_eq_right
abbrev OR:=@List.take_sublist
abbrev OS:=@List.drop_length
abbrev P0:=@List.mapM_cons
abbrev P2:=@Option.bind_some
abbrev P3:=@Array.getElem?_push_lt
abbrev P4:=@Array.getElem?_push_size
abbrev Pa:=@Array.size_setIfInBounds
abbrev Pc:=@List.map_set
abbrev PA:=@List.length_set
abbrev PB:=@List.find?_some
abbrev PC:=@List.findSome?_cons
abbrev PF:=@List.findSome?_eq_none_iff
abbrev PJ:=@Array.getElem?_toList
abbrev R0:=@Nat.pow_le_pow_right
abbrev R1:=@List.pairwise_cons
abbrev R2:=@Nat.lt_of_le_of_lt
abbrev Rg:=@Nat.div_le_self
abbrev Rr:=@Array.toList_push
abbrev RC:=@List.map_nil
abbrev RE:=@Nat.le_log2
abbrev RK:=@Nat.mul_lt_mul_of_pos_right
abbrev RM:=@List.reverse_cons
abbrev RR:=@Nat.pow_pos
abbrev RT:=@Nat.le_of_not_lt
abbrev RW:=@ByteArray.data_extract
abbrev Se:=@Array.toList_extract
abbrev Sf:=@List.all_append
abbrev Sh:=@Bool.eq_false_iff
abbrev Sp:=@Bool.false_or
abbrev Ss:=@List.nodup_iff_pairwise_ne
abbrev SD:=@List.getLast?_concat
abbrev SJ:=@List.mem_of_getLast?
abbrev SM:=@List.range_eq_range'
abbrev SU:=@List.append_eq_nil_iff
abbrev SW:=@List.mem_or_eq_of_mem_set
abbrev T4:=@Nat.div_div_eq_div_mul
abbrev T6:=@Int.fdiv_eq_ediv_of_nonneg
abbrev To:=@List.take_eq_take_iff
abbrev TX:=@List.setIfInBounds_toArray
abbrev UP:=@Array.mapM_eq_mapM_toList
abbrev US:=@Nat.le_of_ble_eq_true
abbrev V0:=@List.filterMap_cons
abbrev Vc:=@Array.mem_of_getElem?
abbrev Wb:=@List.getElem?_cons_succ
abbrev Wg:=@List.takeWhile_sublist
abbrev Wr:=@List.set_append_left
abbrev WD:=@List.drop_eq_nil_of_le
abbrev ZS:=@List.drop_set_of_lt
abbrev A01:=@List.set_eq_take_append_cons_drop
abbrev A04:=@Bool.and_eq_false_iff
abbrev A05:=@List.getElem?_concat_length
abbrev A06:=@List.getElem?_take_of_lt
abbrev A08:=@List.exists_of_findSome?_eq_some
abbrev A09:=@Option.map_eq_some_iff
abbrev A0b:=@List.mem_of_mem_erase
abbrev A0d:=@List.cons_lt_cons_iff
abbrev A0g:=@Array.toList_eraseIdx
abbrev A0n:=@List.drop_append_of_le_length
abbrev A0o:=@List.length_filter_le
abbrev A0q:=@List.length_eraseIdx_le
abbrev A0C:=@Nat.two_pow_add_eq_or_of_lt
abbrev A0F:=@List.length_mergeSort
abbrev A0J:=@List.getElem?_singleton
structure ak where
 tape:Nat->Question->Nat
 os:Os
 output:Array (Nat×A2I)
abbrev aa:=Array Obj
abbrev A2H:=J0->aa->Prop
def ak.at(A:ak)(a:aa)(b:Nat):World:= {heap:=a,tape:=A.tape,drawn:=b,os:=A.os,output:=A.output}
abbrev Fw(r:Option Nat):Fence:= {fn:=λ_=>True,depth:=none,alive:=false,round:=r}
theorem ARC(r:Option Nat)(a:Nat):(Fw r).room a:=λ_ b=>by simp at b
theorem XJ {r:Option Nat}{c:Nat}{P:Q1}{f:Q8}{args:Array J0}{a:World}{b:Ending->World->Prop}:
  CallsIn (Fw r) c P f args a b↔Calls P f args a b:=callsIn_wide
def mo(P:Q1)(l:Nat)(f:Q8)(tmps:Array J0)(assign body:Code)(a:World)(b:J0->World->Prop):Prop:=
 RoundIn (Fw none) 0 P l f tmps assign body a (λc d=> ∃v,c= .returned v/\b v d)
theorem mo.mono {P:Q1}{l:Nat}{f:Q8}{tmps:Array J0}{assign body:Code}{a:World}{b c:J0->World->Prop}
  (e:mo P l f tmps assign body a b) (g: ∀v d,b v d->c v d):mo P l f tmps assign body a c:=
 RoundIn.mono e λ_ _ ⟨v,h,i⟩=>⟨v,h,g _ _ i⟩
theorem AKL {r:Option Nat}{d:Nat}{P:Q1}{l:Nat}{f:Q8}{tmps:Array J0}{assign body:Code}{a:World}{b:Ending->World->Prop}
  (e:RoundIn (Fw none) 0 P l f tmps assign body a b):RoundIn (Fw r) d P l f tmps assign body a b:=
 ⟨trivial,λc g _=>e.2 c g (ARC none _)⟩
def Next.out(P:Q1)(K:J0->World->Prop):Result Next->Prop
 | .ok (.value v) a=>K v a
 | .ok .skip a=>K undef a
 | .ok (.enter f args) a=>Calls P f args a (λb c=> ∃v,b= .returned v/\K v c)
 | .ok (.round l f tmps assign body) a=>mo P l f tmps assign body a K
 |_=>False
def EV(P:Q1)(a:Oper)(b:Operand->J0)(c:World)(K:J0->World->Prop):Prop:=Next.out P K ((execOp b a).run P c)
theorem Next.dG {P:Q1}{K d:J0->World->Prop}(c: ∀v b,K v b->d v b){x:Result Next}(a:Next.out P K x):Next.out P d x:=by
 cases x with
 |ok e b=>
  cases e<;>simp only[Next.out] at a ⊢ <;>
   first
    |exact c _ _ a
    |exact Calls.mono a λ_ _ ⟨v,f,g⟩=>⟨v,f,c _ _ g⟩
    |exact mo.mono a c
 |halt x b=>simp only[Next.out] at a
theorem EV.mono {P:Q1}{b:Oper}{c:Operand->J0}{a:World}{K d:J0->World->Prop}(e:EV P b c a K)(f: ∀v a,K v a->d v a):EV P b c a d:=Next.dG f e
def KI(a:Oper):Bool:=match a.op with| .defer _=>false| .select .. =>false|_=>true
theorem EV.wpIn {r:Option Nat}{m:Nat}{P:Q1}{b:Oper}{a:Act}{e:World}{K:Act->World->Prop}{j:Exit->Act->World->Prop}
  (hd:KI b=true) (d:EV P b a.eval e λv g=>K (a.put b.dst v) g):b.wpIn (Fw r) m P a e K j:=by
 refine⟨λ_ _=>trivial,?_⟩;have n:Oper.semAt r a.eval b=execOp a.eval b:=Oper.semAt_eq r a.eval b (λc o=>by simp[KI,o] at hd);show b.uponIn (Fw r) m P a K j ((Oper.semAt r a.eval b).run P e);rw[n];unfold EV at d;generalize (execOp a.eval b).run P e=x at d;cases x with
 |ok k g=>
  cases k<;>simp only[Next.out] at d<;>simp only[Oper.uponIn]
  case value v=>exact d
  case skip=>exact d
  case enter f args=>
   refine⟨λh=>by simp at h,XJ.2 (Calls.mono d ?_)⟩;rintro p q ⟨v,rfl,i⟩;exact i
  case round l f tmps assign body=>
   refine⟨λh=>by simp at h,AKL (RoundIn.mono d ?_)⟩;rintro p q ⟨v,rfl,i⟩;exact i
 |halt k g=>simp only[Next.out] at d
section
variable {P : Q1} {A : ak} {r : Option Nat} {ops : Array Oper}
def iW(P:Q1)(A:ak)(c:Oper)(d:Operand->J0)(v:J0)(a:aa):Prop:= ∀b,(execOp d c).run P (A.at a b)= .ok (.value v) (A.at a b)
def un(b:Nat->Nat->Bool)(i a:Nat):Bool:= !(b (max i a) (min i a))
def Jk(a:Oper):Prop:= ∀c b,a.op≠ .select c b
def pX(ops:Array Oper):Nat->Nat->Bool:=
 let b:=Region.before ops
 λi a=>(b.getD i 0).testBit a
end
section
variable {P : Q1} {A : ak} {r : Option Nat} {ops : Array Oper} {qb : Oper -> Bool} {ord : Nat -> Nat -> Bool}
def left(a:Nat)(listed:Array Bool):List Nat:=(List.range a).filter λi=> !listed.getD i false
theorem mem_left {a:Nat}{listed:Array Bool}{i:Nat}:i∈left a listed↔i<a/\listed.getD i false=false:=by simp[left]
theorem range_split {n i:Nat}(c:i<n):List.range n=List.range i++i::(List.range' (i+1) (n-i-1)):=by
 rw[SM,SM];have a:List.range' 0 n=List.range' 0 i++List.range' i (n-i):=by have:=List.range'_append_1 (s:=0) (m:=i) (n:=n-i);rw[AI] at this;rw[this];congr 1;omega
 rw[a];congr 1;have b:n-i=(n-i-1)+1:=by omega
 rw[b,List.range'_succ];simp
theorem AKd {c i:Nat}{listed:Array Bool}(e:i<c)(j:listed.size=c)(g:listed.getD i false=false):
  ∃d f,left c listed=d++i::f/\left c (listed.setIfInBounds i true)=d++f/\ ∀a∈d,a<i/\listed.getD a false=false:=by
 refine⟨(List.range i).filter λa=> !listed.getD a false,(List.range' (i+1) (c-i-1)).filter λa=> !listed.getD a false,?_,?_,?_⟩
 ·unfold left;rw[range_split e,Of,AT];simp only[g,Kx,if_true]
 ·unfold left;have h:(listed.setIfInBounds i true).getD i false=true:=by
   have:i<listed.size:=by omega
   simp[this]
  rw[range_split e,Of,AT];simp only[h,KB,Cl,if_false];congr 1
  ·refine HG λa b=>?_
   have:=List.mem_range.1 b;rw[getD_set_ne false (by omega)]
  ·refine HG λa b=>?_
   have:=(List.mem_range'_1.1 b).1;rw[getD_set_ne false (by omega)]
 ·intro a b;simp only[List.mem_filter,KK,CA] at b;exact b
def gZ(ord:Nat->Nat->Bool)(listed:Array Bool):Prop:= ∀a b,listed.getD a false=true->b<a->ord a b=true->listed.getD b false=true
theorem Ye {a:Oper}(c:KI a=true):Jk a:=λe b d=>by simp[KI,d] at c
theorem AO3(a:Nat):left a (Array.replicate a false)=List.range a:=by unfold left;rw[List.filter_eq_self];intro i _;by_cases b:i<a<;>simp[b]
end
def ah(b:aa)(a:Q6):Option J0:=
 match b[a.block]? with
 |some (.cells c _ _)=>if a.spot.isSome then none else c[a.off]?
 |_=>none
def gw(b:aa)(a:Q6):Bool:=
 match b[a.block]? with
 |some (.cells _ _ (c,d))=>c<=a.off&&a.off<d
 |_=>false
def dx(b:aa)(a:Q6)(v:J0):aa:=
 b.modify a.block λ
  | .cells c d frozen=> .cells (if a.spot.isSome then c else c.setIfInBounds a.off v) d frozen
  |o=>o
theorem AQ9(c:ak)(b:aa)(d:Nat)(a:Q6):(c.at b d).cell? a=ah b a:=rfl
theorem fQ(b:ak)(c:aa)(d:Nat)(a:Q6)(v:J0):(b.at c d).setCell a v=b.at (dx c a v) d:=rfl
def At(p:Q2)(K:Q6->Prop):Prop:=match p with|some a=>K a|none=>False
def af(b:Bool)(a c:Prop):Prop:=match b with|true=>a|false=>c
def ao(a:aa)(b:Obj)(K:Nat->aa->Prop):Prop:=K a.size (a.push b)
def TH(b:aa)(a:Q6)(K:J0->Prop):Prop:= ∃v,ah b a=some v/\K v
def AC(c:IntKind)(d:aa)(a:Q6)(K:Int->Prop):Prop:= ∃b,ah d a=some (.int c b)/\K b
def AZ(c:aa)(a:Q6)(K:Bool->Prop):Prop:= ∃b,ah c a=some (.bool b)/\K b
def AJ(b:aa)(a:Q6)(K:A2I->Prop):Prop:= ∃s,ah b a=some (.string s)/\K s
def AY(b:aa)(a:Q6)(K:Q2->Prop):Prop:= ∃p,ah b a=some (.pointer p)/\K p
structure Sl where
 p:Q2
 len:Nat
 cap:Nat
def Sl.v(s:Sl):J0:= .slice s.p s.len s.cap
def Ad(b:aa)(a:Q6)(K:Sl->Prop):Prop:= ∃s:Sl,ah b a=some (.slice s.p s.len s.cap)/\K s
def ATs(c:FloatKind)(d:aa)(a:Q6)(K:Nat->Prop):Prop:= ∃b,ah d a=some (.float c b)/\K b
def AT5(c:FloatKind)(d:aa)(a:Q6)(K:Nat×Nat->Prop):Prop:= ∃b:Nat×Nat,ah d a=some (.complex c b.1 b.2)/\K b
def Ef(c:aa)(a:Q6)(K:Option Nat->Prop):Prop:= ∃b,ah c a=some (.map b)/\K b
def ae(b:aa)(a:Q6)(v:J0)(K:aa->Prop):Prop:=(∃ u,ah b a=some u)/\gw b a=false/\K (dx b a v)
def bJ(p:Q2)(len:Nat)(i:Int)(K:Q6->Prop):Prop:= ∃a,p=some a/\(0<=i/\i<len)/\K a
def aN(c K:Prop):Prop:=c/\K
def ai {a:Type}(c:a->aa->Prop)(body:(a->aa->Prop)->Prop):Prop:= ∀K:a->aa->Prop,(∀ x b,c x b->K x b)->body K
def Loop {a:Type}(c:(a->aa->Prop)->a->aa->Prop)(x:a)(b:aa):Prop:= ∀K:a->aa->Prop,(∀ x b,c K x b->K x b)->K x b
def BK(a:ak)(P:Q1)(m:Sem J0)(c:aa)(K:A2H):Prop:= ∀d,∃v b e,m.run P (a.at c d)= .ok v (a.at b e)/\K v b
def AA(a:ak)(P:Q1)(f:Q8)(args:Array J0)(c:aa)(d:A2H):Prop:=
 ∀e,Calls P f args (a.at c e) λg h=> ∃v,g= .returned v/\ ∃b i,h=a.at b i/\d v b
theorem AA.mono {b:ak}{P:Q1}{f:Q8}{args:Array J0}{a:aa}{c d:A2H}(e:AA b P f args a c)(g: ∀v a,c v a->d v a):AA b P f args a d:=
 λh=>Calls.mono (e h) λ_ _ ⟨v,i,j,k,l,m⟩=>⟨v,i,j,k,l,g _ _ m⟩
def F4(a:ak)(P:Q1)(fv:J0)(args:Array J0)(d:aa)(e:A2H):Prop:=
 ∀f,Next.out P (λv g=> ∃b h,g=a.at b h/\e v b) ((do let c <-Deferred.ofValue fv args;invoke c.target c.args:Sem Next).run P (a.at d f))
def mu(a:ak)(P:Q1)(c:J0)(name:String)(args:Array J0)(d:aa)(e:A2H):Prop:=
 ∀f,Next.out P (λv g=> ∃b h,g=a.at b h/\e v b) ((callMethod c name args:Sem Next).run P (a.at d f))
theorem F4.mono {b:ak}{P:Q1}{fv:J0}{args:Array J0}{a:aa}{c d:A2H}(e:F4 b P fv args a c)(f: ∀v a,c v a->d v a):F4 b P fv args a d:=
 λg=>Next.dG (λ_ _ ⟨h,i,j,k⟩=>⟨h,i,j,f _ _ k⟩) (e g)
theorem UX {a b:Nat}(c:a≠b):Nat.beq a b=false:=by
 cases d:Nat.beq a b with
 |false=>rfl
 |true=>exact absurd (It d) c
structure Env where
 get:Nat->Option J0
 ds:List Nat
def kZ(a:Nat):Deferred:= {target:= .collected a,args:= #[]}
structure Fits (N:Nat) (a:Act) (e:Env):Prop where
 size:a.tmps.size=N
 get: ∀t v,e.get t=some v->a.tmps[t]? =some v
 ds:a.defers=e.ds.map kZ
def Env.set(a:Env)(b:Nat)(v:J0):Env:= {get:=λt=>bif Nat.beq t b then some v else a.get t,ds:=a.ds}
def Env.put(b:Env)(a:Option Tmp)(v:J0):Env:=match a with|none=>b|some a=>b.set a v
def nU(N:Nat)(a:Option Tmp):Bool:=match a with|none=>true|some a=>Nat.blt a N
theorem Fits.set {N:Nat}{a:Act}{f:Env}(d:Fits N a f){c:Nat}{v:J0}(hd:c<N):Fits N (a.put (some c) v) (f.set c v):=by
 refine⟨by simp[Act.put,d.size],?_,d.ds⟩;intro t u b;unfold Env.set at b;simp only at b;by_cases e:t=c
 ·subst e;have:Nat.beq t t=true:=by simp
  rw[this] at b;simp only[cond_true,BT] at b;subst b;simp[Act.put,d.size,hd]
 ·have:Nat.beq t c=false:=UX e;rw[this] at b;simp only[cond_false] at b;have:=d.get t u b;simp only[Act.put];rw[DM (Ne.symm e)];exact this
theorem Fits.put {N:Nat}{a:Act}{c:Env}(d:Fits N a c){b:Option Tmp}{v:J0}(hd:nU N b=true):Fits N (a.put b v) (c.put b v):=by
 cases b with
 |none=>exact d
 |some b=>exact d.set (by simpa [nU] using hd)
theorem Fits.pL {N:Nat}{a:Act}{e:Env}(d:Fits N a e){c:Nat}{v:J0}(g:a.tmps[c]? =some v):Fits N a (e.set c v):=by
 refine⟨d.size,?_,d.ds⟩;intro t u b;unfold Env.set at b;simp only at b;by_cases f:t=c
 ·subst f;have:Nat.beq t t=true:=by simp
  rw[this] at b;simp only[cond_true,BT] at b;rw[<- b];exact g
 ·have:Nat.beq t c=false:=UX f;rw[this] at b;exact d.get t u b
def rdv(a:Env)(x:Operand):Option J0:=
 match x with
 | .tmp t=>a.get t
 | .const v=>some v
 | .global g=>some (.pointer (some ⟨g,0,none⟩))
 | .func f=>some (.func (.func f) #[] #[])
theorem Fits.rdv {N:Nat}{a:Act}{c:Env}(d:Fits N a c){x:Operand}{v:J0}(b:rdv c x=some v):a.eval x=v:=by
 cases x with
 |tmp t=>
  have:=d.get t v b;simp only[Act.eval];simp[this]
 |const u=>simpa [Lf.rdv,Act.eval] using b
 |global g=>simpa [Lf.rdv,Act.eval] using b
 |func f=>simpa [Lf.rdv,Act.eval] using b
def rd(a:Env)(x:Operand)(K:J0->Prop):Prop:=match rdv a x with|some v=>K v|none=>False
theorem BQ {N:Nat}{a:Act}{c:Env}(e:Fits N a c){x:Operand}{K:J0->Prop}(b:rd c x K):K (a.eval x):=by
 unfold rd at b;cases d:rdv c x with
 |none=>rw[d] at b;exact b.elim
 |some v=>rw[d] at b;rw[e.rdv d];exact b
def ρof(a:Env)(x:Operand):J0:=match rdv a x with|some v=>v|none=>undef
def known(a:Env)(l:List Operand)(K:Prop):Prop:=match l with| []=>K|x::b=>(match rdv a x with|some _=>known a b K|none=>False)
theorem JH {N:Nat}{a:Act}{c:Env}(f:Fits N a c){K:Prop}: ∀ {l:List Operand},known c l K->(∀ x∈l,ρof c x=a.eval x)/\K
 | [],b=>⟨λ_ b=>(by cases b),b⟩
 |x::j,b=>by
  unfold known at b;cases d:rdv c x with
  |none=>rw[d] at b;exact b.elim
  |some v=>
   rw[d] at b;obtain⟨g,h⟩:=JH f b;refine⟨λi e=>?_,h⟩;rcases List.mem_cons.1 e with rfl|e
   ·unfold ρof;rw[d,f.rdv d]
   ·exact g i e
end Go.Lf
namespace Go
open Lf
def Sem.calc {b:Type}(P:Q1):Sem b->Option b
 | .pure a=>some a
 | .program f=>(f P).calc P
 |_=>none
end Go
namespace Go.Lf
theorem Da {e:Type}{P:Q1}{s:Sem e}: ∀ {a:e},s.calc P=some a-> ∀d,s.run P d= .ok a d:=by
 induction s with
 |pure a=>intro b c d;simp only[Sem.calc,BT] at c;subst c;rfl
 |program f g=>intro b c d;exact g P c d
 |_=>intro b c;simp only[Sem.calc] at c;cases c
def TL {b:Type}(P:Q1)(s:Sem b)(K:b->Prop):Prop:=match s.calc P with|some a=>K a|none=>False
theorem Mt {d:Type}{P:Q1}{s:Sem d}{K:d->Prop}(b:TL P s K): ∃a,(∀ e,s.run P e= .ok a e)/\K a:=by
 unfold TL at b;cases c:s.calc P with
 |none=>rw[c] at b;exact b.elim
 |some a=>rw[c] at b;exact⟨a,Da c,b⟩
def NW:J0->Bool
 | .agg _| .tuple _=>false
 |_=>true
end Go.Lf
namespace Go
open Lf
def Sem.vc {e:Type}(P:Q1):Sem e->aa->(e->aa->Prop)->Prop
 | .pure a,c,K=>K a c
 | .program f,c,K=>(f P).vc P c K
 | .new g f,c,K=>ao c g λb d=>(f b).vc P d K
 | .load _ a f,c,K=>TH c a λv=>(f v).vc P c K
 | .store _ a v f,c,K=>match NW v with|true=>ae c a v λd=>f.vc P d K|false=>False
 | .mark _ f,c,K=>f.vc P c K
 |_,_,_=>False
end Go
namespace Go.Lf
theorem tU {c:Type}{A:ak}{P:Q1}{m:Mode}{a:Q6}{v u:J0}{f:Sem c}{b:aa}{n:Nat}(d:NW v=true)(e:ah b a=some u)(g:gw b a=false):
  (Sem.store m a v f).run P (A.at b n)=f.run P (A.at (dx b a v) n):=by
 have h:(A.at b n).cell? a=some u:=e;have i:(A.at b n).frozen? a=false:=g;cases v<;>first|(simp[NW] at d;done)|(simp[Sem.run,h,i,fQ])
theorem AOs {o:Type}{A:ak}{P:Q1}{s:Sem o}: ∀ {d:aa} {K:o->aa->Prop},s.vc P d K-> ∀e,∃v h i,s.run P (A.at d e)= .ok v (A.at h i)/\K v h:=by
 induction s with
 |pure a=>intro d K b e;exact⟨a,d,e,rfl,b⟩
 |program f g=>intro d K b e;exact g P b e
 |mark m f g=>intro d K b e;exact g b e
 |new q f g=>intro d K b e;exact g _ b e
 |load m a f g=>
  intro d K b e;obtain⟨v,r,b⟩:=b;obtain⟨j,h,i,k,l⟩:=g v b e;refine⟨j,h,i,?_,l⟩;simp only[Sem.run,AQ9,r];exact k
 |store m a v f g=>
  intro d K b e;unfold Sem.vc at b;cases n:NW v with
  |false=>rw[n] at b;exact b.elim
  |true=>
   rw[n] at b;obtain⟨⟨u,t⟩,w,b⟩:=b;obtain⟨j,h,i,k,l⟩:=g b e;refine⟨j,h,i,?_,l⟩;rw[tU n t w];exact k
 |shape p f _=>intro d K b;exact b.elim
 |freeze a e f _=>intro d K b;exact b.elim
 |frozen a f _=>intro d K b;exact b.elim
 |getObj p f _=>intro d K b;exact b.elim
 |setObj p q f _=>intro d K b;exact b.elim
 |choose y f _=>intro d K b;exact b.elim
 |sys c f _=>intro d K b;exact b.elim
 |halt x=>intro d K b;exact b.elim
inductive Sc where
 |int (k:IntKind)|bool|str|ptr|sl|map|any|jD (k:FloatKind)|jE (k:FloatKind)
def Sc.Ty:Sc->Type
 | .int _=>Int
 | .bool=>Bool
 | .str=>A2I
 | .ptr=>Q2
 | .sl=>Sl
 | .map=>Option Nat
 | .any=>J0
 | .jD _=>Nat
 | .jE _=>Nat×Nat
def Sc.val:(s:Sc)->s.Ty->J0
 | .int c,(a:Int)=> .int c a
 | .bool,(b:Bool)=> .bool b
 | .str,(s:A2I)=> .string s
 | .ptr,(p:Q2)=> .pointer p
 | .sl,(s:Sl)=> .slice s.p s.len s.cap
 | .map,(d:Option Nat)=> .map d
 | .any,(v:J0)=>v
 | .jD c,(a:Nat)=> .float c a
 | .jE c,(a:Nat×Nat)=> .complex c a.1 a.2
def Sc.load(b:aa)(a:Q6):(s:Sc)->(s.Ty->Prop)->Prop
 | .int c,K=>AC c b a K
 | .bool,K=>AZ b a K
 | .str,K=>AJ b a K
 | .ptr,K=>AY b a K
 | .sl,K=>Ad b a K
 | .map,K=>Ef b a K
 | .any,K=>TH b a K
 | .jD c,K=>ATs c b a K
 | .jE c,K=>AT5 c b a K
theorem Sc.cH {c:aa}{a:Q6}: ∀ {s:Sc} {K:s.Ty->Prop},s.load c a K-> ∃x,ah c a=some (s.val x)/\K x
 | .int _,_,b=>b
 | .bool,_,b=>b
 | .str,_,b=>b
 | .ptr,_,b=>b
 | .sl,_,b=>b
 | .map,_,b=>b
 | .any,_,b=>b
 | .jD _,_,b=>b
 | .jE _,_,b=>b
def qc(b:aa)(a:Q6):Nat->List Sc->(List J0->Prop)->Prop
 |_,[],K=>K []
 |i,s::l,K=>s.load b (a.add i) λx=>qc b a (i+1) l λc=>K (s.val x::c)
def qd:List Sc->(List J0->Prop)->Prop
 | [],K=>K []
 |s::l,K=> ∃x:s.Ty,qd l λa=>K (s.val x::a)
theorem tV: ∀ {l:List Sc} {K:List J0->Prop},qd l K-> ∃b,K b
 | [],_,a=>⟨[],a⟩
 |_::_,_,⟨_,a⟩=>let ⟨b,c⟩:=tV a;⟨_,c⟩
def jY(P:Q1):Nat->Q7->List Sc
 |0,_=> []
 |d+1,t=>
  match P.underlying t with
  |some .bool=> [.bool]
  |some (.int a)=> [.int a]
  |some (.float a)=> [.jD a]
  |some (.complex a)=> [.jE a]
  |some .string=> [.str]
  |some (.pointer _)=> [.ptr]
  |some (.slice _)=> [.sl]
  |some (.map _ _)=> [.map]
  |some (.struct b)=>b.toList.flatMap λf=>jY P d f.type
  |some (.array c e)=>(List.replicate c (jY P d e)).flatten
  |_=> [.any]
def XR(P:Q1)(t:Q7):Bool:=match P.underlying t with|some (.struct _)=>true|some (.array _ _)=>true|_=>false
mutual
def nV(P:Q1):Nat->Q7->(J0->Prop)->Prop
 |0,_,K=> ∃v,K v
 |d+1,t,K=>
  match P.underlying t with
  |some (.tuple ts)=>nW P d ts.toList λa=>K (.tuple a.toArray)
  |_=>match XR P t with
   |true=>qd (jY P 20 t) λa=>K (.agg a.toArray)
   |false=>match jY P 20 t with
    | [s]=> ∃x:s.Ty,K (s.val x)
    |_=>False
def nW(P:Q1):Nat->List Q7->(List J0->Prop)->Prop
 |_,[],K=>K []
 |0,_::_,_=>False
 |d+1,t::ts,K=>nV P d t λu=>nW P d ts λa=>K (u::a)
end
theorem API(P:Q1): ∀b,(∀ (t:Q7) (K:J0->Prop),nV P b t K-> ∃v,K v)/\(∀ (ts:List Q7) (K:List J0->Prop),nW P b ts K-> ∃f,K f):=by
 intro b
 induction b with
 |zero=>
  refine⟨λt K a=>a,λts K a=>?_⟩;cases ts with
  |nil=>exact⟨[],a⟩
  |cons t ts=>exact a.elim
 |succ b c=>
  refine⟨λt K a=>?_,λts K a=>?_⟩
  ·unfold nV at a;split at a
   ·exact let ⟨e,d⟩:=c.2 _ _ a;⟨_,d⟩
   ·split at a
    ·exact let ⟨e,d⟩:=tV a;⟨_,d⟩
    ·split at a
     ·exact let ⟨x,g⟩:=a;⟨_,g⟩
     ·exact a.elim
  ·cases ts with
   |nil=>exact⟨[],a⟩
   |cons t ts=>
    unfold nW at a;obtain⟨u,a⟩:=c.1 _ _ a;obtain⟨e,a⟩:=c.2 _ _ a;exact⟨_,a⟩
def Pn(P:Q1)(t:Q7)(v:J0)(K:J0->Prop):Prop:=nV P 8 t λu=>v=u/\K u
theorem MV {P:Q1}{t:Q7}{v:J0}{K:J0->Prop}(a:Pn P t v K):K v:=by obtain⟨u,rfl,a⟩:=(API P 8).1 _ _ a;exact a
def bU(a b:A2I):Bool:=a.toList==b.toList
def aR(a b:A2I):Bool:=Op.bytesLess a.toList b.toList
def dD(s:A2I)(i:Int):Int:=((s[i.toNat]?).getD 0).toNat
def Vw(P:Q1)(t:Q7)(a:Operand):Bool:=
 match P.underlying t with
 |some (.pointer _)=>match a with| .const (.pointer none)=>true|_=>false
 |some (.slice _)=>match a with| .const (.slice none 0 0)=>true|_=>false
 |some (.map _ _)=>match a with| .const (.map none)=>true|_=>false
 |some (.func _ _ _)=>match a with| .const .nilFunc=>true|_=>false
 |some (.interface _)=>match a with| .const .nilIface=>true|_=>false
 |_=>false
def jZ:J0->Prop
 | .func .. =>True
 | .nilFunc=>True
 |_=>False
def Xk:J0->Bool
 | .nilFunc=>true
 |_=>false
def mw:J0->Prop
 | .iface .. =>True
 | .nilIface=>True
 |_=>False
def l9:J0->Bool
 | .nilIface=>true
 |_=>false
def my(P:Q1)(t:Q7)(v:J0)(K:Bool->Prop):Prop:=
 match P.underlying t with
 |some (.pointer _)=>match v with| .pointer p=>K p.isNone|_=>False
 |some (.slice _)=>match v with| .slice p _ _=>K p.isNone|_=>False
 |some (.map _ _)=>match v with| .map a=>K a.isNone|_=>False
 |some (.func _ _ _)=>aN (jZ v) (K (Xk v))
 |some (.interface _)=>aN (mw v) (K (l9 v))
 |_=>False
def We(a:BinOp)(b:Bool):J0:=match a with| .eql=> .bool b|_=> .bool !b
def qe(d:BinOp)(v u:J0)(K:J0->Prop):Prop:=
 match v,u with
 | .int c a,.int e b=>
  match decide (c=e) with
  |true=>match d with
   | .quo=>aN (b≠0) (K (.int c (c.wrap (a.tdiv b))))
   | .rem=>aN (b≠0) (K (.int c (a.tmod b)))
   |_=>False
  |false=>False
 |_,_=>False
def qf(d:BinOp)(v u:J0)(K:J0->Prop):Prop:=
 match v,u with
 | .int c a,.int _ b=>
  match d with
  | .shl=>aN (0<=b) (K (.int c (c.wrap (a*2^(min b.toNat c.bits)))))
  | .shr=>aN (0<=b) (K (.int c (a.fdiv (2^(min b.toNat c.bits)))))
  |_=>False
 |_,_=>False
def qg(v u:J0)(K:J0->Prop):Prop:=
 match v,u with
 | .string a,.string b=>aN (((a.size+b.size:Nat):Int)<=IntKind.i64.max) (K (.string (a++b)))
 |_,_=>False
inductive AS7 where
 |eN|div|shift|cat|jF|jG|no
def isConst:Operand->Bool
 | .const _=>true
 |_=>false
def VK(P:Q1)(b:BinOp)(t:Q7)(x a:Operand):AS7:=
 match b with
 | .quo| .rem=>match P.underlying t with|some (.int _)=>(match isConst a with|true=> .eN|false=> .div)|_=> .no
 | .shl| .shr=>match isConst a with|true=> .eN|false=> .shift
 | .add=>match P.underlying t with|some .string=> .cat|some (.int _)=> .eN|_=> .no
 | .eql| .neq=>
  match P.underlying t with
  |some (.int _)=> .eN
  |some .string=> .eN
  |some .bool=> .eN
  |some (.pointer _)|some (.slice _)|some (.map _ _)|some (.func _ _ _)|some (.interface _)=>(match Vw P t a with|true=> .jF|false=>match Vw P t x with|true=> .jG|false=> .no)
  |_=> .no
 |_=>match P.underlying t with|some (.int _)=> .eN|some .string=> .eN|_=> .no
def qh(P:Q1)(a:BinOp)(t:Q7)(x c:Operand)(v u:J0)(K:J0->Prop):Prop:=
 match VK P a t x c with
 | .eN=>TL P (do eqGuard a t x c v u;binOp a t v u) K
 | .div=>qe a v u K
 | .shift=>qf a v u K
 | .cat=>qg v u K
 | .jF=>my P t v λb=>K (We a b)
 | .jG=>my P t u λb=>K (We a b)
 | .no=>False
def qi(P:Q1)(t:Q7)(v i:J0)(K:J0->Prop):Prop:=
 match P.underlying t with
 |some (.slice c)=>match v,i,P.info? c with
  | .slice p len _,.int _ b,some d=>bJ p len b λa=>K (.pointer (some (a.add (b.toNat*d.size))))
  |_,_,_=>False
 |some (.array len c)=>match v,i,P.info? c with
  | .pointer p,.int _ b,some d=>At p λa=>aN (0<=b/\b<(len:Int)) (K (.pointer (some (a.add (b.toNat*d.size)))))
  |_,_,_=>False
 |_=>False
def qj(P:Q1)(t:Q7)(v i:J0)(K:J0->Prop):Prop:=
 match P.underlying t with
 |some .string=>match v,i with
  | .string s,.int _ a=>aN (0<=a/\a<(s.size:Int)) (K (.int .u8 (dD s a)))
  |_,_=>False
 |some (.array _ _)=>TL P (Instr.index t v i) K
 |_=>False
def hG(x:Option J0)(b max:Nat)(K:Nat->Prop):Prop:=
 match x with
 |some (.int _ a)=>aN (0<=a/\a<=(max:Int)) (K a.toNat)
 |none=>K b
 |_=>False
def BI(p:Q2)(a l b:Nat):Q2:=if a=l then p else p.map (·.add (l*b))
def qk(P:Q1)(t:Q7)(v:J0)(d e:Option J0)(K:J0->Prop):Prop:=
 match P.underlying t with
 |some .string=>match v with
  | .string s=>hG e s.size s.size λb=>hG d 0 b λl=>K (.string (s.extract l b))
  |_=>False
 |some (.slice f)=>match v,P.info? f with
  | .slice p len g,some h=>hG e len g λb=>hG d 0 b λl=>K (.slice (BI p g l h.size) (b-l) (g-l))
  |_,_=>False
 |some (.array c f)=>match v,P.info? f with
  | .pointer p,some h=>At p λa=>hG e c c λb=>hG d 0 b λl=>K (.slice (some (if c=l then a else a.add (l*h.size))) (b-l) (c-l))
  |_,_=>False
 |_=>False
def ql(P:Q1)(t:Q7)(v:J0)(c d:Option J0)(e:J0)(K:J0->Prop):Prop:=
 match P.underlying t with
 |some (.slice f)=>match v,P.info? f,d,e with
  | .slice p _ g,some h,some (.int _ b),.int _ a=>aN (0<=a/\a<=(g:Int)) (aN (0<=b/\b<=(a.toNat:Int)) (hG c 0 b.toNat λl=>K (.slice (BI p a.toNat l h.size) (b.toNat-l) (a.toNat-l))))
  |_,_,_,_=>False
 |_=>False
def qm(c:Bool)(a b:Option J0)(K:J0->Prop):Prop:=
 match a,b with
 |some (.bool x),some (.bool d)=>K (.bool (cond c x d))
 |some x,some d=>af c (K x) (K d)
 |some x,none=>af c (K x) False
 |none,some d=>af c False (K d)
 |none,none=>False
def tW(v:J0)(K:J0->Prop):Prop:=
 match v with
 | .pointer p=>At p λa=>K (.pointer (some a))
 |_=>False
def mB(a:Env)(x:Option Operand)(K:Option J0->Prop):Prop:=match x with|none=>K none|some x=>rd a x λv=>K (some v)
def Zl(b:Bool)(K:Prop):Prop:=match b with|true=>K|false=>False
def mD(P:Q1)(t:Q7)(v:J0)(K:Array J0->Prop):Prop:=
 match XR P t with
 |true=>K v.cells
 |false=>Zl (NW v) (K #[v])
theorem AKh {v:J0}(a:NW v=true):v.cells= #[v]:=by cases v<;>first|rfl|(simp[NW] at a)
theorem Rt {P:Q1}{t:Q7}{v:J0}{K:Array J0->Prop}(a:mD P t v K):K v.cells:=by
 unfold mD at a;split at a
 ·exact a
 ·cases b:NW v with
  |false=>rw[b] at a;exact a.elim
  |true=>rw[b] at a;rw[AKh b];exact a
def lh(b:Nat->Option (Nat×Nat))(cells:Array J0):List (Nat×Array J0)->Option (Array J0)
 | []=>some cells
 |(i,a)::rest=>
  match b i with
  |none=>none
  |some (off,d)=>
   if a.size≠d||off+a.size>cells.size then none
   else lh b (a.zipIdx.foldl (λe (c,f)=>e.setIfInBounds (off+f) c) cells) rest
theorem nY(a:Nat->Option (Nat×Nat)): ∀(l:List (Nat×J0)) (cells:Array J0),Instr.fill a cells l=lh a cells (l.map λp=>(p.1,p.2.cells))
 | [],cells=>rfl
 |(i,v)::rest,cells=>by
  simp only[Instr.fill,BW,lh];cases a i with
  |none=>rfl
  |some p=>obtain⟨off,b⟩:=p;simp only[];split<;>first|rfl|exact nY a rest _
def ASu(P:Q1)(t:Q7)(i:Nat):Option Q7:=
 match P.underlying t with
 |some (.struct b)=>(b[i]?).map (·.type)
 |some (.array _ a)=>some a
 |some (.slice a)=>some a
 |_=>none
def mE(P:Q1)(t:Q7)(a:Env):List (Nat×Operand)->(List (Nat×Array J0)->Prop)->Prop
 | [],K=>K []
 |(i,x)::b,K=>match ASu P t i with
  |some ft=>rd a x λv=>mD P ft v λc=>mE P t a b λl=>K ((i,c)::l)
  |none=>False
def placesOf(P:Q1):List Field->Option (List (Nat×Nat))
 | []=>some []
 |f::a=>match P.info? f.type with
  |some i=>match placesOf P a with
   |some l=>some ((f.offset,i.size)::l)
   |none=>none
  |none=>none
def qn(P:Q1)(t:Q7)(a:List (Nat×Array J0)):Option (Array J0):=
 match P.info? t with
 |some i=>match i.zero with
  |some z=>match P.underlying t with
   |some (.struct c)=>match placesOf P c.toList with
    |some l=>lh (l.toArray[·]?) z.cells a
    |none=>none
   |some (.array _ d)=>match P.info? d with
    |some b=>lh (λe=>some (e*b.size,b.size)) z.cells a
    |none=>none
   |_=>none
  |none=>none
 |none=>none
def ASP(P:Q1)(t:Q7)(a:Array (Nat×Operand))(b:Env)(K:J0->Prop):Prop:=
 mE P t b a.toList λl=>match qn P t l with|some cells=>K (.agg cells)|none=>False
def nZ(P:Q1)(e:Oper)(d:Env)(K:J0->Prop):Prop:=
 match e.op with
 | .nilCheck x=>rd d x λv=>tW v K
 | .binOp k t x g _=>rd d x λv=>rd d g λu=>qh P k t x g v u K
 | .indexAddr t x i=>rd d x λv=>rd d i λu=>qi P t v u K
 | .index t x i=>rd d x λv=>rd d i λu=>qj P t v u K
 | .slice t x h j n=>match n with
  |none=>rd d x λv=>mB d h λl=>mB d j λf=>qk P t v l f K
  |some m=>rd d x λv=>mB d h λl=>mB d j λf=>rd d m λo=>ql P t v l f o K
 | .pick c a b=>rd d c λv=>match v with| .bool c=>qm c (rdv d a) (rdv d b) K|_=>False
 | .build t q=>ASP P t q d K
 | .fieldAddr t x i=>rd d x λv=>match v with| .pointer p=>At p λa=>TL P (Instr.fieldAt t (.pointer (some a)) i) K|_=>False
 |_=>known d e.op.operands.toList (TL P (execOp (ρof d) e) λx=>match x with| .value v=>K v|_=>False)
theorem At.mk {p:Q2}{K:Q6->Prop}(b:At p K): ∃a,p=some a/\K a:=by
 cases p with
 |none=>exact b.elim
 |some a=>exact⟨a,rfl,b⟩
theorem jl {P:Q1}{s:Sem J0}{v:J0}{w a:World}(b:s.run P w= .ok v a):(do pure (.value (<- s)):Sem Next).run P w= .ok (.value v) a:=by rw[Sem.run_bind,b];rfl
theorem ATy {P:Q1}{s:Sem Unit}{w a:World}(b:s.run P w= .ok () a):(do s;pure .skip:Sem Next).run P w= .ok .skip a:=by rw[Sem.run_bind,b];rfl
section
variable {P : Q1} {w : World}
theorem BL {t:Q7}{a:TypeDesc}(b:P.underlying t=some a):(underlying t).run P w= .ok a w:=run_underlying b w
theorem tX {t:Q7}{i:TypeInfo}(a:P.info? t=some i):(typeInfo t).run P w= .ok i w:=by simp[typeInfo,a]
theorem run_sizeOf {t:Q7}{i:TypeInfo}(a:P.info? t=some i):(sizeOf t).run P w= .ok i.size w:=by simp[sizeOf,tX a]
def Uh(P:Q1)(t:Q7):Option J0:=
 match P.underlying t with
 |some (.pointer _)=>some (.pointer none)
 |some (.slice _)=>some (.slice none 0 0)
 |some (.map _ _)=>some (.map none)
 |some (.func _ _ _)=>some .nilFunc
 |some (.interface _)=>some .nilIface
 |_=>none
theorem YL {t:Q7}{b:Operand}(a:Vw P t b=true): ∃u,b= .const u/\Uh P t=some u:=by unfold Vw at a;unfold Uh;split at a<;>first|(cases a;done)|(split at a<;>first|(cases a;done)|exact⟨_,rfl,rfl⟩)
theorem AGR(g:Nat){t:Q7}{v u:J0}{K:Bool->Prop}(c:my P t v K)(d:Uh P t=some u):
  ∃b,(∀ w,(Op.equalIn (g+1) t v u).run P w= .ok b w)/\(∀ w,(Op.equalIn (g+1) t u v).run P w= .ok b w)/\K b:=by
 unfold my at c;unfold Uh at d;cases e:P.underlying t with
 |none=>rw[e] at c;exact c.elim
 |some i=>
  rw[e] at c d;cases i<;>simp only[] at c d<;>try exact c.elim
  case pointer h=>
   simp only[BT] at d;subst d;cases v<;>simp only[] at c<;>try exact c.elim
   case pointer p=>
    refine⟨_,λw=>?_,λw=>?_,c⟩
    ·cases p<;>simp[Op.equalIn,BL e]
    ·cases p<;>simp[Op.equalIn,BL e]
  case slice h=>
   simp only[BT] at d;subst d;cases v<;>simp only[] at c<;>try exact c.elim
   case slice p a b=>
    refine⟨_,λw=>?_,λw=>?_,c⟩
    ·cases p<;>simp[Op.equalIn,BL e]
    ·cases p<;>simp[Op.equalIn,BL e]
  case map j h=>
   simp only[BT] at d;subst d;cases v<;>simp only[] at c<;>try exact c.elim
   case map p=>
    refine⟨_,λw=>?_,λw=>?_,c⟩
    ·cases p<;>simp[Op.equalIn,BL e]
    ·cases p<;>simp[Op.equalIn,BL e]
  case func ps k l=>
   simp only[BT] at d;subst d;obtain⟨f,c⟩:=c;cases v<;>simp only[jZ] at f
   ·refine⟨_,λw=>?_,λw=>?_,c⟩<;>simp[Op.equalIn,BL e,Xk]
   ·refine⟨_,λw=>?_,λw=>?_,c⟩<;>simp[Op.equalIn,BL e,Xk]
  case interface m=>
   simp only[BT] at d;subst d;obtain⟨f,c⟩:=c;cases v<;>simp only[mw] at f
   ·refine⟨_,λw=>?_,λw=>?_,c⟩<;>simp[Op.equalIn,BL e,l9]
   ·refine⟨_,λw=>?_,λw=>?_,c⟩<;>simp[Op.equalIn,BL e,l9]
end
section
variable {P : Q1}
def PR(P:Q1)(s:Sem J0)(K:J0->Prop):Prop:= ∃v,(∀ a,s.run P a= .ok v a)/\K v
theorem AE0 {N:Nat}{a:Act}{c:Env}(f:Fits N a c){o:Oper}{K:J0->Prop}(g:Jk o)
  (h:known c o.op.operands.toList (TL P (execOp (ρof c) o) λx=>match x with| .value v=>K v|_=>False)):
  ∃v,(∀ d,(execOp a.eval o).run P d= .ok (.value v) d)/\K v:=by
 obtain⟨i,j⟩:=JH f h;obtain⟨x,b,e⟩:=Mt j;rw[execOp_congr o g (λx b=>i x (by simpa using b))] at b;cases x<;>simp only[] at e
 exact⟨_,b,e⟩
theorem AM0 {d:BinOp}{t:Q7}{x g:Operand}{v u:J0}{K:J0->Prop}(h:d= .quo\/d= .rem)(c:qe d v u K):PR P (do eqGuard d t x g v u;binOp d t v u) K:=by
 unfold qe at c;cases v<;>cases u<;>simp only[] at c<;>try exact c.elim
 rename_i i a j b;by_cases f:i=j
 ·subst f;rcases h with rfl|rfl
  ·simp only[decide_true] at c;obtain⟨e,c⟩:=c;exact⟨_,λk=>by simp[eqGuard,binOp,Op.intDiv,e],c⟩
  ·simp only[decide_true] at c;obtain⟨e,c⟩:=c;exact⟨_,λk=>by simp[eqGuard,binOp,Op.intDiv,e],c⟩
 ·rw[decide_eq_false f] at c;exact c.elim
theorem AQF {b:BinOp}{t:Q7}{x d:Operand}{v u:J0}{K:J0->Prop}(e:b= .shl\/b= .shr)(a:qf b v u K):PR P (do eqGuard b t x d v u;binOp b t v u) K:=by
 unfold qf at a;cases v<;>cases u<;>simp only[] at a<;>try exact a.elim
 rcases e with rfl|rfl
 ·simp only[] at a;obtain⟨c,a⟩:=a;exact⟨_,λf=>by simp[eqGuard,binOp,Op.shift,Int.not_lt.2 c],a⟩
 ·simp only[] at a;obtain⟨c,a⟩:=a;exact⟨_,λf=>by simp[eqGuard,binOp,Op.shift,Int.not_lt.2 c],a⟩
theorem ANX {t:Q7}{x b:Operand}{v u:J0}{K:J0->Prop}(a:qg v u K):PR P (do eqGuard .add t x b v u;binOp .add t v u) K:=by
 unfold qg at a;cases v<;>cases u<;>simp only[] at a<;>try exact a.elim
 obtain⟨c,a⟩:=a;refine⟨_,λe=>?_,a⟩;have d: ¬(((_:A2I).size+(_:A2I).size:Nat):Int)>IntKind.i64.max:=Int.not_lt.2 c;simp only[eqGuard,binOp,Op.stringOp,if_neg d];rfl
theorem tY {t:Q7}{v u:J0}{K:Bool->Prop}(c:my P t v K)(d:Uh P t=some u):
  ∃b,(∀ a,(Op.equal t v u).run P a= .ok b a)/\(∀ a,(Op.equal t u v).run P a= .ok b a)/\K b:=AGR 9999 c d
theorem binOp_eql {a:BinOp}{t:Q7}{v u:J0}{b:Bool}(g:a= .eql\/a= .neq)(c:Uh P t=some u){d:World}(e:(Op.equal t v u).run P d= .ok b d):
  (binOp a t v u).run P d= .ok (We a b) d/\True:=by
 have f:u= .pointer none\/u= .slice none 0 0\/u= .map none\/u= .nilFunc\/u= .nilIface:=by unfold Uh at c;split at c<;>simp at c<;>subst c<;>simp
 refine⟨?_,trivial⟩;rcases g with rfl|rfl
 ·rcases f with rfl|rfl|rfl|rfl|rfl<;>cases v<;>simp[binOp,e,We]
 ·rcases f with rfl|rfl|rfl|rfl|rfl<;>cases v<;>simp[binOp,e,We]
theorem AJk {a:BinOp}{t:Q7}{v u:J0}{b:Bool}(g:a= .eql\/a= .neq)(c:Uh P t=some u){d:World}(e:(Op.equal t u v).run P d= .ok b d):
  (binOp a t u v).run P d= .ok (We a b) d/\True:=by
 have f:u= .pointer none\/u= .slice none 0 0\/u= .map none\/u= .nilFunc\/u= .nilIface:=by unfold Uh at c;split at c<;>simp at c<;>subst c<;>simp
 refine⟨?_,trivial⟩;rcases g with rfl|rfl
 ·rcases f with rfl|rfl|rfl|rfl|rfl<;>cases v<;>simp[binOp,e,We]
 ·rcases f with rfl|rfl|rfl|rfl|rfl<;>cases v<;>simp[binOp,e,We]
theorem tZ {b:BinOp}{t:Q7}{x e:Operand}{v u:J0}{d:World}(f:b= .eql\/b= .neq)(a:Uh P t=some u)(g:(∃ c,x= .const c)\/(∃ c,e= .const c)):
  (eqGuard b t x e v u).run P d= .ok () d/\(eqGuard b t x e u v).run P d= .ok () d:=by
 have h:u= .pointer none\/u= .slice none 0 0\/u= .map none\/u= .nilFunc\/u= .nilIface:=by unfold Uh at a;split at a<;>simp at a<;>subst a<;>simp
 clear a;rcases f with rfl|rfl<;>rcases g with⟨c,rfl⟩|⟨c,rfl⟩<;>rcases h with rfl|rfl|rfl|rfl|rfl<;>cases v<;>exact⟨by simp[eqGuard],by simp[eqGuard]⟩
theorem ANa {d:BinOp}{t:Q7}{x h:Operand}{v u:J0}{K:J0->Prop}(n: ∀c,x= .const c->v=c)(o: ∀c,h= .const c->u=c)(e:qh P d t x h v u K):
  PR P (do eqGuard d t x h v u;binOp d t v u) K:=by
 unfold qh at e;cases a:VK P d t x h with
 |eN=>rw[a] at e;exact Mt e
 |no=>rw[a] at e;exact e.elim
 |div=>
  rw[a] at e;refine AM0 ?_ e;unfold VK at a;cases d<;>simp only[] at a<;>first|exact .inl rfl|exact .inr rfl|(exfalso;split at a<;>first|(cases a;done)|(split at a<;>first|(cases a;done)|(split at a<;>cases a)))
 |shift=>
  rw[a] at e;refine AQF ?_ e;unfold VK at a;cases d<;>simp only[] at a<;>first|exact .inl rfl|exact .inr rfl|(exfalso;split at a<;>first|(cases a;done)|(split at a<;>first|(cases a;done)|(split at a<;>cases a)))
 |cat=>
  rw[a] at e;have:d= .add:=by unfold VK at a;cases d<;>simp only[] at a<;>first|rfl|(exfalso;split at a<;>first|(cases a;done)|(split at a<;>first|(cases a;done)|(split at a<;>cases a)))
  subst this;exact ANX e
 |jF=>
  rw[a] at e;have f:(d= .eql\/d= .neq)/\Vw P t h=true:=by
   unfold VK at a;cases d<;>simp only[] at a<;>first
    |(refine⟨.inl rfl,?_⟩;split at a<;>first|(cases a;done)|(split at a<;>first|assumption|(split at a<;>cases a)))
    |(refine⟨.inr rfl,?_⟩;split at a<;>first|(cases a;done)|(split at a<;>first|assumption|(split at a<;>cases a)))
    |(exfalso;split at a<;>first|(cases a;done)|(split at a<;>first|(cases a;done)|(split at a<;>cases a)))
  obtain⟨f,i⟩:=f;obtain⟨c,l,g⟩:=YL i;have:=o c l;subst this;obtain⟨b,p,_,j⟩:=tY e g;refine⟨We d b,λk=>?_,j⟩;rw[Sem.run_bind,(tZ f g (.inr ⟨_,l⟩)).1];exact(binOp_eql f g (p k)).1
 |jG=>
  rw[a] at e;have f:(d= .eql\/d= .neq)/\Vw P t x=true:=by
   unfold VK at a;cases d<;>simp only[] at a<;>first
    |(refine⟨.inl rfl,?_⟩;split at a<;>first|(cases a;done)|(split at a<;>first|(cases a;done)|(split at a<;>first|assumption|(cases a;done))))
    |(refine⟨.inr rfl,?_⟩;split at a<;>first|(cases a;done)|(split at a<;>first|(cases a;done)|(split at a<;>first|assumption|(cases a;done))))
    |(exfalso;split at a<;>first|(cases a;done)|(split at a<;>first|(cases a;done)|(split at a<;>cases a)))
  obtain⟨f,i⟩:=f;obtain⟨c,m,g⟩:=YL i;have:=n c m;subst this;obtain⟨b,_,q,j⟩:=tY e g;refine⟨We d b,λk=>?_,j⟩;rw[Sem.run_bind,(tZ f g (.inl ⟨_,m⟩)).2];exact(AJk f g (q k)).1
end
section
variable {P : Q1}
theorem AEX {t:Q7}{v i:J0}{K:J0->Prop}(b:qi P t v i K):PR P (Instr.indexAt t v i) K:=by
 unfold qi at b;split at b
 ·rename_i h d;split at b
  ·rename_i p len c j k l e;obtain⟨a,rfl,⟨f,g⟩,b⟩:=b;refine⟨_,λm=>?_,b⟩;simp[Instr.indexAt,asIntOf,BL d,run_sizeOf e,f,g]
  ·exact b.elim
 ·rename_i len h d;split at b
  ·rename_i p j k l e;obtain⟨a,rfl,b⟩:=At.mk b;obtain⟨⟨f,g⟩,b⟩:=b;refine⟨_,λm=>?_,b⟩;simp[Instr.indexAt,asIntOf,BL d,run_sizeOf e,f,g,Instr.sureAddr]
  ·exact b.elim
 ·exact b.elim
theorem AIP {t:Q7}{v i:J0}{K:J0->Prop}(a:qj P t v i K):PR P (Instr.index t v i) K:=by
 unfold qj at a;split at a
 ·rename_i c;split at a
  ·rename_i s g b;obtain⟨⟨d,h⟩,a⟩:=a;refine⟨_,λj=>?_,a⟩;have e:b.toNat<s.size:=by omega
   have f:s[b.toNat]? =some s[b.toNat]:=by simp[e]
   simp[Instr.index,asIntOf,BL c,d,f,dD]
  ·exact a.elim
 ·exact Mt a
 ·exact a.elim
theorem Va {x:Option J0}{d max:Nat}{K:Nat->Prop}(a:hG x d max K):
  (x=none/\K d)\/ ∃c b,x=some (.int c b)/\0<=b/\b<=(max:Int)/\K b.toNat:=by
 unfold hG at a;split at a
 ·rename_i c b;obtain⟨⟨e,f⟩,a⟩:=a;exact .inr ⟨c,b,rfl,e,f,a⟩
 ·exact .inl ⟨rfl,a⟩
 ·exact a.elim
theorem run_sliceBound {d:IntKind}{a:Int}{b:Nat}{e:BoundsCode}(f:0<=a)(g:a<=(b:Int))(c:World):
  (Instr.sliceBound (.int d a) b e).run P c= .ok a.toNat c:=by
 simp[Instr.sliceBound,asIntOf,f,g]
theorem Nc {b:Bool}{len g:Nat}{k m:Option J0}{K:Nat->Nat->Prop}
  (p:hG m len g λe=>hG k 0 e λl=>K l e): ∃l e,(∀ d,(Instr.sliceBounds b len g k m none).run P d= .ok (l,e,g) d)/\K l e:=by
 obtain⟨f,h⟩|⟨s,t,f,n,o,h⟩:=Va p
 ·obtain⟨a,c⟩|⟨q,r,a,i,j,c⟩:=Va h
  ·exact⟨_,_,λd=>by simp[Instr.sliceBounds,f,a],c⟩
  ·exact⟨_,_,λd=>by simp[Instr.sliceBounds,f,a,run_sliceBound i j],c⟩
 ·obtain⟨a,c⟩|⟨q,r,a,i,j,c⟩:=Va h
  ·exact⟨_,_,λd=>by simp[Instr.sliceBounds,f,a,run_sliceBound n o],c⟩
  ·exact⟨_,_,λd=>by simp[Instr.sliceBounds,f,a,run_sliceBound n o,run_sliceBound i j],c⟩
theorem AID {t:Q7}{v:J0}{g h:Option J0}{K:J0->Prop}(c:qk P t v g h K):PR P (Instr.sliceAt t v g h none) K:=by
 unfold qk at c;split at c
 ·rename_i d;split at c
  ·rename_i s;obtain⟨l,i,e,c⟩:=Nc (P:=P) (b:=false) c;refine⟨_,λj=>?_,c⟩;simp[Instr.sliceAt,Instr.slice,BL d,e]
  ·exact c.elim
 ·rename_i k d;split at c
  ·rename_i p len o m f;obtain⟨l,i,e,c⟩:=Nc (P:=P) (b:=true) c;refine⟨_,λj=>?_,c⟩;simp[Instr.sliceAt,Instr.slice,BL d,e,run_sizeOf f,BI]
  ·exact c.elim
 ·rename_i q k d;split at c
  ·rename_i p m f;obtain⟨a,rfl,n⟩:=At.mk c;obtain⟨l,i,e,c⟩:=Nc (P:=P) (b:=false) n;refine⟨_,λj=>?_,c⟩;simp[Instr.sliceAt,BL d,e,run_sizeOf f,Instr.sureAddr]
  ·exact c.elim
 ·exact c.elim
theorem AG4 {t:Q7}{v d:J0}{e f:Option J0}{K:J0->Prop}(a:ql P t v e f d K):PR P (Instr.sliceAt t v e f (some d)) K:=by
 unfold ql at a;split at a
 ·rename_i q g;split at a
  ·rename_i p len r s u w b x h;obtain⟨⟨i,j⟩,⟨k,l⟩,a⟩:=a;obtain⟨c,b⟩|⟨y,z,c,m,n,b⟩:=Va a
   ·refine⟨_,λo=>?_,b⟩;simp[Instr.sliceAt,Instr.slice,Instr.sliceBounds,BL g,run_sizeOf h,BI,c,run_sliceBound i j,run_sliceBound k l]
   ·refine⟨_,λo=>?_,b⟩;simp[Instr.sliceAt,Instr.slice,Instr.sliceBounds,BL g,run_sizeOf h,BI,c,run_sliceBound i j,run_sliceBound k l,run_sliceBound m n]
  ·exact a.elim
 ·exact a.elim
theorem af.mk {b:Bool}{c d:Prop}(a:af b c d):(b=true->c)/\(b=false->d):=by
 cases b
 ·exact⟨λa=>(by cases a),λ_=>a⟩
 ·exact⟨λ_=>a,λa=>(by cases a)⟩
theorem AJn {c:Bool}{a b:Option J0}{va vb:J0}(e: ∀v,a=some v->va=v)(f: ∀v,b=some v->vb=v){K:J0->Prop}(d:qm c a b K):
  K (if c then va else vb):=by
 unfold qm at d;split at d
 ·rename_i x g;rw[e _ rfl,f _ rfl];cases c<;>exact d
 ·rename_i x g _;rw[e _ rfl,f _ rfl];cases c<;>exact d
 ·rename_i x;rw[e _ rfl];cases c
  ·exact d.elim
  ·exact d
 ·rename_i g;rw[f _ rfl];cases c
  ·exact d
  ·exact d.elim
 ·exact d.elim
theorem R9 {N:Nat}{a:Act}{b:Env}(d:Fits N a b){x:Option Operand}{K:Option J0->Prop}(c:mB b x K):K (x.map a.eval):=by
 cases x with
 |none=>exact c
 |some x=>exact BQ d c
theorem Sk {N:Nat}{a:Act}{c:Env}(d:Fits N a c){t:Q7}: ∀ {l:List (Nat×Operand)} {K:List (Nat×Array J0)->Prop},mE P t c l K->K (l.map λp=>(p.1,(a.eval p.2).cells))
 | [],K,b=>b
 |(i,x)::g,K,b=>by
  unfold mE at b;split at b
  ·have e:=Rt (BQ d b);have f:=Sk d e;exact f
  ·exact b.elim
theorem uS: ∀(a:List Field),placesOf P a=a.mapM (λf=>(P.info? f.type).map λi=>(f.offset,i.size))
 | []=>rfl
 |f::b=>by
  simp only[placesOf,P0,Option.bind_eq_bind,Option.pure_def,uS b];cases P.info? f.type with
  |none=>rfl
  |some i=>simp only[HP,P2];cases b.mapM (λf=>(P.info? f.type).map λi=>(f.offset,i.size))<;>rfl
theorem AKy {t:Q7}{b:Array (Nat×J0)}{cells:Array J0}(a:qn P t (b.toList.map λp=>(p.1,p.2.cells))=some cells)(c:World):
  (Instr.build t b).run P c= .ok (.agg cells) c:=by
 unfold qn at a;split at a
 ·rename_i j e;split at a
  ·rename_i z f;split at a
   ·rename_i k d;split at a
    ·rename_i l g;rw[<- nY] at a;rw[uS] at g;have h:Instr.fill (λx=>l[x]?) z.cells b.toList=some cells:=by simpa using a
     simp[Instr.build,run_underlying d,typeInfo,zeroValue,e,f,UP,run_places c _ _ g,h]
    ·cases a
   ·rename_i m n d;split at a
    ·rename_i o i;rw[<- nY] at a;simp[Instr.build,run_underlying d,sizeOf,typeInfo,zeroValue,e,f,i,a]
    ·cases a
   ·cases a
  ·cases a
 ·cases a
theorem uT {N:Nat}{a:Act}{n:Env}(e:Fits N a n){o:Oper}{K:J0->Prop}(r:Jk o)(d:nZ P o n K):
  ∃v,(∀ g,(execOp a.eval o).run P g= .ok (.value v) g)/\K v:=by
 have lift: ∀ {s:Sem J0},PR P s K->(execOp a.eval o=do pure (.value (<- s)))-> ∃v,(∀ g,(execOp a.eval o).run P g= .ok (.value v) g)/\K v:=by intro s ⟨v,j,u⟩ w;exact⟨v,λg=>by rw[w];exact jl (j g),u⟩
 have y:=AE0 (P:=P) e (o:=o) (K:=K) r;unfold nZ at d;cases f:o.op
 case nilCheck x=>
  rw[f] at d;have d:=BQ e d;unfold tW at d;cases k:a.eval x<;>rw[k] at d<;>simp only[] at d
  rename_i p;obtain⟨b,rfl,d⟩:=At.mk d;exact⟨_,λg=>by simp[execOp,f,k],d⟩
 case binOp A t x q t'=>
  rw[f] at d;have d:=BQ e (BQ e d);refine lift (ANa (λc h=>by subst h;rfl) (λc h=>by subst h;rfl) d) ?_;simp[execOp,f]
 case indexAddr t x i=>
  rw[f] at d;have d:=BQ e (BQ e d);refine lift (AEX d) ?_;simp[execOp,f]
 case index t x i=>
  rw[f] at d;have d:=BQ e (BQ e d);refine lift (AIP d) ?_;simp[execOp,f]
 case slice t x B C z=>
  rw[f] at d;cases z with
  |some m=>
   have d:=BQ e (R9 e (R9 e (BQ e d)));refine lift (AG4 d) ?_;simp[execOp,f]
  |none=>
   have d:=R9 e (R9 e (BQ e d));refine lift (AID d) ?_;simp[execOp,f]
 case build t D=>
  rw[f] at d;have d:=Sk e d;split at d
  ·rename_i cells h;refine⟨_,λg=>?_,d⟩;simp only[execOp,f];refine jl (AKy ?_ g);rw[<- h];congr 1;simp
  ·exact d.elim
 case pick c x q=>
  rw[f] at d;have d:=BQ e d;cases h:a.eval c<;>rw[h] at d<;>simp only[] at d
  rename_i b;have d:=AJn (va:=a.eval x) (vb:=a.eval q) (λv j=>e.rdv j) (λv j=>e.rdv j) d;exact⟨_,λg=>by simp[execOp,f,h,asBool],d⟩
 case fieldAddr t x i=>
  rw[f] at d;have d:=BQ e d;cases k:a.eval x<;>rw[k] at d<;>simp only[] at d
  obtain⟨b,rfl,l⟩:=At.mk d;clear d;unfold TL at l;split at l
  ·rename_i v h;exact⟨v,λg=>by simp only[execOp,f,k];exact jl (Da h g),l⟩
  ·exact l.elim
 all_goals (rw[f] at d;simp only[] at d;rw[<- f] at d;exact y d)
def Mv(b:aa)(a:Q6):Nat->List J0->Prop
 |_,[]=>True
 |i,[v]=>ah b (a.add i)=some v
 |i,v::c=>ah b (a.add i)=some v/\Mv b a (i+1) c
def loadT(P:Q1)(t:Q7)(c:aa)(a:Q6)(K:J0->(aa->Prop)->Prop):Prop:=
 match XR P t with
 |true=>match P.info? t with
  |some i=>match Nat.beq (jY P 20 t).length i.size with
   |true=>qc c a 0 (jY P 20 t) λd=>K (.agg d.toArray) (λb=>Mv b a 0 d)
   |false=>False
  |none=>False
 |false=>match P.underlying t with
  |some _=>match jY P 20 t with
   | [s]=>s.load c a λx=>K (s.val x) (λb=>ah b a=some (s.val x))
   |_=>False
  |none=>False
def oD(P:Q1)(b:Oper)(c:Env)(d:aa)(K:J0->(aa->Prop)->Prop):Prop:=
 match b.op with
 | .load t x=>rd c x λv=>match v with
  | .pointer p=>At p λa=>loadT P t d a K
  |_=>False
 |_=>False
theorem WW {b:aa}{a:Q6}{i:Nat}{v:J0}{c:List J0}:Mv b a i (v::c)↔ah b (a.add i)=some v/\Mv b a (i+1) c:=by
 cases c with
 |nil=>simp[Mv]
 |cons u d=>simp[Mv]
theorem WX {d:aa}{a:Q6}: ∀ {l:List Sc} {i:Nat} {K:List J0->Prop},qc d a i l K-> ∃c,c.length=l.length/\Mv d a i c/\K c
 | [],_,_,b=>⟨[],rfl,trivial,b⟩
 |s::l,i,K,b=>by
  obtain⟨x,e,b⟩:=Sc.cH b;obtain⟨c,f,g,b⟩:=WX b;exact⟨s.val x::c,by simp[f],WW.2 ⟨e,g⟩,b⟩
theorem run_loadCellsFrom {A:ak}{b:aa}{a:Q6}{n:Nat}: ∀ {c:List J0} {i:Nat} {acc:Array J0},Mv b a i c->
  (loadCellsFrom a i c.length acc).run P (A.at b n)= .ok (acc++c.toArray) (A.at b n)
 | [],_,acc,_=>by simp[loadCellsFrom]
 |v::c,i,acc,d=>by
  obtain⟨e,f⟩:=WW.1 d;have g:=run_loadCellsFrom (A:=A) (n:=n) (acc:=acc.push v) f;have h:(load (a.add i)).run P (A.at b n)= .ok v (A.at b n):=by have j:(A.at b n).cell? (a.add i)=some v:=e;simp[load,Sem.run,j]
  simp only[A6,loadCellsFrom,Sem.run_bind,h,Result.andThen_ok,g];simp
theorem uU {t:Q7}{b:World}(c: ∃a,P.underlying t=some a):(isAgg t).run P b= .ok (XR P t) b:=by obtain⟨a,hd⟩:=c;unfold isAgg XR;rw[hd];cases a<;>simp[BL hd]
theorem uV {A:ak}{t:Q7}{i:aa}{a:Q6}{K:J0->(aa->Prop)->Prop}(b:loadT P t i a K):
  ∃v st,(∀ c,st c-> ∀n,(loadVar t a).run P (A.at c n)= .ok v (A.at c n))/\st i/\K v st:=by
 unfold loadT at b;cases d:XR P t with
 |true=>
  rw[d] at b;simp only[] at b;have f: ∃e,P.underlying t=some e:=by
   cases f:P.underlying t with
   |none=>simp[XR,f] at d
   |some e=>exact⟨e,rfl⟩
  split at b
  ·rename_i q j;split at b
   ·rename_i g;have g:=It g;obtain⟨r,k,l,b⟩:=WX b;refine⟨_,_,λc h n=>?_,l,b⟩;have m:=run_loadCellsFrom (P:=P) (A:=A) (n:=n) (acc:= #[]) h;simp only[loadVar,Sem.run_bind,uU f,d,Result.andThen_ok,if_true,run_sizeOf j];rw[<- g,<-k];simp only[loadCells,m,Result.andThen_ok];simp
   ·exact b.elim
  ·exact b.elim
 |false=>
  rw[d] at b;simp only[] at b;split at b
  ·rename_i e hd;split at b
   ·rename_i s _;obtain⟨x,o,b⟩:=Sc.cH b;refine⟨_,_,λc h n=>?_,o,b⟩;have p:(A.at c n).cell? a=some (s.val x):=h;simp[loadVar,uU ⟨e,hd⟩,d,load,Sem.run,p]
   ·exact b.elim
  ·exact b.elim
theorem cH {A:ak}{N:Nat}{a:Act}{e:Env}(h:Fits N a e){f:Oper}{g:aa}{K:J0->(aa->Prop)->Prop}(c:oD P f e g K):
  ∃v st,(∀ d,st d->iW P A f a.eval v d)/\st g/\K v st:=by
 unfold oD at c;split at c
 ·rename_i t x i;have c:=BQ h c;split at c
  ·rename_i p d;obtain⟨b,rfl,c⟩:=At.mk c;obtain⟨v,st,j,k,c⟩:=uV (A:=A) c;refine⟨v,st,λl m n=>?_,k,c⟩;have:=j l m n;simp only[execOp,i,d];refine jl ?_;simp only[Instr.loadAt,Instr.sureAddr,Sem.run_bind,Sem.run_pure,Result.andThen_ok];exact this
  ·exact c.elim
 ·exact c.elim
end
section
variable {P : Q1} {A : ak} {r : Option Nat} {ops : Array Oper} {qb : Oper -> Bool} {ord : Nat -> Nat -> Bool}
abbrev Kt:=Act->aa->List (Nat×(aa->Prop))->Prop
def FL(P:Q1)(A:ak)(ops:Array Oper)(qb:Oper->Bool)(ord:Nat->Nat->Bool)(i:Nat)(K:Kt):Kt:=λa c d=>
 match ops[i]? with
 |none=>False
 |some b=>
  if Region.wanted b (yielded ops a.tmps)=true then
   if qb b=true then
    ∃v,iW P A b a.eval v c/\K (a.put b.dst v) c ((i,iW P A b a.eval v)::d)
   else
    ∀f,EV P b a.eval (A.at c f) λv g=> ∃e h,g=A.at e h/\(∀ p∈d,un ord i p.1=true->p.2 e)/\K (a.put b.dst v) e d
  else K (a.put b.dst undef) c d
def mU(K:Kt):Prop:= ∀a b c d,K a b c->(∀ p∈d,p∈c)->K a b d
theorem FL.mono {i:Nat}{K f:Kt}(h: ∀a c d,K a c d->f a c d){a:Act}{c:aa}{d:List (Nat×(aa->Prop))}
  (b:FL P A ops qb ord i K a c d):FL P A ops qb ord i f a c d:=by
 unfold FL at b ⊢;cases g:ops[i]? with
 |none=>rw[g] at b;exact b
 |some l=>
  rw[g] at b;simp only at b ⊢;split
  ·rename_i e;rw[if_pos e] at b;split
   ·grind
   ·rename_i j;rw[if_neg j] at b;intro k;refine(b k).mono ?_
    grind
  ·rename_i e;rw[if_neg e] at b;exact h _ _ _ b
theorem FL.fM {i:Nat}{K:Kt}(c:mU K):mU (FL P A ops qb ord i K):=by
 intro a s t u b d;unfold FL at b ⊢;cases h:ops[i]? with
 |none=>rw[h] at b;exact b
 |some w=>
  rw[h] at b;simp only at b ⊢;split
  ·rename_i e;rw[if_pos e] at b;split
   ·rename_i f;rw[if_pos f] at b;obtain⟨v,k,g⟩:=b;refine⟨v,k,c _ _ _ _ g (λp j=>?_)⟩
    grind
   ·rename_i f;rw[if_neg f] at b;intro l;refine(b l).mono ?_;rintro v x ⟨m,n,o,q,g⟩;exact⟨m,n,o,λp j=>q p (d p j),c _ _ _ _ g d⟩
  ·rename_i e;rw[if_neg e] at b;exact c _ _ _ _ b d
theorem FL.swap {i f:Nat}{c d:Oper}(m:ops[i]? =some c)(g:ops[f]? =some d)(E:c.apart ops d=true)(F:Jk c)(G:Jk d)
  (T:un ord i f=true) (k:qb d=true) {K:Kt} (H:mU K) {a:Act} {q:aa} {s:List (Nat×(aa->Prop))}
  (b:FL P A ops qb ord f (FL P A ops qb ord i K) a q s):FL P A ops qb ord i (FL P A ops qb ord f K) a q s:=by
 obtain⟨t,I,w⟩:=Oper.apart_spec E;have U:un ord f i=true:=by unfold un at *;grind
 have x: ∀u,execOp (a.put d.dst u).eval c=execOp a.eval c:=λu=>execOp_put c F a d.dst u w
 have V: ∀u,execOp (a.put c.dst u).eval d=execOp a.eval d:=λu=>execOp_put d G a c.dst u t
 have y: ∀u,Region.wanted c (yielded ops (a.put d.dst u).tmps)=Region.wanted c (yielded ops a.tmps):=λu=>wanted_put c a d.dst u w
 have l: ∀u,Region.wanted d (yielded ops (a.put c.dst u).tmps)=Region.wanted d (yielded ops a.tmps):=λu=>wanted_put d a c.dst u t
 have z: ∀u,iW P A c (a.put d.dst u).eval=iW P A c a.eval:=λu=>by grind [iW]
 have n: ∀u,iW P A d (a.put c.dst u).eval=iW P A d a.eval:=λu=>by grind [iW]
 have B: ∀v u,(a.put c.dst v).put d.dst u=(a.put d.dst u).put c.dst v:=λv u=>Act.put_comm a v u I
 unfold FL at b ⊢;rw[g] at b;rw[m];simp only at b ⊢;by_cases e:Region.wanted d (yielded ops a.tmps)=true
 ·rw[if_pos e] at b;rw[if_pos k] at b;obtain⟨J,L,b⟩:=b;rw[m] at b;simp only[y,z] at b;by_cases h:Region.wanted c (yielded ops a.tmps)=true
  ·rw[if_pos h] at b ⊢;by_cases j:qb c=true
   ·rw[if_pos j] at b ⊢;obtain⟨C,M,b⟩:=b;refine⟨C,M,?_⟩;rw[g];simp only[l,n];rw[if_pos e,if_pos k];refine⟨J,L,?_⟩;rw[B];exact H _ _ _ _ b λp D=>by grind
   ·rw[if_neg j] at b ⊢;intro o;have:=b o;unfold EV at this;rw[x] at this;refine EV.mono this ?_;rintro C W ⟨N,O,R,D,b⟩;refine⟨N,O,R,λp S=>D p (AG _ S),?_⟩;rw[g];simp only[l,n];rw[if_pos e,if_pos k]
    grind [List.mem_cons_self]
  ·rw[if_neg h] at b ⊢;rw[g];simp only[l,n];rw[if_pos e,if_pos k]
   grind
 ·rw[if_neg e] at b;rw[m] at b;simp only[y,z] at b;by_cases h:Region.wanted c (yielded ops a.tmps)=true
  ·rw[if_pos h] at b ⊢;by_cases j:qb c=true
   ·rw[if_pos j] at b ⊢
    simp_all
   ·rw[if_neg j] at b ⊢;intro o;have:=b o;unfold EV at this ⊢;rw[x] at this;refine Next.dG ?_ this
    simp_all
  ·rw[if_neg h] at b ⊢;rw[g];simp only[l];rw[if_neg e,B];exact b
def Rm(ord:Nat->Nat->Bool)(l:List Nat)(i:Nat):Bool:=l.all λa=> !ord i a
def UT(ops:Array Oper)(qb:Oper->Bool)(i:Nat):Bool:=match ops[i]? with|some a=>qb a|none=>false
def lF(ops:Array Oper)(qb:Oper->Bool)(ord:Nat->Nat->Bool)(l:List Nat):Option Nat:=l.find? λi=>UT ops qb i&&Rm ord l i
def FT(P:Q1)(A:ak)(ops:Array Oper)(qb:Oper->Bool)(ord:Nat->Nat->Bool)(Q:Act->aa->Prop):Nat->List Nat->Kt
 |_,[]=>λa b _=>Q a b
 |0,_::_=>λ_ _ _=>False
 |k+1,x::l=>λa b c=>
  match lF ops qb ord (x::l) with
  |some i=>FL P A ops qb ord i (FT P A ops qb ord Q k ((x::l).erase i)) a b c
  |none=> ∀i∈x::l,Rm ord (x::l) i=true->FL P A ops qb ord i (FT P A ops qb ord Q k ((x::l).erase i)) a b c
variable {Q : Act -> aa -> Prop}
theorem FT.fM: ∀(k:Nat) (l:List Nat),mU (FT P A ops qb ord Q k l)
 |_,[]=>by intro a d _ _ b _;unfold FT at b ⊢;exact b
 |0,_::_=>by intro a d _ _ b _;unfold FT at b;exact b.elim
 |k+1,x::l=>by
  intro a d h j b e;unfold FT at b ⊢;split
  ·rename_i i c;rw[c] at b;exact FL.fM (FT.fM k _) _ _ _ _ b e
  ·rename_i c;rw[c] at b;exact λi f g=>FL.fM (FT.fM k _) _ _ _ _ (b i f g) e
def oV(ops:Array Oper)(qb:Oper->Bool)(ord:Nat->Nat->Bool):Bool:=
 (ops.toList.all λe=>KI e)&&
 (List.range ops.size).all λi=>
  match ops[i]? with
  |none=>false
  |some c=>
   (c.after.toList.all λa=> !Region.binds .any a||decide (a.on<i))&&
   (List.range ops.size).all λb=>
    match ops[b]? with
    |none=>false
    |some d=>
     if decide (b<i) then
      if ord i b then c.after.toList.any λa=>Region.binds .any a&&(a.on==b||(decide (b<a.on)&&ord a.on b))
      else(!(qb c||qb d))||(c.apart ops d&&d.apart ops c)
     else !ord i b
structure mV (ops:Array Oper) (qb:Oper->Bool) (ord:Nat->Nat->Bool):Prop where
 nd: ∀(i:Nat) (o:Oper),ops[i]? =some o->KI o=true
 back: ∀(i:Nat) (o:Oper),ops[i]? =some o-> ∀e∈o.after,Region.binds .any e=true->e.on<i
 low: ∀i j,i<ops.size->j<ops.size->ord i j=true->j<i
 pair: ∀(i j:Nat) (oi oj:Oper),ops[i]? =some oi->ops[j]? =some oj->j<i->
   (ord i j=true/\ ∃e∈oi.after,Region.binds .any e=true/\(e.on=j\/(j<e.on/\ord e.on j=true)))\/
   (ord i j=false/\(qb oi=true\/qb oj=true->oi.apart ops oj=true/\oj.apart ops oi=true))
theorem AHp(c:oV ops qb ord=true):mV ops qb ord:=by
 unfold oV at c;simp only[A3,DQ,KK] at c;obtain⟨k,l⟩:=c;refine⟨λi f a=>k f (by grind),λi f a g h j=>?_,λi b d e a=>?_,λi b q s d e m=>?_⟩
 ·grind
 ·grind
 ·have n:i<ops.size:=(Array.getElem?_eq_some_iff.1 d).1;have o:b<ops.size:=(Array.getElem?_eq_some_iff.1 e).1;have:=l i n;rw[d] at this;simp only[A3,DQ,KK] at this;have:=this.2 b o;rw[e] at this;simp only at this;rw[if_pos (by simpa using m)] at this;cases a:ord i b with
  |true=>
   rw[a] at this;simp only[if_true,List.any_eq_true,A3,DE,beq_iff_eq,decide_eq_true_eq] at this;obtain⟨g,h,j,p⟩:=this;exact .inl ⟨rfl,g,by simpa using h,j,p⟩
  |false=>
   rw[a] at this;simp only[Cl,if_false,A3,DE,CA,Gk] at this;refine .inr ⟨rfl,λt=>?_⟩
   grind
theorem YY {l:List Nat}{i a:Nat}(b:Rm ord l i=true)(c:a∈l):ord i a=false:=by simp_all [Rm,DQ,CA]
theorem R3 {l:List Nat}{i a:Nat}(b:Rm ord l i=true):Rm ord (l.erase a) i=true:=by grind [Rm,List.all_eq_true,List.mem_of_mem_erase]
theorem TA {l:List Nat}{a:Nat}(b:lF ops qb ord l=some a):a∈l/\UT ops qb a=true/\Rm ord l a=true:=by
 unfold lF at b
 grind
theorem AKP {l:List Nat}(b:lF ops qb ord l=none){a:Nat}(c:a∈l)(d:UT ops qb a=true):Rm ord l a=false:=by simp_all [lF,GO,FF]
theorem wX {i:Nat}(b:UT ops qb i=true): ∃a,ops[i]? =some a/\qb a=true:=by
 unfold UT at b
 grind
theorem mV.swap(f:mV ops qb ord){i b:Nat}(q:i≠b)(s:i<ops.size)(t:UT ops qb b=true)(u:ord i b=false)(v:ord b i=false){K:Kt}(l:mU K){a:Act}{g:aa}
  {h:List (Nat×(aa->Prop))}:
  (FL P A ops qb ord b (FL P A ops qb ord i K) a g h->FL P A ops qb ord i (FL P A ops qb ord b K) a g h)/\
  (UT ops qb i=true->FL P A ops qb ord i (FL P A ops qb ord b K) a g h->FL P A ops qb ord b (FL P A ops qb ord i K) a g h):=by
 obtain⟨j,d,m⟩:=wX t;have e:ops[i]? =some ops[i]:=Ft s;have n:=Ye (f.nd _ _ e);have o:=Ye (f.nd _ _ d);have p:(ops[i]).apart ops j=true/\j.apart ops (ops[i])=true:=by
  rcases My q with k|k
  ·rcases f.pair b i j _ d e k with⟨c,_⟩|⟨_,c⟩
   ·rw[v] at c;cases c
   simp_all
  ·rcases f.pair i b _ j e d k with⟨c,_⟩|⟨_,c⟩
   ·rw[u] at c;cases c
   ·exact c (.inr m)
 have w:un ord i b=true:=by grind [un,Nat.lt_or_gt_of_ne,Nat.max_eq_right,Nat.min_eq_left,Nat.max_eq_left,Nat.min_eq_right]
 have x:un ord b i=true:=by unfold un at *;grind
 exact⟨FL.swap e d p.1 n o w m l,λy=>FL.swap d e p.2 o n x (by grind [wX]) l⟩
theorem FT.both(D:mV ops qb ord): ∀(h:Nat) (l:List Nat),l.length=h+1->(∀ i∈l,i<ops.size)-> ∀(i:Nat),i∈l->Rm ord l i=true->
  (∀ a c d,FT P A ops qb ord Q (h+1) l a c d->FL P A ops qb ord i (FT P A ops qb ord Q h (l.erase i)) a c d)/\
  (UT ops qb i=true-> ∀a c d,FL P A ops qb ord i (FT P A ops qb ord Q h (l.erase i)) a c d->FT P A ops qb ord Q (h+1) l a c d):=by
 intro h
 induction h with
 |zero=>
  intro l z s i f m;obtain⟨x,rfl⟩:=List.length_eq_one_iff.1 z;have:i=x:=by simpa using f
  subst this;constructor
  ·intro a c d e;unfold FT at e;split at e
   ·rename_i b j;have:=(TA j).1;have:b=i:=by simpa using this
    subst this;exact e
   ·exact e i (by simp) m
  ·intro j a c d e;unfold FT;split
   ·rename_i b B;have:=(TA B).1;have:b=i:=by simpa using this
    subst this;exact e
   ·intro E F _;have:E=i:=by simpa using F
    subst this;exact e
 |succ h t=>
  intro l z s i f m;obtain⟨x,g,rfl⟩: ∃x g,l=x::g:=by cases l with|nil=>cases z|cons x g=>exact⟨x,g,rfl⟩
  have u: ∀ {b},b∈x::g->((x::g).erase b).length=h+1:=λj=>by simp_all
  have v: ∀ {b},∀i∈(x::g).erase b,i<ops.size:=λi f=>s i (A0b f)
  have w: ∀ {p b},p∈x::g->p≠b->p∈(x::g).erase b:=λG H=>(List.mem_erase_of_ne H).2 G
  constructor
  ·intro a c d e;unfold FT at e;split at e
   ·rename_i b j;obtain⟨n,y,o⟩:=TA j;by_cases k:b=i
    ·subst k;exact e
    ·have C:=FL.mono (λa c d=>(t ((x::g).erase b) (u n) v i (w f (Ne.symm k)) (R3 m)).1 a c d) e;have q:=(D.swap (Ne.symm k) (s i f) y (YY m n) (YY o f) (FT.fM _ _)).1 C;rw[List.erase_comm] at q;exact FL.mono (λa c d=>(t ((x::g).erase i) (u f) v b (w n k) (R3 o)).2 y a c d) q
   ·exact e i f m
  ·intro j a c d e;unfold FT;split
   ·rename_i b B;obtain⟨n,y,o⟩:=TA B;by_cases k:b=i
    ·subst k;exact e
    ·have C:=FL.mono (λa c d=>(t ((x::g).erase i) (u f) v b (w n k) (R3 o)).1 a c d) e;have q:=(D.swap (Ne.symm k) (s i f) y (YY m n) (YY o f) (FT.fM _ _)).2 j C;rw[List.erase_comm] at q;exact FL.mono (λa c d=>(t ((x::g).erase b) (u n) v i (w f (Ne.symm k)) (R3 m)).2 j a c d) q
   ·rename_i I;have:=AKP I f j;rw[m] at this;cases this
theorem AJf {a i:Nat}{listed:Array Bool}(b:i<a)(c:listed.size=a)(d:listed.getD i false=false):left a (listed.setIfInBounds i true)=(left a listed).erase i:=by grind [AKd,List.erase_append_right]
theorem FT.any {m:Nat}{I:Exit->Act->World->Prop}(S: ∀a e d,Q a e->I .normal a (A.at e d))(l:mV ops qb ord):
  ∀(fuel:Nat) (listed:Array Bool) (a:Act) (e:aa) (aQ:List (Nat×(aa->Prop))),(left ops.size listed).length=fuel->listed.size=ops.size->
   gZ ord listed->FT P A ops qb ord Q fuel (left ops.size listed) a e aQ-> ∀d,wpAnyIn (Fw r) m P .any ops I fuel listed a (A.at e d):=by
 intro fuel
 induction fuel with
 |zero=>
  intro listed a e aQ y z _ q d;have n:left ops.size listed= []:=DA y;refine⟨?_,?_⟩
  ·rcases J:Region.ready .any ops listed with _|⟨i,t⟩
   ·rfl
   ·exfalso;have f:i∈Region.ready .any ops listed:=by simp_all
    obtain⟨K,am,o,_⟩:=mem_ready.1 f;have h:i<ops.size:=(Array.getElem?_eq_some_iff.1 o).1;have:i∈left ops.size listed:=mem_left.2 ⟨h,by simp_all⟩;rw[n] at this;cases this
  ·rw[n] at q;unfold FT at q;exact S _ _ _ q
 |succ fuel B=>
  intro listed a e aQ y z L q d;refine⟨λJ=>?_,λi f=>?_⟩
  ·exfalso;have T: ∀j i,i<j->i∈left ops.size listed->False:=by
    intro j
    induction j with
    |zero=>intro i f;omega
    |succ j U=>
     intro i _ f;obtain⟨h,K⟩:=mem_left.1 f;have o:ops[i]? =some ops[i]:=Ft h;by_cases s: ∀g∈ops[i].after,Region.binds .any g=true->listed.getD g.on false=true
     ·have:i∈Region.ready .any ops listed:=mem_ready.2 ⟨by simp_all,_,o,s⟩;rw[J] at this;cases this
     ·simp only[Classical.not_forall] at s;obtain⟨g,n,k,C⟩:=s;have an:=l.back i _ o g n k;exact U g.on (by omega) (mem_left.2 ⟨by omega,by simpa using C⟩)
   have C:left ops.size listed≠ []:=by grind
   obtain⟨i,f⟩:=List.exists_mem_of_ne_nil _ C;exact T (i+1) i (by omega) f
  ·obtain⟨K,w,p,s⟩:=mem_ready.1 f;have h:i<ops.size:=(Array.getElem?_eq_some_iff.1 p).1;have M:listed.getD i false=false:=by simp_all
   have V: ∀b,b<i->listed.getD b false=false->ord i b=false:=by
    intro b u x;have W:ops[b]? =some ops[b]:=Ft (by omega);rcases l.pair i b w _ p W u with⟨_,g,n,k,D⟩|⟨D,_⟩
    ·exfalso;have N:=s g n k;rcases D with rfl|⟨X,Y⟩
     ·rw[N] at x;cases x
     ·have:=L g.on b N X Y;rw[this] at x;cases x
    ·exact D
   have Z:i∈left ops.size listed:=mem_left.2 ⟨h,M⟩;have ab:Rm ord (left ops.size listed) i=true:=by
    unfold Rm;simp only[DQ,CA];intro b u;obtain⟨ac,ae⟩:=mem_left.1 u;cases k:ord i b with
    |false=>rfl
    |true=>rw[V b (l.low i b h ac k) ae] at k;cases k
   have c:=(FT.both (Q:=Q) (P:=P) (A:=A) l fuel _ y (λb u=>(mem_left.1 u).1) i Z ab).1 a e aQ q;have E:gZ ord (listed.setIfInBounds i true):=by
    intro j b O af o;by_cases ag:b=i
    ·simp_all
    ·rw[getD_set_ne false (Ne.symm ag)];by_cases ah:j=i
     ·grind
     ·rw[getD_set_ne false (Ne.symm ah)] at O;exact L j b O af o
   have ai:=AJf h z M;have F:(left ops.size (listed.setIfInBounds i true)).length=fuel:=by simp_all
   have G:(listed.setIfInBounds i true).size=ops.size:=by simp[z]
   rw[<- ai] at c;unfold FL at c;rw[p] at c;unfold wpOpIn;simp only[p];split
   ·rename_i H;simp only[H,if_true] at c;by_cases R:qb w=true
    ·rw[if_pos R] at c;obtain⟨v,aj,c⟩:=c;refine EV.wpIn (l.nd i w p) ?_;unfold EV;rw[aj d];exact B _ _ _ _ F G E c d
    ·rw[if_neg R] at c;refine EV.wpIn (l.nd i w p) ((c d).mono ?_);rintro v ao ⟨ap,ak,rfl,_,al⟩;exact B _ _ _ _ F G E al ak
   ·rename_i H;simp only at c;rw[if_neg H] at c;exact⟨λ_ _=>trivial,B _ _ _ _ F G E c d⟩
theorem AAg {id m:Nat}{d:Exit->Act->World->Prop}(f: ∀a b c,Q a b->d .normal a (A.at b c))(g:P.follows .mixedOrders=true)
  (h:oV ops qb ord=true) {a:Act} {b:aa} {c:Nat} (i:FT P A ops qb ord Q ops.size (List.range ops.size) a b []):(Code.region id ops true).wpIn (Fw r) m P d a (A.at b c):=by
 refine wpIn_region_any g ?_;have e:=AO3 ops.size;refine FT.any (Q:=Q) (ord:=ord) (qb:=qb) (aQ:= []) f (AHp h) _ _ _ b (by rw[e];simp) (by simp) ?_ (by rw[e];exact i) (c+1);intro j l k;exfalso;by_cases b:j<ops.size<;>simp[b] at k
end
inductive Cls where
 |pure|load|fL
def cls(P:Q1)(b:Oper):Cls:=
 match b.op with
 | .load _ _=> .load
 | .binOp d t x e _=>match VK P d t x e with| .no=> .fL|_=> .pure
 | .convert s a _=>match P.underlying s with
  |some (.int _)=>(match P.underlying a with|some (.int _)=> .pure|_=> .fL)
  |some .string=>(match P.underlying a with|some .string=> .pure|_=> .fL)
  |_=> .fL
 | .call c=>match c.callee with
  | .builtin .min=>(match c.argTypes[0]? with
   |some t=>(match P.underlying t with|some (.float _)=> .fL|_=> .pure)
   |none=> .pure)
  | .builtin .max=>(match c.argTypes[0]? with
   |some t=>(match P.underlying t with|some (.float _)=> .fL|_=> .pure)
   |none=> .pure)
  | .builtin .cap=> .pure
  | .builtin .len=>(match c.argTypes[0]? with
   |some t=>(match P.underlying t with|some (.map _ _)=> .fL|_=> .pure)
   |none=> .fL)
  |_=> .fL
 | .move _| .assign _| .pick .. | .build .. | .nilCheck _| .unOp .. | .makeInterface .. | .makeFunc .. | .fieldAddr .. | .field .. | .indexAddr .. | .index .. | .slice .. | .extract .. => .pure
 |_=> .fL
def gJ(A:ak)(P:Q1)(m:Sem Unit)(b:aa)(K:aa->Prop):Prop:= ∀c,∃a d,m.run P (A.at b c)= .ok () (A.at a d)/\K a
def Jz(a:Env)(l:Array Operand):Array J0:=(l.toList.map (ρof a)).toArray
def ARq(P:Q1)(f:Q8):Bool:=match P.funcs[f]? with|some fn=>(match fn.body with|none=>true|some _=>false)|none=>false
def oE(A:ak)(P:Q1)(f:Q8)(args:Array J0)(b:aa)(K:A2H):Prop:= ∀c,∃v a d,(callFunc f args).run P (A.at b c)= .ok (.value v) (A.at a d)/\K v a
def qL(A:ak)(P:Q1)(d:Oper)(c:Call)(e:Env)(g:aa)(K:A2H):Prop:=
 match c.callee with
 | .value (.func f)=>known e c.args.toList (match ARq P f with
  |true=>oE A P f (Jz e c.args) g λv a=>Pn P d.type v λv=>K v a
  |false=>TL P (callFunc f (Jz e c.args)) λx=>match x with
   | .enter h i=>AA A P h i g λv a=>Pn P d.type v λv=>K v a
   |_=>False)
 | .value x=>rd e x λfv=>known e c.args.toList (F4 A P fv (Jz e c.args) g λv a=>Pn P d.type v λv=>K v a)
 | .builtin b=>known e c.args.toList (match b with
  | .append=>BK A P (Builtin.append_ c.argTypes d.type (Jz e c.args)) g λv a=>Pn P d.type v λv=>K v a
  | .copy=>BK A P (Builtin.copy_ c.argTypes d.type (Jz e c.args)) g λv a=>Pn P d.type v λv=>K v a
  | .delete=>BK A P (Builtin.delete_ c.argTypes d.type (Jz e c.args)) g λv a=>Pn P d.type v λv=>K v a
  | .clear=>BK A P (Builtin.clear_ c.argTypes d.type (Jz e c.args)) g λv a=>Pn P d.type v λv=>K v a
  | .len=>BK A P (Builtin.len_ c.argTypes d.type (Jz e c.args)) g λv a=>Pn P d.type v λv=>K v a
  | .real=>BK A P (Builtin.real_ c.argTypes d.type (Jz e c.args)) g λv a=>Pn P d.type v λv=>K v a
  | .imag=>BK A P (Builtin.imag_ c.argTypes d.type (Jz e c.args)) g λv a=>Pn P d.type v λv=>K v a
  | .complex=>BK A P (Builtin.complex_ c.argTypes d.type (Jz e c.args)) g λv a=>Pn P d.type v λv=>K v a
  | .min=>BK A P (Builtin.min_ c.argTypes d.type (Jz e c.args)) g λv a=>Pn P d.type v λv=>K v a
  | .max=>BK A P (Builtin.max_ c.argTypes d.type (Jz e c.args)) g λv a=>Pn P d.type v λv=>K v a
  |_=>False)
 | .invoke x name=>rd e x λj=>known e c.args.toList (mu A P j name (Jz e c.args) g λv a=>Pn P d.type v λv=>K v a)
def Vm(a:Q6):aa->Nat->List J0->(aa->Prop)->Prop
 |h,_,[],K=>K h
 |h,i,v::b,K=>Zl (NW v) (ae h (a.add i) v λc=>Vm a c (i+1) b K)
def qM(P:Q1)(t:Q7)(c v:J0)(d:aa)(K:aa->Prop):Prop:=
 match c with
 | .pointer p=>At p λa=>match P.info? t with
  |some i=>mD P t v λb=>match Nat.beq b.size i.size with
   |true=>Vm a d 0 b.toList K
   |false=>False
  |none=>False
 |_=>False
def AUM(P:Q1)(t:Q7)(v:J0)(a:aa)(K:A2H):Prop:=
 mD P t v λc=>ao a (.cells c t) λb d=>K (.pointer (some ⟨b,0,none⟩)) d
def rowOf(P:Q1)(b:Q7)(len:Nat)(c:List (Nat×Array J0)):Option (Array J0):=
 match P.info? b with
 |some a=>match a.zero with
  |some z=>match Nat.ble (len*a.size) (2^24) with
   |true=>lh (λi=>some (i*a.size,a.size)) ((Array.range (len*a.size)).map (z.cells[· % z.cells.size]!)) c
   |false=>none
  |none=>none
 |none=>none
def uW(P:Q1)(t:Q7)(len:Nat)(c:Array (Nat×Operand))(d:Env)(e:aa)(K:A2H):Prop:=
 match P.underlying t with
 |some (.slice a)=>mE P t d c.toList λl=>match rowOf P a len l with
  |some cells=>ao e (.cells cells a) λb f=>K (.slice (some ⟨b,0,none⟩) len len) f
  |none=>False
 |_=>False
def SS(ops:List Oper)(b:Option Tmp)(a:Nat):Option Q7:=
 match b with
 |none=>none
 |some t=>match ops with
  | []=>none
  |o::r=>match o.op with
   | .extract (.tmp t') c=>(match Nat.beq t' t with|true=>(match Nat.beq c a with|true=>some o.type|false=>SS r (some t) a)|false=>SS r (some t) a)
   |_=>SS r (some t) a
def kA(P:Q1)(t:Option Q7)(v:J0)(K:J0->Prop):Prop:=
 match t with
 |none=>K v
 |some t=>Pn P t v K
theorem MS {P:Q1}{t:Option Q7}{v:J0}{K:J0->Prop}(a:kA P t v K):K v:=by
 cases t with
 |none=>exact a
 |some t=>exact MV a
def kB(A:ak)(P:Q1)(ops:Array Oper)(f:Oper)(d:Env)(g:aa)(K:A2H):Prop:=
 match f.op with
 | .call c=>qL A P f c d g K
 | .makeSlice t l c=>rd d l λl=>rd d c λc=>BK A P (Instr.makeSlice t l c) g λv a=>Pn P f.type v λv=>K v a
 | .lookup t x i ok=>rd d x λx=>rd d i λi=>BK A P (Instr.lookup t x i ok) g λv a=>Pn P f.type v λv=>K v a
 | .mapUpdate t m e x=>rd d m λm=>rd d e λe=>rd d x λx=>gJ A P (Instr.mapUpdate t m e x) g λa=>K undef a
 | .mapEntry t m e=>rd d m λm=>rd d e λe=>BK A P (Instr.mapEntry t m e) g λv a=> ∃e u:J0,v= .tuple #[e,u]/\kA P (SS ops.toList f.dst 0) e λe=>kA P (SS ops.toList f.dst 1) u λu=>K (.tuple #[e,u]) a
 | .entryStore t m s x=>rd d m λm=>rd d s λs=>rd d x λx=>gJ A P (Instr.entryStore t m s x) g λa=>K undef a
 | .convert s k x=>rd d x λx=>BK A P (convert s k x) g λv a=>Pn P f.type v λv=>K v a
 | .binOp j t x h _=>rd d x λv=>rd d h λu=>BK A P (do eqGuard j t x h v u;binOp j t v u) g λv a=>Pn P f.type v λv=>K v a
 | .typeAssert x t u ok=>rd d x λx=>BK A P (Instr.typeAssert x t u ok) g λv a=>Pn P f.type v λv=>K v a
 | .store t x h=>rd d x λn=>rd d h λv=>qM P t n v g λa=>K undef a
 | .box t x=>rd d x λv=>AUM P t v g K
 | .buildSlice t len o=>uW P t len o d g K
 | .range t x=>rd d x λx=>BK A P (Instr.range t x) g λv a=> ∃b:Nat,v= .pointer (some ⟨b,0,none⟩)/\K (.pointer (some ⟨b,0,none⟩)) a
 | .next x s=>rd d x λx=>BK A P (Instr.next x s f.type) g λv a=>(v= .tuple #[.bool false]/\K (.tuple #[.bool false]) a)\/(∃ e u:J0,v= .tuple #[.bool true,e,u]/\kA P (SS ops.toList f.dst 1) e λe=>kA P (SS ops.toList f.dst 2) u λu=>K (.tuple #[.bool true,e,u]) a)
 | .entry x=>rd d x λx=>BK A P (Instr.entry x) g λv a=> ∃e u:J0,v= .tuple #[e,u]/\kA P (SS ops.toList f.dst 0) e λe=>kA P (SS ops.toList f.dst 1) u λu=>K (.tuple #[e,u]) a
 | .alloc .. | .makeMap .. =>known d f.op.operands.toList (Sem.vc P (execOp (ρof d) f) g λx a=>match x with
  | .value v=>K v a
  | .skip=>K undef a
  |_=>False)
 |_=>False
theorem VX {N:Nat}{a:Act}{b:Env}(d:Fits N a b){l:Array Operand}(c: ∀x∈l.toList,ρof b x=a.eval x):Jz b l=l.map a.eval:=by unfold Jz;rw[CD c];apply Array.toList_inj.1;rw[Array.toList_map]
section
variable {P : Q1} {A : ak}
theorem IA {b:Oper}{e:Operand->J0}{s:Sem J0}{f:aa}{K:A2H}(g:execOp e b=do pure (.value (<- s)))
  (h:BK A P s f λv a=>Pn P b.type v λv=>K v a): ∀c,EV P b e (A.at f c) λv i=> ∃a d,i=A.at a d/\K v a:=by
 intro c;obtain⟨v,a,d,j,hd⟩:=h c;unfold EV;rw[g,jl j];exact⟨a,d,rfl,MV hd⟩
theorem X9 {d:Oper}{e:Operand->J0}{s:Sem J0}{f:aa}{K g:A2H}(h:execOp e d=do pure (.value (<- s)))
  (i:BK A P s f g) (j: ∀v a,g v a->K v a): ∀b,EV P d e (A.at f b) λv k=> ∃a c,k=A.at a c/\K v a:=by
 intro b;obtain⟨v,a,c,l,hd⟩:=i b;unfold EV;rw[h,jl l];exact⟨a,c,rfl,j _ _ hd⟩
theorem qN {d:Oper}{e:Operand->J0}{s:Sem Unit}{f:aa}{K:A2H}(g:execOp e d=do s;pure .skip)
  (h:gJ A P s f λa=>K undef a): ∀b,EV P d e (A.at f b) λv i=> ∃a c,i=A.at a c/\K v a:=by
 intro b;obtain⟨a,c,j,hd⟩:=h b;unfold EV;rw[g,ATy j];exact⟨a,c,rfl,hd⟩
theorem AJT {N:Nat}{a:Act}{u:Env}(k:Fits N a u){l:Oper}{c:Call}(h:l.op= .call c){n:aa}{K:A2H}(d:qL A P l c u n K):
  ∀g,EV P l a.eval (A.at n g) λv q=> ∃i j,q=A.at i j/\K v i:=by
 have y: ∀ {fv:J0} {s:A2H} {x:Operand},c.callee= .value x->a.eval x=fv->F4 A P fv (c.args.map a.eval) n s->
   ∀g,EV P l a.eval (A.at n g) λv q=> ∃i j,q=A.at i j/\s v i:=by
  intro fv s x e t z g;have:=z g;unfold EV;have o:execOp a.eval l=(do let w <-Deferred.ofValue fv (c.args.map a.eval);invoke w.target w.args:Sem Next):=by simp only[execOp,h,resolve,e,t]
  rw[o];exact this
 unfold qL at d;split at d
 ·rename_i f e;obtain⟨p,d⟩:=JH k d;rw[VX k p] at d;split at d
  ·intro g;obtain⟨v,i,j,B,hd⟩:=d g;have o:(execOp a.eval l).run P (A.at n g)= .ok (.value v) (A.at i j):=by simp only[execOp,h,resolve,e,Act.eval,Deferred.ofValue];simp only[Sem.run_bind,Sem.run_pure,Result.andThen_ok,invoke];simpa using B
   unfold EV;rw[o];exact⟨i,j,rfl,MV hd⟩
  ·obtain⟨x,t,d⟩:=Mt d;split at d
   ·rename_i C D;intro g;have o:(execOp a.eval l).run P (A.at n g)= .ok (.enter C D) (A.at n g):=by simp only[execOp,h,resolve,e,Act.eval,Deferred.ofValue];simp only[Sem.run_bind,Sem.run_pure,Result.andThen_ok,invoke];have:=t (A.at n g);simpa using this
    unfold EV;rw[o];refine Calls.mono (d g) ?_;rintro F q ⟨v,rfl,i,j,rfl,hd⟩;exact⟨v,rfl,i,j,rfl,MV hd⟩
   ·exact d.elim
 ·rename_i x e;have d:=BQ k d;obtain⟨p,d⟩:=JH k d;rw[VX k p] at d;intro g;refine EV.mono (y e rfl d g) ?_;rintro v q ⟨i,j,rfl,hd⟩;exact⟨i,j,rfl,MV hd⟩
 ·rename_i b e;obtain⟨p,d⟩:=JH k d;rw[VX k p] at d;split at d
  ·exact IA (by simp only[execOp,h,resolve,e];rfl) d
  ·exact IA (by simp only[execOp,h,resolve,e];rfl) d
  ·exact IA (by simp only[execOp,h,resolve,e];rfl) d
  ·exact IA (by simp only[execOp,h,resolve,e];rfl) d
  ·exact IA (by simp only[execOp,h,resolve,e];rfl) d
  ·exact IA (by simp only[execOp,h,resolve,e];rfl) d
  ·exact IA (by simp only[execOp,h,resolve,e];rfl) d
  ·exact IA (by simp only[execOp,h,resolve,e];rfl) d
  ·exact IA (by simp only[execOp,h,resolve,e];rfl) d
  ·exact IA (by simp only[execOp,h,resolve,e];rfl) d
  ·exact d.elim
 ·rename_i x name e;have d:=BQ k d;obtain⟨p,d⟩:=JH k d;rw[VX k p] at d;intro g;have o:execOp a.eval l=(callMethod (a.eval x) name (c.args.map a.eval):Sem Next):=by
   simp only[execOp,h,resolve,e];have E:(#[a.eval x]++Array.map a.eval c.args)[0]? =some (a.eval x):=by rw[ID (by simp)];rfl
   simp[invoke];rw[E];show callMethod (a.eval x) name ((Array.map a.eval c.args).extract 0 c.args.size)=_;rw[show c.args.size=(Array.map a.eval c.args).size by simp,Array.extract_size]
  unfold EV;rw[o];refine Next.dG ?_ (d g);rintro v q ⟨i,j,rfl,hd⟩;exact⟨i,j,rfl,MV hd⟩
theorem Yh {A:ak}{a:Q6}: ∀ {l:List J0} {b:aa} {i:Nat} {K:aa->Prop},Vm a b i l K-> ∀n,∃d,(storeCells a l i).run P (A.at b n)= .ok () (A.at d n)/\K d
 | [],b,i,K,c,n=>⟨b,rfl,c⟩
 |v::s,b,i,K,c,n=>by
  unfold Vm at c;cases e:NW v with
  |false=>rw[e] at c;exact c.elim
  |true=>
   rw[e] at c;obtain⟨⟨u,g⟩,h,j⟩:=c;obtain⟨d,k,o⟩:=Yh j n;refine⟨d,?_,o⟩;have p:=tU (A:=A) (P:=P) (m:= .plain) (f:=(.pure ():Sem Unit)) (n:=n) e g h;simp only[storeCells,Sem.run_bind];have q:(store (a.add i) v).run P (A.at b n)= .ok () (A.at (dx b (a.add i) v) n):=p;rw[q];exact k
theorem AH5 {A:ak}{t:Q7}{f v:J0}{g:aa}{K:aa->Prop}(b:qM P t f v g K):gJ A P (Instr.storeAt t f v) g K:=by
 intro h;unfold qM at b;split at b
 ·rename_i p;obtain⟨a,rfl,c⟩:=At.mk b;split at c
  ·rename_i n i;have d:=Rt c;split at d
   ·rename_i e;have e:=It e;obtain⟨j,k,l⟩:=Yh (P:=P) (A:=A) d h;refine⟨j,h,?_,l⟩;simp[Instr.storeAt,Instr.sureAddr,storeVar,run_sizeOf i,e,k]
   ·exact d.elim
  ·exact c.elim
 ·exact b.elim
theorem AR4 {A:ak}{t:Q7}{v:J0}{a:aa}{b:Nat}:(Instr.box t v).run P (A.at a b)= .ok (.pointer (some ⟨a.size,0,none⟩)) (A.at (a.push (.cells v.cells t)) b):=rfl
theorem AQ3 {A:ak}{t c:Q7}(j:P.underlying t=some (.slice c)){len:Nat}{d:Array (Nat×J0)}{cells:Array J0}{h:aa}{n:Nat}
  (a:rowOf P c len (d.toList.map λp=>(p.1,p.2.cells))=some cells):
  (Instr.buildSlice t len d).run P (A.at h n)= .ok (.slice (some ⟨h.size,0,none⟩) len len) (A.at (h.push (.cells cells c)) n):=by
 unfold rowOf at a;split at a
 ·rename_i b f;split at a
  ·rename_i z k;split at a
   ·rename_i g;have g:=US g;rw[<- nY] at a;have l: ¬(len*b.size>2^24):=by omega
    unfold Instr.buildSlice;simp only[Sem.run_bind,BL j,Result.andThen_ok,run_sizeOf f,if_neg l];by_cases e:len*b.size=0
    ·have o:Instr.fill (λi=>some (i*b.size,b.size)) ((Array.range (len*b.size)).map ((#[]:Array J0)[· % (#[]:Array J0).size]!)) d.toList=some cells:=by rw[<- a];congr 1;simp[e]
     rw[if_pos e];simp only[Sem.run_bind,Sem.run_pure,Result.andThen_ok,o];rfl
    ·rw[if_neg e];have q:(zeroValue c).run P (A.at h n)= .ok z (A.at h n):=by simp[zeroValue,tX f,k]
     simp only[Sem.run_bind,q,Sem.run_pure,Result.andThen_ok,a];rfl
   ·cases a
  ·cases a
 ·cases a
theorem uX {N:Nat}{a:Act}{q:Env}(f:Fits N a q){ops:Array Oper}{j:Oper}{h:aa}{K:A2H}(e:kB A P ops j q h K):
  ∀n,EV P j a.eval (A.at h n) λv y=> ∃g o,y=A.at g o/\K v g:=by
 have z:Jk j->known q j.op.operands.toList (Sem.vc P (execOp (ρof q) j) h λx g=>match x with
   | .value v=>K v g
   | .skip=>K undef g
   |_=>False)-> ∀n,EV P j a.eval (A.at h n) λv y=> ∃g o,y=A.at g o/\K v g:=by
  intro C e n;obtain⟨D,e⟩:=JH f e;obtain⟨x,g,o,B,e⟩:=AOs (A:=A) e n;rw[execOp_congr j C (λx E=>D x (by simpa using E))] at B;unfold EV;rw[B];split at e
  ·exact⟨g,o,rfl,e⟩
  ·exact⟨g,o,rfl,e⟩
  ·exact e.elim
 unfold kB at e;split at e
 ·rename_i c d;exact AJT f d e
 ·rename_i t l c d;exact IA (by simp only[execOp,d]) (BQ f (BQ f e))
 ·rename_i t x i ok d;exact IA (by simp only[execOp,d]) (BQ f (BQ f e))
 ·rename_i t m w x d;exact qN (by simp only[execOp,d]) (BQ f (BQ f (BQ f e)))
 ·rename_i t m w d;refine X9 (by simp only[execOp,d]) (BQ f (BQ f e)) ?_;rintro v g ⟨w,u,rfl,h⟩;exact MS (MS h)
 ·rename_i t m s x d;exact qN (by simp only[execOp,d]) (BQ f (BQ f (BQ f e)))
 ·rename_i s I x d;exact IA (by simp only[execOp,d]) (BQ f e)
 ·rename_i J t x F _ d;exact IA (by simp only[execOp,d]) (BQ f (BQ f e))
 ·rename_i x t u ok d;exact IA (by simp only[execOp,d]) (BQ f e)
 ·rename_i t x F d;exact qN (by simp only[execOp,d]) (AH5 (BQ f (BQ f e)))
 ·rename_i t x d;intro n;have p:=Rt (BQ f e);unfold EV;simp only[execOp,d];rw[jl AR4];exact⟨_,_,rfl,p⟩
 ·rename_i t len L d;intro n;unfold uW at e;split at e
  ·rename_i M G;have p:=Sk f e;split at p
   ·rename_i cells k;unfold EV;simp only[execOp,d];rw[jl (AQ3 (A:=A) (n:=n) (h:=h) G (cells:=cells) (by rw[<- k];congr 1;simp))];exact⟨_,_,rfl,p⟩
   ·exact p.elim
  ·exact e.elim
 ·rename_i t x d;refine X9 (by simp only[execOp,d]) (BQ f e) ?_;rintro v g ⟨b,rfl,h⟩;exact h
 ·rename_i x s d;refine X9 (by simp only[execOp,d]) (BQ f e) ?_;rintro v g (⟨rfl,h⟩|⟨w,u,rfl,h⟩)
  ·exact h
  ·exact MS (MS h)
 ·rename_i x d;refine X9 (by simp only[execOp,d]) (BQ f e) ?_;rintro v g ⟨w,u,rfl,h⟩;exact MS (MS h)
 ·rename_i d;exact z (λH b k=>by rw[d] at k;cases k) e
 ·rename_i d;exact z (λH b k=>by rw[d] at k;cases k) e
 ·exact e.elim
end
def qO:List Prop->Prop->Prop
 | [],K=>K
 |p::l,K=>p/\qO l K
theorem uY: ∀ {l:List Prop} {K:Prop},qO l K->(∀ p∈l,p)/\K
 | [],_,a=>⟨λ_ b=>(by cases b),a⟩
 |p::l,_,⟨b,a⟩=>by
  obtain⟨d,e⟩:=uY a;refine⟨λf c=>?_,e⟩;rcases List.mem_cons.1 c with rfl|c
  ·exact b
  ·exact d f c
def AQq(ord:Nat->Nat->Bool)(i:Nat)(a:aa)(b:List (Nat×(aa->Prop))):List Prop:=(b.filter λp=>un ord i p.1).map λp=>p.2 a
def oF(ops:Array Oper)(e:Oper)(a:Env)(c d:Env->Prop):Prop:=
 match e.guard with
 |none=>c a
 |some (f,h)=>match ops[f]? with
  |some i=>match i.dst with
   |some b=>match a.get b with
    |some (.bool g)=>match h with
     |true=>af g (c (a.set b (.bool true))) (d (a.set b (.bool false)))
     |false=>af g (d (a.set b (.bool true))) (c (a.set b (.bool false)))
    |some _=>d a
    |none=>False
   |none=>False
  |none=>False
def Ur(A:ak)(P:Q1)(N:Nat)(ops:Array Oper):List Oper->Env->aa->(Env->aa->Prop)->Prop
 | [],a,b,c=>c a b
 |o::rest,a,b,c=>
  match nU N o.dst with
  |false=>False
  |true=>oF ops o a
   (λa=>match cls P o with
    | .pure=>nZ P o a λv=>Ur A P N ops rest (a.put o.dst v) b c
    | .load=>oD P o a b λv _=>Ur A P N ops rest (a.put o.dst v) b c
    | .fL=>kB A P ops o a b λv d=>Ur A P N ops rest (a.put o.dst v) d c)
   (λa=>Ur A P N ops rest (a.put o.dst undef) b c)
theorem uZ {ops:Array Oper}{k:Oper}{N:Nat}{a:Act}{e:Env}(f:Fits N a e){q s:Env->Prop}(b:oF ops k e q s):
  (Region.wanted k (yielded ops a.tmps)=true/\ ∃h,Fits N a h/\q h)\/(Region.wanted k (yielded ops a.tmps)=false/\ ∃h,Fits N a h/\s h):=by
 unfold oF at b;split at b
 ·rename_i c;exact .inl ⟨by simp[Region.wanted,c],e,f,b⟩
 ·rename_i t x c;split at b
  ·rename_i y u;split at b
   ·rename_i l hd;split at b
    ·rename_i g n;have i:=f.get l _ n;have d:yielded ops a.tmps t=some g:=by simp[yielded,u,hd,i]
     have j:Fits N a (e.set l (.bool g)):=f.pL i;split at b
     ·obtain⟨o,p⟩:=af.mk b;cases g with
      |true=>exact .inl ⟨by simp[Region.wanted,c,d],_,j,o rfl⟩
      |false=>exact .inr ⟨by simp[Region.wanted,c,d],_,j,p rfl⟩
     ·obtain⟨o,p⟩:=af.mk b;cases g with
      |true=>exact .inr ⟨by simp[Region.wanted,c,d],_,j,o rfl⟩
      |false=>exact .inl ⟨by simp[Region.wanted,c,d],_,j,p rfl⟩
    ·rename_i v w n;have i:=f.get l _ n;refine .inr ⟨?_,e,f,b⟩;have d:yielded ops a.tmps t=none:=by simp only[yielded,u,hd,i,P2];cases v<;>first|rfl|exact absurd rfl (w _)
     simp[Region.wanted,c,d]
    ·exact b.elim
   ·exact b.elim
  ·exact b.elim
structure Qc (W:List Nat) (a a':Act):Prop where
 get: ∀t,t∉W->a'.tmps[t]? =a.tmps[t]?
 ds:a'.defers=a.defers
theorem Qc.refl(W:List Nat)(a:Act):Qc W a a:=⟨λ_ _=>rfl,rfl⟩
theorem Qc.put {W:List Nat}{a d:Act}(c:Qc W a d){b:Option Tmp}{v:J0}(hd: ∀t,b=some t->t∈W):Qc W a (d.put b v):=by
 cases b with
 |none=>exact c
 |some b=>
  refine⟨λt e=>?_,c.ds⟩;have:b≠t:=λf=>e (f▸hd b rfl)
  simp only[Act.put];rw[DM this];exact c.get t e
def dstsOf(l:List Oper):List Nat:=l.filterMap (·.dst)
theorem vd {l:List Oper}{a:Oper}(c:a∈l){b:Nat}(hd:a.dst=some b):b∈dstsOf l:=List.mem_filterMap.2 ⟨a,c,hd⟩
section
variable {P : Q1} {A : ak} {r : Option Nat} {m N : Nat} {ops : Array Oper} {ord : Nat -> Nat -> Bool}
theorem XB {a:Oper}(c:cls P a≠ .fL):Jk a:=λe b d=>c (by simp[cls,d])
theorem Yo {b:Oper}(c:cls P b≠ .fL):KI b=true:=by
 unfold KI;split
 ·rename_i a;exact absurd (by simp[cls,a]) c
 ·rename_i a;exact absurd (by simp[cls,a]) c
 ·rfl
theorem AGp {ops:Array Oper}{b:Oper}{d:Env}{e:aa}{K:A2H}(c:kB A P ops b d e K):KI b=true:=by
 unfold KI;split
 ·rename_i a;simp[kB,a] at c
 ·rename_i a;simp[kB,a] at c
 ·rfl
theorem vg {n:Env->aa->Prop}{p:Exit->Act->World->Prop}: ∀(l:List Oper) (i:Env) (e:aa) (a:Act) (f:Nat),Ur A P N ops l i e n->Fits N a i->
  (∀ q c g h,Fits N q c->Qc (dstsOf l) a q->n c g->p .normal q (A.at g h))->wpListIn (Fw r) m P ops p l a (A.at e f)
 | [],i,e,a,f,b,s,u=>u a i e f s (Qc.refl _ _) b
 |o::rest,i,e,a,f,b,s,u=>by
  unfold Ur at b;split at b
  ·exact b.elim
  ·rename_i hd;have next: ∀(v:J0) (c:Env) (g:aa) (h:Nat),Fits N a c->Ur A P N ops rest (c.put o.dst v) g n->wpListIn (Fw r) m P ops p rest (a.put o.dst v) (A.at g h):=by
    intro v c g h d w;refine vg rest _ g _ h w (d.put hd) ?_;intro C D E F G B H;refine u C D E F G ⟨λt j=>?_,B.ds.trans ?_⟩ H
    ·have I:t∉dstsOf rest:=λK=>j (by simp only[dstsOf,V0];split<;>simp_all [dstsOf])
     rw[B.get t I];exact(Qc.put (W:=dstsOf (o::rest)) (Qc.refl _ a) (λt j=>vd Cd j)).get t j
    ·cases o.dst<;>rfl
   unfold wpListIn;rcases uZ s b with⟨y,c,d,b⟩|⟨y,c,d,b⟩
   ·rw[if_pos y];split at b
    ·rename_i k;have w:Jk o:=XB (P:=P) (by rw[k];intro x;cases x);obtain⟨v,z,b⟩:=uT d w b;refine EV.wpIn (Yo (P:=P) (by rw[k];intro x;cases x)) ?_;unfold EV;rw[z];exact next v c e f d b
    ·rename_i k;obtain⟨v,st,z,J,b⟩:=cH (A:=A) d b;refine EV.wpIn (Yo (P:=P) (by rw[k];intro x;cases x)) ?_;unfold EV;rw[z e J f];exact next v c e f d b
    ·refine EV.wpIn (AGp b) ((uX d b f).mono ?_);rintro v L ⟨g,h,rfl,b⟩;exact next v c g h d b
   ·rw[if_neg (by rw[y];simp)];exact⟨λ_ _=>trivial,next undef c e f d b⟩
def ia(P:Q1)(a:Oper):Bool:=match cls P a with| .fL=>false|_=>true
abbrev Ke:=Env->aa->List (Nat×(aa->Prop))->Prop
def oG(A:ak)(P:Q1)(N:Nat)(ops:Array Oper)(ord:Nat->Nat->Bool)(i:Nat)(K:Ke):Ke:=λa c d=>
 match ops[i]? with
 |none=>False
 |some b=>match nU N b.dst with
  |false=>False
  |true=>oF ops b a
   (λa=>match cls P b with
    | .pure=>nZ P b a λv=>K (a.put b.dst v) c d
    | .load=>oD P b a c λv st=>K (a.put b.dst v) c ((i,st)::d)
    | .fL=>kB A P ops b a c λv e=>qO (AQq ord i e d) (K (a.put b.dst v) e d))
   (λa=>K (a.put b.dst undef) c d)
def qP(a:Nat->Prop):List Nat->Prop
 | []=>True
 | [i]=>a i
 |i::l=>a i/\qP a l
theorem vm {c:Nat->Prop}: ∀ {l:List Nat},qP c l-> ∀i∈l,c i
 | [],_,_,a=>by cases a
 | [j],a,i,b=>by
  have:i=j:=by simpa using b
  subst this;exact a
 |j::x::l,a,i,b=>by
  rcases List.mem_cons.1 b with rfl|b
  ·exact a.1
  ·exact vm a.2 i b
def kC(A:ak)(P:Q1)(N:Nat)(ops:Array Oper)(ord:Nat->Nat->Bool)(c:Env->aa->Prop):Nat->List Nat->Ke
 |_,[]=>λa b _=>c a b
 |0,_::_=>λ_ _ _=>False
 |f+1,x::l=>λa b d=>
  match lF ops (ia P) ord (x::l) with
  |some i=>oG A P N ops ord i (kC A P N ops ord c f ((x::l).erase i)) a b d
  |none=>qP (λi=>oG A P N ops ord i (kC A P N ops ord c f ((x::l).erase i)) a b d) ((x::l).filter (Rm ord (x::l)))
def qQ(c d:List (Nat×(aa->Prop))):Prop:= ∀b∈d,(∀ a,b.2 a)\/ ∃p∈c,p.1=b.1/\ ∀a,p.2 a->b.2 a
theorem ZX {y:Act}{i:Nat}{K:Ke}{F:Kt}
  (u: ∀j e a k l,K j e k->Fits N a j->Qc (dstsOf ops.toList) y a->qQ k l->F a e l)
  {j:Env} {e:aa} {a:Act} {k:List (Nat×(aa->Prop))} {l:List (Nat×(aa->Prop))}
  (b:oG A P N ops ord i K j e k) (H:Fits N a j) (I:Qc (dstsOf ops.toList) y a) (n:qQ k l):FL P A ops (ia P) ord i F a e l:=by
 unfold oG at b;unfold FL;split at b
 ·exact b.elim
 ·rename_i g G;have J:g∈ops.toList:=by rw[Array.mem_toList_iff];exact Vc G
  try rw[G]
  try simp only
  split at b
  ·exact b.elim
  ·rename_i hd;have w: ∀v,Qc (dstsOf ops.toList) y (a.put g.dst v):=λv=>I.put (λt L=>vd J L)
   rcases uZ H b with⟨z,M,d,b⟩|⟨z,M,d,b⟩
   ·rw[if_pos z];split at b
    ·rename_i h;have o:ia P g=true:=by simp[ia,h]
     rw[if_pos o];have O:Jk g:=XB (P:=P) (by rw[h];intro x;cases x);obtain⟨v,q,b⟩:=uT d O b;refine⟨v,λB=>q _,?_⟩;refine u _ _ _ _ _ b (d.put hd) (w v) ?_;intro s c;rcases List.mem_cons.1 c with rfl|c
     ·exact .inl λe B=>q _
     ·exact n s c
    ·rename_i h;have o:ia P g=true:=by simp[ia,h]
     rw[if_pos o];obtain⟨v,st,q,Q,b⟩:=cH (A:=A) d b;refine⟨v,q e Q,?_⟩;refine u _ _ _ _ _ b (d.put hd) (w v) ?_;intro s c;rcases List.mem_cons.1 c with rfl|c
     ·exact .inr ⟨(i,st),Cd,rfl,q⟩
     ·rcases n s c with f|⟨p,C,f,D⟩
      ·exact .inl f
      ·exact .inr ⟨p,AG _ C,f,D⟩
    ·rename_i h;have o: ¬ia P g=true:=by simp[ia,h]
     rw[if_neg o];intro B;refine(uX d b B).mono ?_;rintro v U ⟨E,R,rfl,b⟩;obtain⟨S,b⟩:=uY b;refine⟨E,R,rfl,?_,?_⟩
     ·intro s c T;rcases n s c with f|⟨p,C,f,D⟩
      ·exact f E
      ·exact D E (S _ (List.mem_map.2 ⟨p,List.mem_filter.2 ⟨C,by rw[f];exact T⟩,rfl⟩))
     ·exact u _ _ _ _ _ b (d.put hd) (w v) n
   ·rw[if_neg (by rw[z];simp)];exact u _ _ _ _ _ b (d.put hd) (w undef) n
theorem qR {q:Env->aa->Prop}{a0:Act}{Q:Act->aa->Prop}(n: ∀o s t,Fits N o s->Qc (dstsOf ops.toList) a0 o->q s t->Q o t):
  ∀(f:Nat) (l:List Nat) (c:Env) (d:aa) (a:Act) (e:List (Nat×(aa->Prop))) (g:List (Nat×(aa->Prop))),
   kC A P N ops ord q f l c d e->Fits N a c->Qc (dstsOf ops.toList) a0 a->qQ e g->FT P A ops (ia P) ord Q f l a d g
 |_,[],c,d,a,e,g,b,h,j,_=>by
  unfold kC at b;unfold FT;exact n a c d h j b
 |0,_::_,c,d,a,e,g,b,_,_,_=>by
  unfold kC at b;exact b.elim
 |f+1,x::l,c,d,a,e,g,b,h,j,k=>by
  unfold kC at b;unfold FT;split
  ·rename_i i p;rw[p] at b;exact ZX (λc d a e g b h j k=>qR n f _ c d a e g b h j k) b h j k
  ·rename_i p;rw[p] at b;intro i u v;exact ZX (λc d a e g b h j k=>qR n f _ c d a e g b h j k) (vm b i (List.mem_filter.2 ⟨u,v⟩)) h j k
def mJ(A:ak)(P:Q1)(N:Nat)(ops:Array Oper)(d:Bool)(a:Env)(b:aa)(c:Env->aa->Prop):Prop:=
 match d with
 |false=>Ur A P N ops ops.toList a b c
 |true=>match oV ops (ia P) (pX ops) with
  |true=>kC A P N ops (pX ops) c ops.size (List.range ops.size) a b []
  |false=>False
theorem AGI {id:Nat}{g:Bool}{h:Env}{i:aa}{f:Env->aa->Prop}{a:Act}{q:Nat}{Q:Exit->Act->World->Prop}(s:P.follows .mixedOrders=true)
  (e:mJ A P N ops g h i f) (o:Fits N a h) (p: ∀b c d j,Fits N b c->Qc (dstsOf ops.toList) a b->f c d->Q .normal b (A.at d j)):
  (Code.region id ops g).wpIn (Fw r) m P Q a (A.at i q):=by
 unfold mJ at e;cases g with
 |false=>exact wpIn_region_list (vg _ _ _ _ _ e o p)
 |true=>
  simp only[] at e;split at e
  ·rename_i t;refine AAg (qb:=ia P) (ord:=pX ops) (Q:=λb d=> ∃c,Fits N b c/\Qc (dstsOf ops.toList) a b/\f c d) ?_ s t ?_
   ·rintro b d j ⟨c,k,l,n⟩;exact p b c d j k l n
   ·exact qR (Q:=λb d=> ∃c,Fits N b c/\Qc (dstsOf ops.toList) a b/\f c d) (a0:=a) (λb c d k l n=>⟨c,k,l,n⟩) _ _ h i a [] []
     e o (Qc.refl _ _) (λ_ u=>by cases u)
  ·exact e.elim
end
inductive Lv where
 |one (s:Sc)
 |agg (l:List Sc)
def mN:List Sc->Type
 | []=>Unit
 |s::l=>s.Ty×mN l
def kD:(l:List Sc)->mN l->List J0
 | [],_=> []
 |s::l,x=>s.val x.1::kD l x.2
def Lv.Ty:Lv->Type
 | .one s=>s.Ty
 | .agg l=>mN l
def Lv.val:(v:Lv)->v.Ty->J0
 | .one s,x=>s.val x
 | .agg l,x=> .agg (kD l x).toArray
def Sc.un(v:J0):(s:Sc)->(s.Ty->Prop)->Prop
 | .int a,K=>match v with| .int d e=>(match decide (d=a) with|true=>K e|false=>False)|_=>False
 | .bool,K=>match v with| .bool b=>K b|_=>False
 | .str,K=>match v with| .string s=>K s|_=>False
 | .ptr,K=>match v with| .pointer p=>K p|_=>False
 | .sl,K=>match v with| .slice p l c=>K ⟨p,l,c⟩|_=>False
 | .map,K=>match v with| .map f=>K f|_=>False
 | .any,K=>K v
 | .jD a,K=>match v with| .float d e=>(match decide (d=a) with|true=>K e|false=>False)|_=>False
 | .jE a,K=>match v with| .complex d e m=>(match decide (d=a) with|true=>K (e,m)|false=>False)|_=>False
theorem Sc.dJ {v:J0}: ∀ {s:Sc} {K:s.Ty->Prop},s.un v K-> ∃x,v=s.val x/\K x
 | .int c,K,a=>by
  cases v<;>simp only[Sc.un] at a
  rename_i d b;split at a
  ·rename_i hd;have hd:=of_decide_eq_true hd;subst hd;exact⟨b,rfl,a⟩
  ·exact a.elim
 | .bool,K,a=>by cases v<;>simp only[Sc.un] at a;exact⟨_,rfl,a⟩
 | .str,K,a=>by cases v<;>simp only[Sc.un] at a;exact⟨_,rfl,a⟩
 | .ptr,K,a=>by cases v<;>simp only[Sc.un] at a;exact⟨_,rfl,a⟩
 | .sl,K,a=>by cases v<;>simp only[Sc.un] at a;exact⟨_,rfl,a⟩
 | .map,K,a=>by cases v<;>simp only[Sc.un] at a;exact⟨_,rfl,a⟩
 | .any,K,a=>⟨v,rfl,a⟩
 | .jD c,K,a=>by
  cases v<;>simp only[Sc.un] at a
  rename_i d b;split at a
  ·rename_i hd;have hd:=of_decide_eq_true hd;subst hd;exact⟨b,rfl,a⟩
  ·exact a.elim
 | .jE c,K,a=>by
  cases v<;>simp only[Sc.un] at a
  rename_i d b m;split at a
  ·rename_i hd;have hd:=of_decide_eq_true hd;subst hd;exact⟨(b,m),rfl,a⟩
  ·exact a.elim
def qW:(l:List Sc)->List J0->(mN l->Prop)->Prop
 | [],[],K=>K ()
 |s::l,v::a,K=>s.un v λx=>qW l a λb=>K (x,b)
 | [],_::_,_=>False
 |_::_,[],_=>False
theorem vY: ∀ {l:List Sc} {c:List J0} {K:mN l->Prop},qW l c K-> ∃b,c=kD l b/\K b
 | [],[],_,a=>⟨(),rfl,a⟩
 |s::l,v::c,K,a=>by
  obtain⟨x,d,e⟩:=Sc.dJ a;obtain⟨b,f,g⟩:=vY e;exact⟨(x,b),by rw[d,f];rfl,g⟩
 | [],_::_,_,a=>a.elim
 |_::_,[],_,a=>a.elim
def Lv.un(v:J0):(a:Lv)->(a.Ty->Prop)->Prop
 | .one s,K=>s.un v K
 | .agg l,K=>match v with| .agg b=>qW l b.toList K|_=>False
theorem Lv.dJ {v:J0}: ∀ {b:Lv} {K:b.Ty->Prop},b.un v K-> ∃x,v=b.val x/\K x
 | .one s,K,a=>Sc.dJ a
 | .agg l,K,a=>by
  cases v<;>simp only[Lv.un] at a
  rename_i e;obtain⟨c,d,a⟩:=vY a;refine⟨c,?_,a⟩;simp only[Lv.val];rw[<- d]
abbrev Live:=List (Nat×Lv)
def ib:Live->Type
 | []=>Unit
 |x::a=>x.2.Ty×ib a
def NU:(L:Live)->Env->(ib L->Prop)->Prop
 | [],_,K=>K ()
 |x::b,a,K=>match a.get x.1 with|some v=>x.2.un v λc=>NU b a λd=>K (c,d)|none=>False
def Ll:(L:Live)->ib L->Nat->Option J0
 | [],_,_=>none
 |x::b,a,t=>bif Nat.beq t x.1 then some (x.2.val a.1) else Ll b a.2 t
def jq(t:Nat):List Nat->Bool
 | []=>false
 |x::a=>bif Nat.beq t x then true else jq t a
def Gb(L:Live)(b:List Nat)(a:Env)(c:ib L):Env:=
 {get:=λt=>match Ll L c t with|some v=>some v|none=>bif jq t b then a.get t else none,ds:=a.ds}
def Ng(b a:List Nat):Bool:=match b with| []=>true|x::c=>bif jq x a then false else Ng c a
theorem ZM {t:Nat}: ∀ {l:List Nat},jq t l=true↔t∈l
 | []=>by simp[jq]
 |x::b=>by
  unfold jq;by_cases a:t=x
  ·subst a;simp
  ·rw[UX a];simp only[cond_false,Hb,a,false_or];exact ZM
theorem VB {c:List Nat}: ∀ {e:List Nat},Ng e c=true-> ∀t∈e,t∉c
 | [],_,_,f=>by cases f
 |x::h,a,t,d=>by
  unfold Ng at a;cases b:jq x c with
  |true=>rw[b] at a;cases a
  |false=>
   rw[b] at a;rcases List.mem_cons.1 d with rfl|d
   ·intro g;rw[ZM.2 g] at b;cases b
   ·exact VB a t d
theorem JW {d:Env}: ∀ {L:Live} {K:ib L->Prop},NU L d K-> ∃c,(∀ t v,Ll L c t=some v->d.get t=some v)/\K c
 | [],K,b=>⟨(),λ_ _ a=>(by cases a),b⟩
 |(e,g)::h,K,b=>by
  unfold NU at b;split at b
  ·rename_i v i;obtain⟨x,j,k⟩:=Lv.dJ b;obtain⟨c,l,m⟩:=JW k;refine⟨(x,c),λt v a=>?_,m⟩;change (bif Nat.beq t e then some (g.val x) else Ll h c t)=some v at a;by_cases f:t=e
   ·subst f;have n:Nat.beq t t=true:=by simp
    rw[n] at a;rw[<- a,cond_true,<-j];exact i
   ·rw[UX f] at a;exact l t v a
  ·exact b.elim
theorem vZ {L:Live}{b:List Nat}{f:Env}{c:ib L}{t:Nat}{v:J0}(a:(Gb L b f c).get t=some v):
  Ll L c t=some v\/(Ll L c t=none/\t∈b/\f.get t=some v):=by
 unfold Gb at a;simp only at a;split at a
 ·rename_i u d;rw[d];exact .inl a
 ·rename_i d;cases e:jq t b with
  |false=>rw[e] at a;cases a
  |true=>rw[e] at a;exact .inr ⟨d,ZM.1 e,a⟩
theorem AGw {L:Live}{c d:ib L}{t:Nat}(a:Ll L c t=none):Ll L d t=none:=by
 induction L with
 |nil=>rfl
 |cons x f e=>
  unfold Ll at a ⊢;by_cases b:t=x.1
  ·subst b;simp at a
  ·rw[UX b] at a ⊢;exact e a
structure Fp (W:List Nat) (nd:Bool) (a a':Act):Prop where
 get: ∀t,t∉W->a'.tmps[t]? =a.tmps[t]?
 ds:nd=true->a'.defers=a.defers
theorem Fp.refl {W:List Nat}{nd:Bool}{a:Act}:Fp W nd a a:=⟨λ_ _=>rfl,λ_=>rfl⟩
theorem Fp.trans {e f V:List Nat}{nd g h:Bool}{a b c:Act}(i:Fp e nd a b)(j:Fp f g b c)(m: ∀t∈e,t∈V)(n: ∀t∈f,t∈V)(k:h=true->nd=true/\g=true):Fp V h a c:=
 ⟨λt l=>(j.get t λd=>l (n t d)).trans (i.get t λd=>l (m t d)),λd=>(j.ds (k d).2).trans (i.ds (k d).1)⟩
theorem Fp.aj {d V:List Nat}{nd e:Bool}{a b:Act}(f:Fp d nd a b)(g: ∀t∈d,t∈V)(h:e=true->nd=true):Fp V e a b:=
 ⟨λt i=>f.get t λc=>i (g t c),λc=>f.ds (h c)⟩
theorem Fits.join {N:Nat}{a b:Act}{d e:Env}(f:Fits N a d)(g:Fits N b e){h:List Nat}{nd:Bool}(l:nd=true)(i:Fp h nd a b){L:Live}{j:List Nat}(m:Ng j h=true){k:ib L}
  (n: ∀t v,Ll L k t=some v->e.get t=some v):Fits N b (Gb L j d k):=by
 refine⟨g.size,λt v o=>?_,(i.ds l).trans f.ds⟩;rcases vZ o with c|⟨_,p,c⟩
 ·exact g.get t v (n t v c)
 ·rw[i.get t (VB m t p)];exact f.get t v c
theorem Fits.again {N:Nat}{a b:Act}{e f:Env}{L:Live}{c:List Nat}{m g:ib L}(h:Fits N a (Gb L c e m))(i:Fits N b f){j:List Nat}{nd:Bool}(n:nd=true)(k:Fp j nd a b)
  (o:Ng c j=true) (p: ∀t v,Ll L g t=some v->f.get t=some v):Fits N b (Gb L c e g):=by
 refine⟨i.size,λt v q=>?_,(k.ds n).trans h.ds⟩;rcases vZ q with d|⟨r,l,d⟩
 ·exact i.get t v (p t v d)
 ·rw[k.get t (VB o t l)];refine h.get t v ?_;unfold Gb;simp only;rw[AGw r,ZM.2 l];exact d
inductive cn where
 |none
 |bD (L:Live) (kept:List Nat)
 |seq (x y:cn)
 |bE (L:Live) (kept:List Nat) (x y:cn)
 |cond (x y:cn)
 |block (x:cn)
 |bN (L:Live) (kept:List Nat) (x:cn)
 |loop (L:Live) (kept:List Nat) (x:cn)
 |range (ps:List Lv) (x y:cn)
 |scope (L:Live) (kept:List Nat) (x y z:cn)
def writes:Code->List Nat
 | .region _ c _=>dstsOf c.toList
 | .seq a b=>writes a++writes b
 | .cond _ a b=>writes a++writes b
 | .block _ a=>writes a
 | .loop a=>writes a
 | .scope a=>writes a
 |_=> []
def GU:Code->Bool
 | .rangeFunc .. =>false
 | .seq a b=>GU a&&GU b
 | .cond _ a b=>GU a&&GU b
 | .block _ a=>GU a
 | .loop a=>GU a
 | .scope a=>GU a
 |_=>true
inductive j4 where
 |ag (i:Nat)
 |fj (l:Nat)
def lB:Option Nat->Code
 |none=> .ret
 |some id=> .exit id
def j6:List Lv->Type
 | []=>Unit
 |lv::l=>lv.Ty×j6 l
def lC:(l:List Lv)->j6 l->List J0
 | [],_=> []
 |lv::l,x=>lv.val x.1::lC l x.2
theorem Yg: ∀(l:List Lv) (x:j6 l),(lC l x).length=l.length
 | [],_=>rfl
 |_::l,x=>by simp[lC,Yg l x.2]
def kF:Env->List Tmp->List J0->Env
 |e,p::ps,v::a=>kF (e.set p v) ps a
 |e,_,_=>e
def Xe(k:ak)(P:Q1)(fv:J0)(e:List Lv)(body:j6 e->Nat->aa->(aa->Prop)->(Option Nat->aa->Prop)->Prop)(a:aa)(n:aa->Prop)(o:Option Nat->aa->Prop):Prop:=
 ∀(rec:Go.Loop),rec.state= .ready->rec.pending=none->rec.params.size=e.length->
  (∀ (x:j6 e) (h:aa) (i:A2H),h[a.size+1]? =some (.loop rec)->
   body x (a.size+1) h
    (λc=> ∃d,c[a.size+1]? =some (.loop d)/\i (.bool true) (c.setIfInBounds (a.size+1) (.loop {d with state:= .ready,pending:=none})))
    (λg c=> ∃d,c[a.size+1]? =some (.loop d)/\i (.bool false) (c.setIfInBounds (a.size+1) (.loop {d with state:= .done,pending:=some (lB g)})))->
   F4 k P (.func (.yield (a.size+1)) #[] #[]) (lC e x).toArray h i)->
  ∃f l,TL P (do let m <-Deferred.ofValue fv #[.func (.yield (a.size+1)) #[] #[]];invoke m.target m.args:Sem Next) (λx=>x= .enter f l)/\
   AA k P f l ((a.push (.deferred (some []))).push (.loop rec)) λ_ j=>
    ∃b,j[a.size+1]? =some (.loop b)/\b.state≠ .busy/\
     ((b.pending=none/\n (j.setIfInBounds (a.size+1) (.loop {b with state:= .exhausted})))\/
     ∃g,b.pending=some (lB g)/\o g (j.setIfInBounds (a.size+1) (.loop {b with state:= .exhausted})))
def F7(n:ak)(P:Q1)(N:Nat)(q:Bool):Code->cn->Env->aa->(Env->aa->Prop)->(j4->Env->aa->Prop)->(Env->aa->Prop)->Prop
 | .skip,_,d,e,k,_,_=>k d e
 | .exit id,_,d,e,_,kb,_=>kb (.ag id) d e
 | .ret,_,d,e,_,_,m=>m d e
 | .label _,_,d,e,k,_,_=>k d e
 | .goto l,_,d,e,_,kb,_=>kb (.fj l) d e
 | .region _ y u,r,d,e,k,_,_=>match r with
  | .bD L o=>match Ng o (dstsOf y.toList) with
   |true=>ai (λj e=>k (Gb L o d j) e) λK=>mJ n P N y u d e λh g=>NU L h λj=>K j g
   |false=>False
  |_=>mJ n P N y u d e k
 | .seq a b,r,d,e,k,kb,m=>match r with
  | .seq x t=>F7 n P N q a x d e (λd e=>F7 n P N q b t d e k kb m) kb m
  | .bE L o x t=>match Ng o (writes a)&&GU a with
   |true=>ai (λj e=>F7 n P N q b t (Gb L o d j) e k kb m) λK=>F7 n P N q a x d e (λh g=>NU L h λj=>K j g) kb m
   |false=>False
  |_=>False
 | .cond c p C,r,d,e,k,kb,m=>match r with
  | .cond x t=>rd d c λv=>match v with| .bool b=>af b (F7 n P N q p x d e k kb m) (F7 n P N q C t d e k kb m)|_=>False
  |_=>False
 | .block id c,r,d,e,k,kb,m=>match r with
  | .block x=>F7 n P N q c x d e k (λs h g=>match s with| .ag i=>(match Nat.beq i id with|true=>k h g|false=>kb (.ag i) h g)| .fj l=>kb (.fj l) h g) m
  | .bN L o x=>match Ng o (writes c)&&GU c with
   |true=>ai (λj e=>k (Gb L o d j) e) λK=>
     F7 n P N q c x d e (λh g=>NU L h λj=>K j g) (λs h g=>match s with| .ag i=>(match Nat.beq i id with|true=>NU L h λj=>K j g|false=>kb (.ag i) h g)| .fj l=>kb (.fj l) h g) m
   |false=>False
  |_=>False
 | .loop c,r,d,e,_,kb,m=>match r with
  | .loop L o x=>match Ng o (writes c)&&GU c with
   |true=>NU L d λj=>Loop (λK j e=>F7 n P N q c x (Gb L o d j) e (λh g=>NU L h λj=>K j g) kb m) j e
   |false=>False
  |_=>False
 | .rangeFunc f ps D c,r,d,e,k,kb,m=>match r with
  | .range z x t=>match (!q)&&Nat.beq z.length ps.size&&ps.toList.all λp=>Nat.blt p N with
   |true=>rd d f λfv=>Xe n P fv z
     (λargs l E F B=>F7 n P N true D x (kF {get:=d.get,ds:= []} ps.toList (lC z args)) E
      (λh g=> ∃A,g[l]? =some (.loop A)/\A.state= .ready/\
       F7 n P N true c t h (g.setIfInBounds l (.loop {A with state:= .busy})) (λ_ w=>F w) (λs _ w=>match s with| .ag i=>B (some i) w| .fj _=>False) (λ_ w=>B none w))
      (λ_ _ _=>False) (λ_ _=>False))
     e
     (λg=>k {get:=d.get,ds:=e.size::d.ds} g)
     (λs g=>match s with|none=>m {get:=d.get,ds:=e.size::d.ds} g|some i=>kb (.ag i) {get:=d.get,ds:=e.size::d.ds} g)
   |false=>False
  |_=>False
 | .scope (.seq b (.seq c (.seq (.label l) u))),r,d,e,k,kb,m=>match r with
  | .scope L o G x t=>match ((findLabel b l).isNone&&(findLabel c l).isNone)&&(Ng o (writes c++writes u)&&(GU b&&(GU c&&GU u))) with
   |true=>F7 n P N q b G d e (λd e=>F7 n P N q c x d e
     (λh g=>NU L h λj=>Loop (λK j e=>F7 n P N q u t (Gb L o d j) e k
      (λs h g=>match s with| .ag i=>kb (.ag i) h g| .fj H=>match Nat.beq H l with|true=>NU L h λj=>K j g|false=>False) m) j g)
     (λs h g=>match s with| .ag i=>kb (.ag i) h g| .fj _=>False) m) (λs h g=>match s with| .ag i=>kb (.ag i) h g| .fj _=>False) m
   |false=>False
  |_=>False
 |_,_,_,_,_,_,_=>False
def dE(d:ak)(N:Nat)(e:List Nat)(nd:Bool)(f:Act)(g:Env->aa->Prop)(kb:j4->Env->aa->Prop)(h:Env->aa->Prop):Exit->Act->World->Prop:=
 λx a i=> ∃b c j,i=d.at c j/\Fits N a b/\Fp e nd f a/\(match x with
  | .normal=>g b c
  | .exit id=>kb (.ag id) b c
  | .goto l=>kb (.fj l) b c
  | .ret=>h b c
  |_=>False)
theorem dE.mono {e:ak}{N:Nat}{f V:List Nat}{nd g:Bool}{h:Act}{j k:Env->aa->Prop}{kb l:j4->Env->aa->Prop}{m n:Env->aa->Prop}
  (q: ∀t∈f,t∈V) (r:g=true->nd=true) (s: ∀b c,j b c->k b c) (o: ∀i b c,kb i b c->l i b c) (u: ∀b c,m b c->n b c) {x:Exit} {a:Act} {p:World}
  (v:dE e N f nd h j kb m x a p):dE e N V g h k l n x a p:=by
 obtain⟨b,c,w,y,z,A,d⟩:=v;refine⟨b,c,w,y,z,A.aj q r,?_⟩;cases x<;>simp only at d ⊢
 ·exact s _ _ d
 ·exact o _ _ _ d
 ·exact o _ _ _ d
 ·exact u _ _ d
section
variable {F : Fence} {n : Nat} {P : Q1} {c : Code} {Q : Exit -> Act -> World -> Prop} {a : Act} {w : World}
def mO(F:Fence)(n:Nat)(P:Q1)(c:Code)(Q:Exit->Act->World->Prop)(a:Act)(w:World):Prop:=
 ∀(b:Frame) (e:List Item) (d:List Frame),b.roundOf=F.round->F.fn b.fn->F.room (d.length+1+n)->
  ∃f g h,Q f g h/\ArrivesIn (Machine.fenced P F) P (lone (b.atR a (.inLoop c::e)) d w) b e d f g h
theorem w6(r:c.wpIn F n P (Exit.then (mO F n P c Q) Q) a w)(b:Frame)(i:List Item)(f:List Frame)(k:b.roundOf=F.round)(m:F.fn b.fn)(o:F.room (f.length+1+n)):
  ∃j p q,Q j p q/\ArrivesIn (Machine.fenced P F) P (lone (b.atR a (.code c:: .inLoop c::i)) f w) b i f j p q:=by
 obtain⟨j,g,h,d,e⟩:=r b (.inLoop c::i) f k m o;cases j with
 |normal=>
  obtain⟨s,t,u,v,y⟩:=d b i f k m o;exact⟨s,t,u,v,.of_steps e y⟩
 |exit id=>exact⟨_,g,h,d,.pass (x:= .inLoop c) rfl (λ_ _=> .inl (by simp)) e⟩
 |goto l=>exact⟨_,g,h,d,.pass (x:= .inLoop c) rfl (λ_ _=> .inl (by simp)) e⟩
 |ret=>exact⟨_,g,h,d,.pass (x:= .inLoop c) rfl (λ_ _=> .inl (by simp)) e⟩
 |panic z=>exact⟨_,g,h,d,.pass (x:= .inLoop c) rfl (λ_ _=> .inl (by simp)) e⟩
 |outgrown=>exact⟨_,g,h,d,.pass (x:= .inLoop c) rfl (λ_ _=> .inl (by simp)) e⟩
theorem AHt(f:c.wpIn F n P (Exit.then (mO F n P c Q) Q) a w):mO F n P c Q a w:=λb g h i d e=>
 let ⟨j,k,l,m,o⟩:=w6 f b g h i d e
 ⟨j,k,l,m,.of_steps (.one (fenced_calm d e rfl) stepR_inLoop) o⟩
theorem AGJ(f:c.wpIn F n P (Exit.then (mO F n P c Q) Q) a w):(Code.loop c).wpIn F n P Q a w:=λb g h i d e=>
 let ⟨j,k,l,m,o⟩:=w6 f b g h i d e
 ⟨j,k,l,m,.of_steps (.one (fenced_calm d e rfl) stepR_loop) o⟩
end
def YM(F:Fence)(n:Nat)(P:Q1)(c rest:Code)(Q:Exit->Act->World->Prop)(a:Act)(w:World):Prop:=
 ∀(b:Frame) (e:List Item) (d:List Frame),b.roundOf=F.round->F.fn b.fn->F.room (d.length+1+n)->
  ∃f g h,Q f g h/\ArrivesIn (Machine.fenced P F) P (lone (b.atR a (.code rest:: .inScope c::e)) d w) b e d f g h
def oN(l:Nat)(b:Act->World->Prop)(Q:Exit->Act->World->Prop):Exit->Act->World->Prop
 | .goto d,a,w=>d=l/\b a w
 |e,a,w=>Q e a w
section
variable {F : Fence} {n : Nat} {P : Q1} {Q : Exit -> Act -> World -> Prop} {a : Act} {w : World}
theorem AEU {P:Q1}{b:Frame}{a:Act}{d:List Item}{e:List Frame}{w:World}{c:Code}:step P (lone (b.atR a (.inScope c::d)) e w)= .next (lone (b.atR a d) e w):=
 step_lone_go (by simp[stepG,stepG.exec,Frame.atR])
theorem AHn {P:Q1}{b:Frame}{a:Act}{d:List Item}{e:List Frame}{w:World}{c:Code}:step P (lone (b.atR a (.code (.scope c)::d)) e w)= .next (lone (b.atR a (.code c:: .inScope c::d)) e w):=
 step_lone_go (by simp[stepG,stepG.exec,Frame.atR])
theorem w7 {c rest x:Code}{l:Nat}(q:findLabel c l=some rest)(r:x.wpIn F n P (oN l (YM F n P c rest Q) Q) a w):YM F n P c x Q a w:=by
 intro b e m o i j;have s:gotoIn l (.inScope c::e)=some (.code rest:: .inScope c::e):=by simp[gotoIn,q]
 obtain⟨t,g,h,f,d⟩:=r b (.inScope c::e) m o i j;cases t with
 |normal=>exact⟨.normal,g,h,f,StepsIn.trans d (.one (fenced_calm i j rfl) AEU)⟩
 |exit id=>
  have p:exitTo id (.inScope c::e)=exitTo id e:=by simp[exitTo]
  exact⟨.exit id,g,h,f,λu k=>d.1 u (by rw[p];exact k),λv k=>d.2 v (by rw[p];exact k)⟩
 |goto E=>
  obtain⟨rfl,y⟩:=f;obtain⟨z,A,B,C,D⟩:=y b e m o i j;exact⟨z,A,B,C,.of_steps (d.1 _ s) D⟩
 |ret=>exact⟨_,g,h,f,d⟩
 |panic G=>exact⟨_,g,h,f,d⟩
 |outgrown=>exact⟨_,g,h,f,d⟩
theorem AEa {c rest:Code}{l:Nat}(f:findLabel c l=some rest)(g:c.wpIn F n P (oN l (YM F n P c rest Q) Q) a w):(Code.scope c).wpIn F n P Q a w:=λb h i j d e=>
 let ⟨k,m,o,p,q⟩:=w7 f g b h i j d e
 ⟨k,m,o,p,.of_steps (.one (fenced_calm d e rfl) AHn) q⟩
end
theorem Qc.g {b:List Nat}{nd:Bool}{a d:Act}(e:Qc b a d):Fp b nd a d:=⟨e.get,λ_=>e.ds⟩
theorem ARy(d:ak)(b:aa)(n:Nat):(d.at b n).heap=b:=rfl
theorem run_getLoop {P:Q1}{d:ak}{b:aa}{n l:Nat}{rec:Go.Loop}(e:b[l]? =some (.loop rec)):(Instr.getLoop l).run P (d.at b n)= .ok rec (d.at b n):=by simp[Instr.getLoop,Sem.run_bind,getObj,Sem.run,ARy,e]
theorem XZ {P:Q1}{d:ak}{b:aa}{n l:Nat}{rec:Go.Loop}{e:Obj}(f:b[l]? =some (.loop rec)):(setObj l e).run P (d.at b n)= .ok () (d.at (b.setIfInBounds l e) n):=by simp[setObj,Sem.run,f,ak.at]
theorem run_beginRound {P:Q1}{d:ak}{b:aa}{n l:Nat}{rec:Go.Loop}(e:b[l]? =some (.loop rec))(f:rec.state= .ready):
  (Instr.beginRound l).run P (d.at b n)= .ok () (d.at (b.setIfInBounds l (.loop {rec with state:= .busy})) n):=by
 simp[Instr.beginRound,Sem.run_bind,run_getLoop e,XZ e,f]
theorem run_endRound {P:Q1}{e:ak}{d:aa}{n l:Nat}{rec:Go.Loop}{b:Option Code}(f:d[l]? =some (.loop rec)):
  (Instr.endRound l b).run P (e.at d n)= .ok (.bool b.isNone) (e.at (d.setIfInBounds l (.loop {rec with state:=if b.isNone then .ready else .done,pending:=b})) n):=by
 simp[Instr.endRound,Sem.run_bind,run_getLoop f,XZ f]
theorem run_endLoop {P:Q1}{d:ak}{b:aa}{n l:Nat}{rec:Go.Loop}(e:b[l]? =some (.loop rec))(f:rec.state≠ .busy):
  (Instr.endLoop l).run P (d.at b n)= .ok rec.pending (d.at (b.setIfInBounds l (.loop {rec with state:= .exhausted})) n):=by
 simp_all [Instr.endLoop,Sem.run_bind,run_getLoop,XZ,absurd]
theorem AE5 {P:Q1}{d:ak}{b:aa}{n:Nat}{fn:Q8}{tmps:Array J0}{ps:Array Tmp}{e body:Code}:
  (Instr.enterLoop fn tmps ps e body none).run P (d.at b n)=
   .ok (b.size+1,[kZ b.size]) (d.at ((b.push (.deferred (some []))).push (.loop {state:= .ready,pending:=none,fn,tmps,params:=ps,assign:=e,body,defers:=b.size})) n):=by
 simp[Instr.enterLoop,Sem.run_bind,newObj,Sem.run,ak.at,kZ];rfl
theorem w8 {N:Nat}: ∀(ps:List Tmp) (d:List J0) (e:Env) (tmps:Array J0),(∀ p∈ps,p<N)->Fits N {tmps:=tmps,defers:= []} e->
  Fits N {tmps:=(ps.zip d).foldl (λtmps (t,a)=>tmps.setIfInBounds t a) tmps,defers:= []} (kF e ps d)
 | [],_,_,_,_,b=>by simpa [kF] using b
 |_::_,[],_,_,_,b=>by simpa [kF] using b
 |p::ps,v::d,e,tmps,f,b=>by
  have g:=b.set (v:=v) (f p Cd);exact w8 ps d (e.set p v) (tmps.setIfInBounds p v) (λh i=>f h (AG _ i)) g
def Ya(P:Q1)(b:ak)(N:Nat)(c:Code):Prop:= ∀(m:Nat) (d:Bool) (e:Option Nat) (j:cn) (f:Env) (g:aa) (h:Env->aa->Prop) (kb:j4->Env->aa->Prop) (i:Env->aa->Prop) (a:Act) (n:Nat),
  (d=false->e=none)->F7 b P N d c j f g h kb i->Fits N a f->c.wpIn (Fw e) m P (dE b N (writes c) (GU c) a h kb i) a (b.at g n)
theorem AJY {P:Q1}{h:ak}{N:Nat}{c b body:Code}{l:Nat}(am:Ya P h N c)(an:Ya P h N b){m:Nat}{q:Bool}{j:Option Nat}{L:Live}{z:List Nat}{U V:cn}{r:Env}{d:aa}{W:Env->aa->Prop}{kb:j4->Env->aa->Prop}{s:Env->aa->Prop}{X a:Act}{n:Nat}{Y:List Nat}{nd:Bool}{Q:Exit->Act->World->Prop}{A:Act->World->Prop}
  (Z:q=false->j=none) (ao:findLabel body l=some (.seq .skip b)) (ab:Ng z (writes c++writes b)=true) (ap:GU c=true) (aq:GU b=true)
  (ar:F7 h P N q c U r d
     (λk o=>NU L k λe=>Loop (λK e d=>F7 h P N q b V (Gb L z r e) d W
      (λB k o=>match B with| .ag i=>kb (.ag i) k o| .fj C=>match Nat.beq C l with|true=>NU L k λe=>K e o|false=>False) s) e o)
     (λB k o=>match B with| .ag i=>kb (.ag i) k o| .fj _=>False) s)
  (ac:Fits N a r) (ae: ∀f,Fp (writes c++writes b) true a f->Fp Y nd X f) (u:dE h N Y nd X W kb s=Q) (au:A=YM (Fw j) m P body (.seq .skip b) Q):(Code.seq c (.seq (.label l) b)).wpIn (Fw j) m P (oN l A Q) a (h.at d n):=by
 have av: ∀t∈writes c,t∈writes c++writes b:=λt D=>List.mem_append.2 (.inl D)
 have aw: ∀t∈writes b,t∈writes c++writes b:=λt D=>List.mem_append.2 (.inr D)
 let ax:ib L->aa->Prop:=λe E=> ∀f G,Fits N f (Gb L z r e)->Fp (writes c++writes b) true a f->b.wpIn (Fw j) m P (oN l A Q) f (h.at E G)
 refine wpIn_seq (wpIn_mono (am m q j U r d _ _ s a n Z ar ac) ?_);rintro H I aL ⟨af,ag,J,rfl,M,ay,p⟩;have O:Fp (writes c++writes b) true a I:=ay.aj av (λ_=>ap);have ah:=ae I O;cases H with
 |normal=>
  obtain⟨e,az,aA⟩:=JW p;refine wpIn_seq (wpIn_label ?_);have aC:=aA ax ?_
  ·exact aC I J (ac.join M rfl O ab az) O
  ·intro e E aD f G ai aE;refine wpIn_mono (an m q j V _ E _ _ s f G Z aD ai) ?_;rintro H v aM ⟨R,S,x,rfl,y,aF,g⟩;have aj:Fp (writes c++writes b) true f v:=aF.aj aw (λ_=>aq);have al:Fp (writes c++writes b) true a v:=aE.trans aj (λ_ d=>d) (λ_ d=>d) (λ_=>⟨rfl,rfl⟩);have T:=ae v al;cases H with
   |normal=>rw[<- u];exact⟨R,S,x,rfl,y,T,g⟩
   |exit i=>rw[<- u];exact⟨R,S,x,rfl,y,T,g⟩
   |goto C=>
    simp only at g;split at g
    ·rename_i aG;have aH:=It aG;subst aH;obtain⟨aN,aI,aJ⟩:=JW g;refine⟨rfl,?_⟩;have hd:=aJ v x (ai.again y rfl aj ab aI) al;rw[au] at hd ⊢;exact w7 ao (wpIn_seq (wpIn_skip hd))
    ·exact g.elim
   |ret=>rw[<- u];exact⟨R,S,x,rfl,y,T,g⟩
   |panic aK=>exact g.elim
   |outgrown=>exact g.elim
 |exit i=>rw[<- u];exact⟨af,ag,J,rfl,M,ah,p⟩
 |goto C=>exact p.elim
 |ret=>rw[<- u];exact⟨af,ag,J,rfl,M,ah,p⟩
 |panic aK=>exact p.elim
 |outgrown=>exact p.elim
theorem AJN {P:Q1}{e:ak}{N:Nat}{b c d:Code}{l:Nat}(S:Ya P e N b)(T:Ya P e N c)(U:Ya P e N d){m:Nat}{p:Bool}{s:Option Nat}{L:Live}{z:List Nat}{A V W:cn}{j:Env}{f:aa}{u:Env->aa->Prop}{kb:j4->Env->aa->Prop}{k:Env->aa->Prop}{a:Act}{n:Nat}
  (B:p=false->s=none) (X:(findLabel b l).isNone=true) (Y:(findLabel c l).isNone=true) (Z:Ng z (writes c++writes d)=true) (ab:GU b=true) (ac:GU c=true) (ae:GU d=true)
  (af:F7 e P N p b A j f (λj f=>F7 e P N p c V j f
     (λg h=>NU L g λq=>Loop (λK q f=>F7 e P N p d W (Gb L z j q) f u
      (λr g h=>match r with| .ag i=>kb (.ag i) g h| .fj C=>match Nat.beq C l with|true=>NU L g λq=>K q h|false=>False) k) q h)
     (λr g h=>match r with| .ag i=>kb (.ag i) g h| .fj _=>False) k) (λr g h=>match r with| .ag i=>kb (.ag i) g h| .fj _=>False) k)
  (ag:Fits N a j):(Code.scope (.seq b (.seq c (.seq (.label l) d)))).wpIn (Fw s) m P (dE e N (writes (.scope (.seq b (.seq c (.seq (.label l) d))))) (GU (.scope (.seq b (.seq c (.seq (.label l) d))))) a u kb k) a (e.at f n):=by
 have ah:findLabel b l=none:=by simpa using X
 have ai:findLabel c l=none:=by simpa using Y
 have D:findLabel (.seq b (.seq c (.seq (.label l) d))) l=some (.seq .skip d):=by simp[findLabel,ah,ai]
 have aj:GU (.scope (.seq b (.seq c (.seq (.label l) d))))=true:=by grind [GU]
 have E: ∀t∈writes b,t∈writes (.scope (.seq b (.seq c (.seq (.label l) d)))):=λt al=>by simp_all [writes,HR]
 have G: ∀t∈writes c++writes d,t∈writes (.scope (.seq b (.seq c (.seq (.label l) d)))):=λt al=>by
  simp_all [HR,writes]
 generalize aq:writes (.scope (.seq b (.seq c (.seq (.label l) d))))=H at E G ⊢;rw[aj];generalize v:dE e N H true a u kb k=Q;obtain⟨I,J⟩: ∃I:Act->World->Prop,I=YM (Fw s) m P (.seq b (.seq c (.seq (.label l) d))) (.seq .skip d) Q:=⟨_,rfl⟩;refine AEa D ?_;rw[<- J];refine wpIn_seq (wpIn_mono (S m p s A j f _ _ k a n B af ag) ?_);rintro am an ar ⟨M,O,R,rfl,x,ao,o⟩;have y:Fp H true a an:=ao.aj E λ_=>ab
 cases am with
 |normal=>exact AJY T U B D Z ac ae o x (λau ap=>y.trans ap (λ_ f=>f) G λ_=>⟨rfl,rfl⟩) v J
 |exit i=>rw[<- v];exact⟨M,O,R,rfl,x,y,o⟩
 |goto C=>exact o.elim
 |ret=>rw[<- v];exact⟨M,O,R,rfl,x,y,o⟩
 |panic av=>exact o.elim
 |outgrown=>exact o.elim
theorem AIp {P:Q1}{y:ak}{N:Nat}(a8:P.follows .mixedOrders=true): ∀(aF:Nat) (c:Code),SizeOf.sizeOf c<aF-> ∀(m:Nat) (C:Bool) (A:Option Nat) (G:cn) (k:Env) (d:aa) (q:Env->aa->Prop) (kb:j4->Env->aa->Prop) (r:Env->aa->Prop) (a:Act) (n:Nat),
  (C=false->A=none)->F7 y P N C c G k d q kb r->Fits N a k->c.wpIn (Fw A) m P (dE y N (writes c) (GU c) a q kb r) a (y.at d n):=by
 intro aF
 induction aF with
 |zero=>intro c Z;omega
 |succ aF T=>
  intro c Z;cases c with
  |skip=>intro m C A G k d q kb r a n _ e o;exact wpIn_skip ⟨k,d,n,rfl,o,Fp.refl,e⟩
  |exit id=>intro m C A G k d q kb r a n _ e o;exact wpIn_exit ⟨k,d,n,rfl,o,Fp.refl,e⟩
  |ret=>intro m C A G k d q kb r a n _ e o;exact wpIn_ret ⟨k,d,n,rfl,o,Fp.refl,e⟩
  |label l=>intro m C A G k d q kb r a n _ e o;exact wpIn_label ⟨k,d,n,rfl,o,Fp.refl,e⟩
  |goto l=>intro m C A G k d q kb r a n _ e o;exact wpIn_goto ⟨k,d,n,rfl,o,Fp.refl,e⟩
  |refuse S=>intro m C A G k d q kb r a n _ e o;simp only[F7] at e
  |region id ai V=>
   intro m C A G k d q kb r a n _ e o;have plain: ∀X,(∀ aw aj ae ax,Fits N aw aj->Qc (dstsOf ai.toList) a aw->X aj ae->dE y N (writes (.region id ai V)) (GU (.region id ai V)) a q kb r .normal aw (y.at ae ax))->
     mJ y P N ai V k d X->(Code.region id ai V).wpIn (Fw A) m P (dE y N (writes (.region id ai V)) (GU (.region id ai V)) a q kb r) a (y.at d n):=
    λX a9 ba=>AGI a8 ba o a9
   cases G with
   |bD L al=>
    simp only[F7] at e;split at e
    ·rename_i H;have e:=e _ (λ_ _ d=>d);refine plain _ ?_ e;intro aw aj ae ax aN aq I;obtain⟨ag,s,O⟩:=JW I;exact⟨_,ae,ax,rfl,o.join aN rfl (aq.g (nd:=true)) H s,aq.g,O⟩
    ·exact e.elim
   |_=>exact plain q (λaw aj ae ax aN aq I=>⟨aj,ae,ax,rfl,aN,aq.g,I⟩) e
  |seq x S=>
   have ay:=T x (by simp at Z;omega);have aO:=T S (by simp at Z;omega);intro m C A G k d q kb r a n Y e o;have tail: ∀(X:Env->aa->Prop) (aP aQ:cn),F7 y P N C x aP k d X kb r->
     (∀ h g j,Fits N h g->Fp (writes x) (GU x) a h->X g j-> ∃D,Fits N h D/\F7 y P N C S aQ D j q kb r)->
     (Code.seq x S).wpIn (Fw A) m P (dE y N (writes (.seq x S)) (GU (.seq x S)) a q kb r) a (y.at d n):=by
    intro X aP aQ I am;refine wpIn_seq (wpIn_mono (ay m C A aP k d X kb r a n Y I o) ?_);intro an h aG E;have ar: ∀t∈writes x,t∈writes (.seq x S):=λt aR=>by grind [writes]
    have bb: ∀t∈writes S,t∈writes (.seq x S):=λt aR=>by grind [writes]
    have au:GU (.seq x S)=true->GU x=true/\GU S=true:=λd=>by simpa [GU] using d
    cases an with
    |normal=>
     obtain⟨g,j,U,rfl,u,B,s⟩:=E;obtain⟨D,ab,aS⟩:=am h g j u B s;refine wpIn_mono (aO m C A aQ D j q kb r h U Y aS ab) ?_;rintro aZ aH a0 ⟨bc,aT,bd,rfl,be,bf,bg⟩;exact⟨bc,aT,bd,rfl,be,B.trans bf ar bb au,bg⟩
    |exit id=>obtain⟨g,j,U,rfl,u,B,s⟩:=E;exact⟨g,j,U,rfl,u,B.aj ar (λd=>(au d).1),s⟩
    |ret=>obtain⟨g,j,U,rfl,u,B,s⟩:=E;exact⟨g,j,U,rfl,u,B.aj ar (λd=>(au d).1),s⟩
    |goto l=>obtain⟨g,j,U,rfl,u,B,s⟩:=E;exact⟨g,j,U,rfl,u,B.aj ar (λd=>(au d).1),s⟩
    |panic a1=>obtain⟨_,_,_,_,_,_,s⟩:=E;exact s.elim
    |outgrown=>obtain⟨_,_,_,_,_,_,s⟩:=E;exact s.elim
   cases G with
   |seq J ah=>
    simp only[F7] at e;exact tail _ J ah e (λh g j u _ I=>⟨g,u,I⟩)
   |bE L al J ah=>
    simp only[F7] at e;split at e
    ·rename_i H;simp only[A3] at H;have e:=e _ (λ_ _ d=>d);refine tail _ J ah e ?_;intro h g j u B I;obtain⟨ag,s,O⟩:=JW I;exact⟨_,o.join u H.2 B H.1 s,O⟩
    ·exact e.elim
   |_=>simp only[F7] at e
  |cond v x S=>
   have ay:=T x (by simp at Z;omega);have aO:=T S (by simp at Z;omega);intro m C A G k d q kb r a n Y e o;cases G with
   |cond J ah=>
    simp only[F7] at e;have e:=BQ o e;cases aI:a.eval v<;>rw[aI] at e<;>simp only[] at e
    rename_i b;obtain⟨j,M⟩:=af.mk e;refine wpIn_cond aI ?_;cases b with
    |true=>exact wpIn_mono (ay m C A J k d q kb r a n Y (j rfl) o) (λ_ _ _ E=>E.mono (λt aR=>by grind [writes]) (λd=>by grind [GU]) (λ_ _ d=>d) (λ_ _ _ d=>d) (λ_ _ d=>d))
    |false=>exact wpIn_mono (aO m C A ah k d q kb r a n Y (M rfl) o) (λ_ _ _ E=>E.mono (λt aR=>by grind [writes]) (λd=>by grind [GU]) (λ_ _ d=>d) (λ_ _ _ d=>d) (λ_ _ d=>d))
   |_=>simp only[F7] at e
  |block id x=>
   have T:=T x (by simp at Z;omega);intro m C A G k d q kb r a n Y e o;have tail: ∀(X:Env->aa->Prop) (az:j4->Env->aa->Prop) (J:cn),F7 y P N C x J k d X az r->
     (∀ h g j,Fits N h g->Fp (writes x) (GU x) a h->X g j-> ∃D,Fits N h D/\q D j)->
     (∀ i h g j,Fits N h g->Fp (writes x) (GU x) a h->az (.ag i) g j->(i=id/\ ∃D,Fits N h D/\q D j)\/(i≠id/\kb (.ag i) g j))->(∀ l g j,az (.fj l) g j->kb (.fj l) g j)->
     (Code.block id x).wpIn (Fw A) m P (dE y N (writes (.block id x)) (GU (.block id x)) a q kb r) a (y.at d n):=by
    intro X az J I j M aT;refine wpIn_block (wpIn_mono (T m C A J k d X az r a n Y I o) ?_);intro an h aG E;obtain⟨g,R,U,rfl,u,B,s⟩:=E;cases an with
    |normal=>obtain⟨D,ab,am⟩:=j h g R u B s;exact⟨D,R,U,rfl,ab,B,am⟩
    |exit i=>
     simp only[Exit.inBlock];rcases M i h g R u B s with⟨ao,D,ab,am⟩|⟨ao,am⟩
     ·rw[if_pos ao];exact⟨D,R,U,rfl,ab,B,am⟩
     ·rw[if_neg ao];exact⟨g,R,U,rfl,u,B,am⟩
    |ret=>exact⟨g,R,U,rfl,u,B,s⟩
    |goto l=>exact⟨g,R,U,rfl,u,B,aT l _ _ s⟩
    |panic a1=>exact s.elim
    |outgrown=>exact s.elim
   cases G with
   |block J=>
    simp only[F7] at e;refine tail _ _ J e (λh g j u _ I=>⟨g,u,I⟩) ?_ (λ_ _ _ d=>d);intro i h g j u _ I;by_cases ao:i=id
    ·subst ao;simp only[Nat.beq_refl] at I
     grind
    grind [UX]
   |bN L al J=>
    simp only[F7] at e;split at e
    ·rename_i H;simp only[A3] at H;have e:=e _ (λ_ _ d=>d);have a2: ∀h g j,Fits N h g->Fp (writes x) (GU x) a h->NU L g (λag=>q (Gb L al k ag) j)-> ∃D,Fits N h D/\q D j:=by intro h g j u B I;obtain⟨ag,s,O⟩:=JW I;exact⟨_,o.join u H.2 B H.1 s,O⟩
     refine tail _ _ J e a2 ?_ (λ_ _ _ d=>d);intro i h g j u B I;by_cases ao:i=id
     ·subst ao;simp only[Nat.beq_refl] at I;exact .inl ⟨rfl,a2 h g j u B I⟩
     grind [UX]
    ·exact e.elim
   |_=>simp only[F7] at e
  |loop x=>
   have T:=T x (by simp at Z;omega);intro m C A G k d q kb r a n Y e o;cases G with
   |loop L al J=>
    simp only[F7] at e;split at e
    ·rename_i H;simp only[A3] at H;obtain⟨ag,s,e⟩:=JW e;have bh:Fits N a (Gb L al k ag):=o.join o H.2 (Fp.refl (W:=writes x)) H.1 s
     let K:ib L->aa->Prop:=λag d=> ∀h n,Fits N h (Gb L al k ag)->Fp (writes x) (GU x) a h->
      x.wpIn (Fw A) m P (Exit.then (mO (Fw A) m P x (dE y N (writes x) (GU x) a q kb r)) (dE y N (writes x) (GU x) a q kb r)) h (y.at d n)
     have aq:=e K ?_
     ·exact AGJ (aq a n bh Fp.refl)
     ·intro ag d bi h n u B;refine wpIn_mono (T m C A J _ d _ kb r h n Y bi u) ?_;intro an aH a0 E;obtain⟨D,M,av,rfl,ab,aU,O⟩:=E;have aJ:Fp (writes x) (GU x) a aH:=B.trans aU (λ_ d=>d) (λ_ d=>d) (λd=>⟨d,d⟩);cases an with
      |normal=>
       obtain⟨bW,bj,aS⟩:=JW O;exact AHt (aS aH av (u.again ab H.2 aU H.1 bj) aJ)
      |exit i=>exact⟨D,M,av,rfl,ab,aJ,O⟩
      |ret=>exact⟨D,M,av,rfl,ab,aJ,O⟩
      |goto l=>exact⟨D,M,av,rfl,ab,aJ,O⟩
      |panic a1=>exact O.elim
      |outgrown=>exact O.elim
    ·exact e.elim
   |_=>simp only[F7] at e
  |rangeFunc f ps aK x=>
   have bk:=T aK (by simp at Z;omega);have ay:=T x (by simp at Z;omega);intro m C A G k d q kb r a n Y e o;cases G with
   |range a3 J ah=>
    simp only[F7] at e;split at e
    ·rename_i a4;simp only[A3,CA,DQ] at a4;obtain⟨⟨bm,aL⟩,bn⟩:=a4;have aL:=It aL;have bo:=Y bm;subst bo;have e:=BQ o e;refine wpIn_rangeFunc λfn _=>?_
     let aA:Go.Loop:= {state:= .ready,pending:=none,fn,tmps:=a.tmps,params:=ps,assign:=aK,body:=x,defers:=d.size}
     have bp: ∀args:List J0,args.length=ps.size-> ∀(R:aa) (ap:A2H),R[d.size+1]? =some (.loop aA)->
       F7 y P N true aK J (kF {get:=k.get,ds:= []} ps.toList args) R
        (λaj ae=> ∃aM,ae[d.size+1]? =some (.loop aM)/\aM.state= .ready/\
         F7 y P N true x ah aj (ae.setIfInBounds (d.size+1) (.loop {aM with state:= .busy}))
          (λ_ M=> ∃ac,M[d.size+1]? =some (.loop ac)/\ap (.bool true) (M.setIfInBounds (d.size+1) (.loop {ac with state:= .ready,pending:=none})))
          (λaV _ M=>match aV with| .ag i=>(∃ ac,M[d.size+1]? =some (.loop ac)/\ap (.bool false) (M.setIfInBounds (d.size+1) (.loop {ac with state:= .done,pending:=some (lB (some i))})))| .fj _=>False)
          (λ_ M=> ∃ac,M[d.size+1]? =some (.loop ac)/\ap (.bool false) (M.setIfInBounds (d.size+1) (.loop {ac with state:= .done,pending:=some (lB none)}))))
        (λ_ _ _=>False) (λ_ _=>False)->
       F4 y P (.func (.yield (d.size+1)) #[] #[]) args.toArray R ap:=by
      intro args bq R ap aW aX n;have br:(do let V <-Deferred.ofValue (.func (.yield (d.size+1)) #[] #[]) args.toArray;invoke V.target V.args:Sem Next).run P (y.at R n)=
        .ok (.round (d.size+1) fn ((ps.zip args.toArray).foldl (λtmps (t,a)=>tmps.setIfInBounds t a) a.tmps) aK x) (y.at R n):=by
       have bs: ¬(args.toArray).size≠ps.size:=by simp[bq]
       simp only[Deferred.ofValue,Sem.run_bind,Sem.run_pure,Result.andThen_ok,invoke,Instr.yield,run_getLoop aW,Array.empty_append];show Sem.run P (if(args.toArray).size≠ps.size then _ else _) _=_;rw[if_neg bs];rfl
      rw[br];simp only[Next.out];have bt:Fits N {tmps:=(ps.zip args.toArray).foldl (λtmps (t,a)=>tmps.setIfInBounds t a) a.tmps,defers:= []} (kF {get:=k.get,ds:= []} ps.toList args):=by have bu:Fits N {tmps:=a.tmps,defers:= []} {get:=k.get,ds:= []}:=⟨o.size,o.get,rfl⟩;have:=w8 ps.toList args _ a.tmps (λp E=>by simpa using bn p E) bu;rw[<- Array.foldl_toList,Array.toList_zip];exact this
      refine roundIn_of_wpIn trivial (wpIn_mono (bk 0 true (some (d.size+1)) J _ R _ _ _ _ n (λd=>by cases d) aX bt) ?_);intro an h aG E;obtain⟨g,j,U,rfl,u,B,s⟩:=E;cases an<;>simp only at s
      obtain⟨aM,bv,bw,bx⟩:=s;refine⟨_,run_beginRound bv bw,?_⟩;refine wpIn_mono (ay 0 true (some (d.size+1)) ah _ _ _ _ _ h U (λd=>by cases d) bx u) ?_;intro aZ aH a0 bz;obtain⟨D,M,av,rfl,ab,aU,O⟩:=bz;cases aZ<;>simp only at O
      ·obtain⟨ac,aC,aD⟩:=O;exact⟨_,_,run_endRound aC,_,rfl,_,_,rfl,aD⟩
      ·obtain⟨ac,aC,aD⟩:=O;exact⟨_,_,run_endRound aC,_,rfl,_,_,rfl,aD⟩
      ·obtain⟨ac,aC,aD⟩:=O;exact⟨_,_,run_endRound aC,_,rfl,_,_,rfl,aD⟩
     obtain⟨bA,bB,bC,bF⟩:=e aA rfl rfl aL.symm (λx R ap aW aX=>bp (lC a3 x) ((Yg a3 x).trans aL) R ap aW aX);obtain⟨nx,bG,rfl⟩:=Mt bC;have aE:=bG (y.at ((d.push (.deferred (some []))).push (.loop aA)) n);rw[Sem.run_bind] at aE;have bH:(resolve a.eval (rangeCall f (d.size+1)) 0)=Deferred.ofValue (a.eval f) #[.func (.yield (d.size+1)) #[] #[]]:=by simp[resolve,Act.eval]
     cases hd:(Deferred.ofValue (a.eval f) #[.func (.yield (d.size+1)) #[] #[]]).run P (y.at ((d.push (.deferred (some []))).push (.loop aA)) n) with
     |halt S w=>rw[hd] at aE;cases aE
     |ok V aG=>
      rw[hd] at aE;have ar:aG=y.at ((d.push (.deferred (some []))).push (.loop aA)) n:=by cases aI:a.eval f<;>rw[aI] at hd<;>simp[Deferred.ofValue] at hd<;>first|exact hd.2.symm|(cases hd)
      subst ar;refine⟨d.size+1,[kZ d.size],_,V,_,bA,bB,_,AE5,by rw[bH];exact hd,λ_ _=>trivial,aE,λau=>by simp at au,XJ.2 (Calls.mono (bF n) ?_)⟩;rintro bX bY ⟨v,rfl,M,av,rfl,a5,bI,bJ,a6⟩;have aY:Fits N {a with defers:= [kZ d.size]++a.defers} {get:=k.get,ds:=d.size::k.ds}:=⟨o.size,o.get,by simp[o.ds]⟩;refine⟨a5.pending,_,run_endLoop bI bJ,?_⟩;generalize M.setIfInBounds (d.size+1) (.loop {a5 with state:= .exhausted})=bZ at a6 ⊢;rcases a6 with⟨E,bK⟩|⟨aV,E,a7⟩
      ·rw[E];exact⟨_,_,_,rfl,aY,⟨λ_ _=>rfl,λd=>by simp[GU] at d⟩,bK⟩
      ·rw[E];cases aV with
       |none=>exact wpIn_ret ⟨_,_,_,rfl,aY,⟨λ_ _=>rfl,λd=>by simp[GU] at d⟩,a7⟩
       |some i=>exact wpIn_exit ⟨_,_,_,rfl,aY,⟨λ_ _=>rfl,λd=>by simp[GU] at d⟩,a7⟩
    ·exact e.elim
   |_=>simp only[F7] at e
  |scope b=>
   intro m C A G k d q kb r a n Y e o;cases b with
   |seq bL bM=>
    cases bM with
    |seq c S=>
     cases S with
     |seq z V=>
      cases z with
      |label l=>
       cases G with
       |scope L al b0 J ah=>
        simp only[F7] at e;split at e
        ·rename_i H;simp only[A3] at H;obtain⟨⟨bO,bP⟩,H,bQ,bR,bS⟩:=H;have bT:=T bL (by simp at Z;omega);have bU:=T c (by simp at Z;omega);have bV:=T V (by simp at Z;omega);exact AJN bT bU bV Y bO bP H bQ bR bS e o
        ·exact e.elim
       |_=>simp only[F7] at e
      |_=>simp only[F7] at e
     |_=>simp only[F7] at e
    |_=>simp only[F7] at e
   |_=>simp only[F7] at e
theorem AKB {P:Q1}{b:ak}{N:Nat}(k:P.follows .mixedOrders=true)(c:Code)(m:Nat)(d:Bool)(e:Option Nat)(j:cn)(f:Env)(g:aa)(h:Env->aa->Prop)(kb:j4->Env->aa->Prop)(i:Env->aa->Prop)(a:Act)(n:Nat)
  (l:d=false->e=none) (o:F7 b P N d c j f g h kb i) (p:Fits N a f):c.wpIn (Fw e) m P (dE b N (writes c) (GU c) a h kb i) a (b.at g n):=
 AIp k (SizeOf.sizeOf c+1) c (Hj _) m d e j f g h kb i a n l o p
def lD(P:Q1):List ResultVar->Env->aa->(List J0->Prop)->Prop
 | [],_,_,K=>K []
 | .tmp t::d,b,c,K=>match b.get t with|some v=>lD P d b c λe=>K (v::e)|none=>False
 | .cell a t::d,b,c,K=>match b.get a with
  |some v=>(match v with| .pointer p=>At p λad=>loadT P t c ad λv _=>lD P d b c λe=>K (v::e)|_=>False)
  |none=>False
def oneOf(a:List J0)(K:J0->Prop):Prop:=match a with| [v]=>K v|a=>K (.tuple a.toArray)
def w9(P:Q1)(l:List ResultVar)(a:Env)(b:aa)(K:J0->Prop):Prop:=lD P l a b λc=>oneOf c K
def qX:List Nat->aa->(aa->Prop)->Prop
 | [],a,K=>K a
 |r::b,a,K=>a[r]? =some (.deferred (some []))/\qX b (a.setIfInBounds r (.deferred none)) K
def mP:Nat->List J0->Nat->Option J0
 |_,[],_=>none
 |i,v::a,t=>bif Nat.beq t i then some v else mP (i+1) a t
def qY(P:Q1)(fn:Func)(c:A2H)(a:Env)(d:aa):Prop:=qX a.ds d λb=>w9 P fn.results.toList a b λv=>c v b
def qZ(A:ak)(P:Q1)(f:Q8)(b:cn)(args:List J0)(d:aa)(a:A2H):Prop:=
 match P.funcs[f]? with
 |none=>False
 |some fn=>match fn.body with
  |none=>False
  |some c=>match Nat.ble args.length fn.ntmps with
   |true=>F7 A P fn.ntmps false c b {get:=mP 0 args,ds:= []} d (qY P fn a) (λ_ _ _=>False) (qY P fn a)
   |false=>False
theorem wc: ∀ {l:List J0} {i t:Nat} {v:J0},mP i l t=some v->i<=t/\l[t-i]? =some v
 | [],_,_,_,a=>by cases a
 |u::e,i,t,v,a=>by
  unfold mP at a;by_cases b:t=i
  ·subst b;have c:Nat.beq t t=true:=by simp
   rw[c,cond_true] at a;exact⟨A0 _,by simpa using a⟩
  ·rw[UX b,cond_false] at a;obtain⟨f,d⟩:=wc a;refine⟨by omega,?_⟩;have:t-i=(t-(i+1))+1:=by omega
   rw[this,Wb];exact d
section
variable {P : Q1} {A : ak}
def oO(tmps:Array J0):ResultVar->Sem J0
 | .tmp t=>pure (tmps.getD t undef)
 | .cell x t=>do loadVar t (<- asAddr (tmps.getD x undef))
theorem AK1(fn:Func)(tmps:Array J0):results fn tmps=(do let a <-fn.results.mapM (oO tmps);pure (if b:a.size=1 then a[0] else .tuple a)):=rfl
theorem Rx {N:Nat}{a:Act}{j:Env}(d:Fits N a j){e:aa}{n:Nat}: ∀ {l:List ResultVar} {K:List J0->Prop},lD P l j e K->
  ∃c,(l.mapM (oO a.tmps)).run P (A.at e n)= .ok c (A.at e n)/\K c
 | [],K,b=>⟨[],rfl,b⟩
 | .tmp t::k,K,b=>by
  unfold lD at b;split at b
  ·rename_i v f;obtain⟨c,g,h⟩:=Rx (n:=n) d b;refine⟨v::c,?_,h⟩;have i:a.tmps.getD t undef=v:=by have:=d.get t v f;simp[this]
   rw[P0];simp only[Sem.run_bind,Sem.run_pure,Result.andThen_ok,oO,g,i]
  ·exact b.elim
 | .cell x t::k,K,b=>by
  unfold lD at b;split at b
  ·rename_i v f;split at b
   ·rename_i p;obtain⟨ad,rfl,m⟩:=At.mk b;obtain⟨u,st,o,q,h⟩:=uV (A:=A) m;obtain⟨c,g,r⟩:=Rx (n:=n) d h;refine⟨u::c,?_,r⟩;have i:a.tmps.getD x undef= .pointer (some ad):=by have:=d.get x _ f;simp[this]
    rw[P0];simp only[Sem.run_bind,Sem.run_pure,Result.andThen_ok,oO,i,asAddr,o e q n,g]
   ·exact b.elim
  ·exact b.elim
theorem ALA {N:Nat}{a:Act}{e:Env}(f:Fits N a e){fn:Func}{c:aa}{n:Nat}{K:J0->Prop}(b:w9 P fn.results.toList e c K):
  ∃v,(results fn a.tmps).run P (A.at c n)= .ok v (A.at c n)/\K v:=by
 obtain⟨d,g,b⟩:=Rx (A:=A) f (n:=n) b;have h:(results fn a.tmps).run P (A.at c n)= .ok (if i:d.toArray.size=1 then d.toArray[0] else .tuple d.toArray) (A.at c n):=by rw[AK1,UP];simp only[Sem.run_bind,Sem.run_map,g,Result.andThen_ok,Sem.run_pure]
 refine⟨_,h,?_⟩
 match d,b with
 | [],b=>exact b
 | [v],b=>exact b
 |u::v::j,b=>simpa [oneOf] using b
theorem we {fn:Func}{tmps:Array J0}{d:Ending->World->Prop}{K:aa->Prop}(e: ∀a b,K a->LeavesInM (Fw none) 0 P fn tmps d [] .returning (A.at a b)):
  ∀(l:List Nat) (a:aa) (b:Nat),qX l a K->LeavesInM (Fw none) 0 P fn tmps d (l.map kZ) .returning (A.at a b)
 | [],a,b,c=>e a b c
 |r::f,a,b,⟨g,c⟩=>by
  refine⟨by simp,.inl ⟨r,_,rfl,run_takeDeferred (w:=A.at a b) g,?_⟩⟩;exact we e f _ b c
theorem AHH(s:P.follows .mixedOrders=true){f:Q8}{m:cn}{args:List J0}{j:aa}{e:A2H}(b:qZ A P f m args j e):
  AA A P f args.toArray j e:=by
 intro n;unfold qZ at b;split at b
 ·exact b.elim
 ·rename_i fn u;split at b
  ·exact b.elim
  ·rename_i c w;split at b
   ·rename_i o;have o:=US o;refine XJ.1 (callsIn_of_wp_marks (F:=Fw none) (n:=0) u w trivial ?_);have x:Fits fn.ntmps {tmps:=args.toArray++Array.replicate (fn.ntmps-args.toArray.size) undef,defers:= []} {get:=mP 0 args,ds:= []}:=by refine⟨by simp;omega,λt v k=>?_,rfl⟩;obtain⟨_,g⟩:=wc k;have y:t<args.length:=(List.getElem?_eq_some_iff.1 (by simpa using g)).1;rw[ID (by simpa using y)];simpa using g
    refine wpIn_mono (AKB s c 0 false none m _ j _ _ _ _ n (λ_=>rfl) b x) ?_;intro z a H B;obtain⟨h,d,i,rfl,p,_,l⟩:=B;have q:qY P fn e h d->LeavesInM (Fw none) 0 P fn a.tmps (λh C=> ∃v,h= .returned v/\ ∃d i,C=A.at d i/\e v d) a.defers .returning (A.at d i):=by intro D;rw[p.ds];refine we ?_ h.ds d i D;intro g r E;obtain⟨v,k,G⟩:=ALA (A:=A) p (n:=r) E;exact⟨v,k,v,rfl,g,r,rfl,G⟩
    cases z<;>simp only at l
    ·exact q l
    ·exact q l
   ·exact b.elim
end
def Gn(c:IntKind)(a b:Int):Int:=c.wrap ((BitVec.ofInt c.bits a &&& BitVec.ofInt c.bits b).toNat:Int)
def eF(c:IntKind)(a b:Int):Int:=c.wrap ((BitVec.ofInt c.bits a ||| BitVec.ofInt c.bits b).toNat:Int)
def gz(c:IntKind)(a b:Int):Int:=c.wrap ((BitVec.ofInt c.bits a ^^^ BitVec.ofInt c.bits b).toNat:Int)
end Go.Lf
namespace Go.Lf.G
noncomputable abbrev P:Q1:=Go.Proofs.Tryz.prog
def IW:Q8:=7
def KA:Q8:=9
def EP:Q8:=10
def RA:Q8:=11
def Gi:Q8:=12
def EL:Q8:=13
def GG:Q8:=14
def Ka:Q8:=15
def F5:Q8:=17
def KE:Q8:=18
def Mh:Q8:=19
def Dc:Q8:=20
def QF:Q8:=21
def Gf:Q8:=22
def OA:Q8:=26
def LM:Q8:=30
def KR:Q8:=31
def Me:Q8:=33
def Cw:Q8:=34
def Cq:Q8:=35
def GJ:Q8:=36
def Kh:Q8:=37
def Xm:Q8:=38
def F9:Q8:=39
def Eb:Q8:=40
def FE:Q8:=41
def FV:Q8:=42
def Dq:Q8:=43
def Fa:Q8:=44
def QL:Q8:=45
def VN:Q8:=46
def CP:Q8:=47
def Li:Q8:=48
def Na:Q8:=49
def Gx:Q8:=50
def EJ:Q8:=51
def LX:Q8:=52
def Im:Q8:=53
def Ot:Q8:=54
def Mc:Q8:=55
def Dm:Q8:=56
def IP:Q8:=57
def G7:Q8:=58
def JO:Q8:=59
def KP:Q8:=60
def Aw:Q8:=61
def IG:Q8:=62
def Bg:Q8:=63
def Lg:Q8:=64
def IL:Q8:=65
def Kr:Q8:=66
def GH:Q8:=67
def La:Q8:=68
def RU:Q8:=69
def Er:Q8:=75
def BR:Q8:=76
def Sm:Q8:=79
def Fx:Q8:=80
def GD:Q8:=81
def Hr:Q8:=82
def JP:Q8:=83
def DT:Q8:=84
def G5:Q8:=85
def LY:Q8:=86
def Pj:Q8:=87
def Pb:Q8:=88
def DU:Q8:=89
def N9:Q8:=90
def LU:Q8:=91
def QP:Q8:=92
def Fb:Q8:=93
def Lj:Q8:=94
def OG:Q8:=95
def Sz:Q8:=96
def Em:Q8:=97
def Bf:Q8:=98
def Af:Q8:=99
def CV:Q8:=100
def PK:Q8:=101
def OV:Q8:=102
def QO:Q8:=103
def KD:Q8:=104
def Gc:Q8:=105
def JY:Q8:=106
def JJ:Q8:=107
def Px:Q8:=108
def QM:Q8:=109
def P7:Q8:=110
def Od:Q8:=111
def PQ:Q8:=112
def VE:Q8:=113
def Fe:Q8:=118
def K9:Q8:=122
def OP:Q8:=123
def P9:Q8:=124
def Gs:Q8:=125
def Ht:Q8:=126
def Uc:Q8:=127
def SI:Q8:=128
def Ry:Q8:=129
def Qn:Q8:=130
def JV:Q8:=131
def OT:Q8:=132
def JA:Q8:=133
def G9:Q8:=134
def Qa:Q8:=135
def KT:Q8:=136
def PO:Q8:=137
def Jq:Q8:=138
def SV:Q8:=139
def KM:Q8:=140
def PU:Q8:=141
def Cm:Q8:=142
def Jf:Q8:=143
def II:Q8:=144
def Pw:Q8:=145
def JC:Q8:=146
def GI:Q8:=147
def Gt:Q8:=148
def SH:Q8:=149
def KH:Q8:=150
def Dy:Q8:=151
def DW:Q8:=152
def Dj:Q8:=153
def MW:Q8:=154
def AGo:Q8:=155
def AEt:Q8:=156
def Sj:Q8:=157
def Gw:Q8:=158
def KU:Q8:=159
def OZ:Q8:=160
def Nh:Q8:=161
def LG:Q8:=162
def Jm:Q8:=163
def UE:Q8:=164
def Co:Q8:=165
def LV:Q8:=166
def KS:Q8:=167
def PI:Q8:=168
def JN:Q8:=175
def LH:Q8:=176
def Kc:Q8:=177
def Le:Q8:=178
def PS:Q8:=179
def KL:Q8:=180
def QB:Q8:=181
def GM:Q8:=182
def Sw:Q8:=183
def Ld:Q8:=184
def VC:Q8:=185
def Ex:Q8:=186
def Ia:Q8:=187
def DL:Q8:=188
def Kb:Q8:=189
def JI:Q8:=190
def Gv:Q8:=191
def Qi:Q8:=192
def DC:Q8:=193
def Il:Q8:=199
def SY:Q8:=200
def Nz:Q8:=201
def BM:Q8:=202
def DF:Q8:=203
def KJ:Q8:=204
def Jd:Q8:=205
def Jp:Q8:=206
def Sg:Q8:=218
def JG:Q8:=219
def Qv:Q8:=220
def LA:Q8:=222
def JB:Q8:=225
def QK:Q8:=226
def Iy:Q8:=227
def DD:Q8:=228
def QR:Q8:=230
def EX:Q8:=231
def Fj:Q8:=232
def Gr:Q8:=233
def I8:Q8:=234
def QN:Q8:=235
def Nl:Q8:=242
def Nw:Q8:=243
def Dr:Q8:=248
def Gm:Q8:=250
def Dg:Q8:=257
def OO:Q8:=258
def OW:Q8:=259
def DX:Q8:=285
def t_:Q7:=0
def Bp:Q7:=3
def rp:Q7:=4
def EE:Q7:=5
def BD:Q7:=9
def Ba:Q7:=27
def Cz:Q7:=29
def AQ:Q7:=33
def BZ:Q7:=36
def AR:Q7:=44
def SA:Q7:=51
def DK:Q7:=53
def Gq:Q7:=55
def FP:Q7:=57
def Md:Q7:=60
def CX:Q7:=66
def DN:Q7:=69
def HY:Q7:=85
def Cj:Q7:=86
def Gg:Q7:=88
def Ao:Q7:=96
def Bb:Q7:=102
def rq:Q7:=104
def Ct:Q7:=106
def H7:Q7:=110
def N7:Q7:=111
def LK:Q7:=112
def CB:Q7:=114
def DJ:Q7:=116
def Mm:Q7:=124
def Zf:Q7:=140
def Fz:Q7:=142
def Ey:Q7:=143
def OH:Q7:=145
def wG:Q7:=165
def Pe:Q7:=167
def Cn:Q7:=171
def AEe:Q7:=189
def Au:Q7:=190
def FW:Q7:=192
def Br:Q7:=195
def NR:Q7:=203
def rr:Q7:=215
def Us:Q7:=220
def BJ:Q7:=231
def Ml:Q7:=240
def A9:Q7:=243
def Wn:Q7:=246
def ru:Q7:=277
def EA:Q7:=279
def Rv:Q7:=281
def wH:Q7:=283
def Mg:Q7:=285
def oR:Q7:=293
def Je:Q7:=298
def Ei:Q7:=343
def UR:Q7:=384
def Ej:Q7:=386
def FR:Q7:=388
theorem mixed:P.follows .mixedOrders=true:=by decide +kernel
end Go.Lf.G
