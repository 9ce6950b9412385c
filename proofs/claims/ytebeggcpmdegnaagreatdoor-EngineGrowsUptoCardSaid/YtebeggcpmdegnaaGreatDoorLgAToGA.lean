/-
 LIFT, part A: worlds as heaps beside a fixed rest; one operation's outcome at the level of values; a region that draws its order, walked in the text's order.
-/
import Derived.WalkKit
import Derived.OrdersIn
import Derived.RangeFuncIn
import Derived.RangeFuncLeaves
import Derived.RangeFuncCalls
import Derived.TacticsInMore
import Derived.RangeFuncRecord
import Derived.Test.YtebeggcpmdegnaaGreatDoorProg
import Derived.Laws.FloatArith
import Derived.MapKept
import Derived.Maps.Own
import Derived.Lib.Bytealg
import Derived.Sort.KeysCollected
import Derived.StringKeys
import Derived.Laws.BytesString
import Derived.Laws.BytesArg
import Derived.Laws.StructEq
import Derived.ChangeKeysEq
set_option maxRecDepth 100000
set_option linter.unusedVariables false
set_option linter.unusedSimpArgs false
set_option linter.defProp false
set_option linter.unnecessarySimpa false
open Go.IntKind renaming i64→D,wrap→J8
open Go.Value renaming string→J7,int→J6,pointer→J5,slice→J4,bool→J3,tuple→J1
open Go.Obj renaming cells→J2
open Go renaming Value→J0,Addr→Q6,TypeId→Q7,FuncId→Q8,Program→Q1
open Go.Addr renaming add→Q9,mk→Q5
open Option renaming some→Z,none→V
open Bool renaming true→Y,false→U
open List renaming length→J
namespace Go.Lf
abbrev Q2:=Option Q6
instance:CoeFun Q6 λ_=>Nat->Q6:=⟨Q9⟩
instance:CoeFun IntKind λ_=>Int->J0:=⟨J6⟩
abbrev E:=ByteArray
abbrev A0:=@if_neg
abbrev A1:=@if_pos
abbrev A2:=@Nat.le_refl
abbrev A3:=@List.getElem?_eq_getElem
abbrev A4:=@absurd
abbrev A5:=@of_decide_eq_true
abbrev A6:=@List.length_append
abbrev An:=@decide_eq_false
abbrev As:=@Bool.and_eq_true
abbrev Ax:=@List.getElem?_eq_some_iff
abbrev AD:=@Int.toNat_natCast
abbrev AE:=@Nat.zero_le
abbrev AF:=@Nat.le_trans
abbrev AG:=@List.append_assoc
abbrev AH:=@of_decide_eq_false
abbrev AI:=@List.mem_of_getElem?
abbrev AK:=@List.append_nil
abbrev AM:=@List.mem_singleton
abbrev AN:=@List.mem_append
abbrev AS:=@if_true
abbrev AT:=@List.mem_cons
abbrev AW:=@List.length_cons
abbrev B8:=@decide_eq_true_eq
abbrev B9:=@Nat.zero_add
abbrev Bk:=@List.mem_map
abbrev Bm:=@List.take_of_length_le
abbrev Bs:=@decide_eq_true
abbrev By:=@List.pairwise_cons
abbrev BE:=@List.take_add_one
abbrev BT:=@List.length_take
abbrev BW:=@Nat.mod_eq_of_lt
abbrev BY:=@Bool.false_eq_true
abbrev Cd:=@if_false
abbrev Cl:=@List.filter_cons
abbrev Cp:=@Decidable.byContradiction
abbrev CA:=@List.take_length
abbrev CC:=@List.flatMap_cons
abbrev CD:=@Option.some.inj
abbrev CH:=@List.getElem?_of_mem
abbrev CI:=@Nat.lt_of_lt_of_le
abbrev CM:=@List.getElem_mem
abbrev CN:=@List.mem_cons_of_mem
abbrev CT:=@Nat.mul_one
abbrev Dd:=@Option.some.injEq
abbrev Ds:=@List.nil_append
abbrev DA:=@Bool.true_and
abbrev DB:=@Nat.mod_lt
abbrev DE:=@Nat.add_mul
abbrev DG:=@Nat.mul_le_mul_right
abbrev DH:=@List.map_cons
abbrev DM:=@List.drop_eq_getElem_cons
abbrev DO:=@List.cons_append
abbrev DP:=@List.all_eq_true
abbrev DQ:=@Option.toList_some
abbrev DS:=@List.find?_cons
abbrev E0:=@List.map_map
abbrev Ek:=@Iff.rfl
abbrev F0:=@List.drop_length
abbrev Fc:=@List.mem_of_mem_take
abbrev Fk:=@List.take_append_drop
abbrev Fl:=@List.getElem?_drop
abbrev Fm:=@List.mem_filter
abbrev Fo:=@List.getElem_of_mem
abbrev Ft:=@Bool.eq_iff_iff
abbrev FA:=@decide_eq_decide
abbrev FF:=@Option.bind_some
abbrev FG:=@List.mem_cons_self
abbrev G0:=@List.map_append
abbrev G3:=@Bool.false_and
abbrev G4:=@List.mem_append_left
abbrev Ge:=@List.length_map
abbrev Gk:=@Bool.or_eq_true
abbrev GB:=@List.pairwise_map
abbrev GC:=@List.drop_zero
abbrev GF:=@Nat.add_zero
abbrev GO:=@Nat.pow_succ
abbrev GP:=@Array.toList_setIfInBounds
abbrev GS:=@Bool.not_eq_true'
abbrev GW:=@Bool.false_or
abbrev Hb:=@List.findIdx?_eq_some_iff_getElem
abbrev Hc:=@List.filterMap_cons
abbrev Hh:=@Nat.min_eq_left
abbrev Hi:=@Option.bind_eq_some_iff
abbrev Hj:=@List.find?_eq_none
abbrev Hk:=@Option.map_eq_some_iff
abbrev Hn:=@List.length_pos_iff
abbrev Hv:=@List.length_singleton
abbrev HA:=@List.filterMap_append
abbrev HC:=@Option.getD_some
abbrev HD:=@List.getElem?_take
abbrev HE:=@Array.toList_inj
abbrev HG:=@List.eq_nil_of_length_eq_zero
abbrev HI:=@Array.getElem?_eq_getElem
abbrev HJ:=@List.getElem?_map
abbrev HL:=@List.mem_range
abbrev HM:=@List.map_congr_left
abbrev HN:=@Array.getElem?_setIfInBounds_ne
abbrev HQ:=@List.findIdx?_eq_none_iff
abbrev HS:=@List.length_eq_zero_iff
abbrev HT:=@Bool.eq_false_iff
abbrev HU:=@Nat.le_add_right
abbrev HW:=@List.mem_append_right
abbrev HX:=@Nat.le_succ
abbrev I0:=@Bool.or_true
abbrev I2:=@UInt8.lt_iff_toNat_lt
abbrev I3:=@Nat.pow_add
abbrev Is:=@List.filter_eq_self
abbrev It:=@Function.comp_def
abbrev Iv:=@List.length_filterMap_le
abbrev Ix:=@List.take_succ_eq_append_getElem
abbrev ID:=@List.drop_drop
abbrev IF:=@Nat.zero_mul
abbrev IH:=@List.getElem?_set_self
abbrev IN:=@List.length_nil
abbrev IS:=@Array.getElem?_eq_some_iff
abbrev IT:=@List.length_set
abbrev Jx:=@Nat.mul_comm
abbrev JT:=@List.getElem?_append_left
abbrev Kd:=@Int.le_refl
abbrev Kp:=@List.getElem?_cons_zero
abbrev Ks:=@List.filter_append
abbrev Kx:=@List.nodup_cons
abbrev KB:=@List.length_drop
abbrev KK:=@Nat.add_assoc
abbrev Lk:=@List.set_getElem_self
abbrev Ln:=@List.pairwise_iff_getElem
abbrev Lo:=@List.filter_sublist
abbrev Lq:=@List.set_append_right
abbrev Ly:=@List.flatMap_append
abbrev Lz:=@List.getElem?_append_right
abbrev LI:=@List.drop_succ_cons
abbrev LL:=@Nat.lt_or_ge
abbrev LN:=@Nat.lt_trichotomy
abbrev LO:=@List.take_succ_cons
abbrev LR:=@List.foldl_cons
abbrev LS:=@List.cons.injEq
abbrev Mb:=@Nat.sub_zero
abbrev Mn:=@Nat.mul_assoc
abbrev My:=@Int.mul_assoc
abbrev Mz:=@Int.pow_add
abbrev MA:=@Nat.two_pow_pos
abbrev MD:=@List.nodup_iff_pairwise_ne
abbrev MT:=@List.filter_congr
abbrev MY:=@List.mem_of_find?_eq_some
abbrev N3:=@List.Perm.refl
abbrev N4:=@Nat.eq_of_beq_eq_true
abbrev N5:=@Bool.true_or
abbrev Nd:=@List.countP_le_length
abbrev No:=@List.countP_append
abbrev Nx:=@List.countP_singleton
abbrev NO:=@List.append_eq_nil_iff
abbrev NX:=@Decidable.not_not
abbrev Of:=@List.getElem?_set_ne
abbrev On:=@List.take_take
abbrev OF:=@Option.none_or
abbrev OK:=@List.filter_nil
abbrev ON:=@Option.toList_none
abbrev OR:=@Array.getElem?_modify
abbrev OS:=@Array.length_toList
abbrev P0:=@List.mem_of_mem_drop
abbrev P2:=@List.foldl_append
abbrev P3:=@List.sum_cons
abbrev P4:=@Option.map_some
abbrev Pa:=@Bool.or_eq_false_iff
abbrev Pc:=@List.append_cancel_left
abbrev PA:=@Array.toList_modify
abbrev PB:=@List.take_append
abbrev PC:=@List.drop_of_length_le
abbrev PF:=@Option.isSome_map
abbrev PJ:=@Nat.xor_lt_two_pow
abbrev R0:=@Bool.not_true
abbrev R1:=@List.getElem?_eq_none
abbrev R2:=@List.find?_nil
abbrev Rg:=@List.mem_filterMap
abbrev Rr:=@List.takeWhile_cons
abbrev RC:=@List.getElem?_toArray
abbrev RE:=@List.toList_toArray
abbrev RM:=@Nat.lt_or_gt_of_ne
abbrev RR:=@Nat.add_sub_cancel
abbrev RT:=@List.foldl_nil
abbrev RW:=@List.all_cons
abbrev S7:=@ByteArray.data_append
abbrev Se:=@ByteArray.size_append
abbrev Sf:=@Nat.or_lt_two_pow
abbrev Sh:=@Nat.one_mul
abbrev Sp:=@UInt8.lt_irrefl
abbrev Ss:=@Array.ext'
abbrev SD:=@true_and
abbrev SJ:=@List.take_zero
abbrev SM:=@Nat.log2_lt
abbrev SO:=@Nat.shiftLeft_zero
abbrev SP:=@List.getElem_inj
abbrev SU:=@List.nodup_nil
abbrev SW:=@List.length_replicate
abbrev SZ:=@List.singleton_append
abbrev T3:=@List.tail_cons
abbrev T4:=@List.set_set
abbrev T6:=@List.drop_take
abbrev Tl:=@Nat.min_eq_right
abbrev To:=@List.ne_nil_of_length_pos
abbrev Tr:=@List.length_eq_one_iff
abbrev Ts:=@Option.ne_none_iff_exists'
abbrev TO:=@List.getElem?_append
abbrev TX:=@List.find?_append
abbrev Up:=@Option.or_none
abbrev UP:=@List.map_nil
abbrev V0:=@List.mem_reverse
abbrev Vc:=@Nat.sub_self
abbrev Wa:=@List.mapM_cons
abbrev Wb:=@Nat.lt_succ_self
abbrev Wc:=@List.mem_flatMap
abbrev Wf:=@List.drop_append
abbrev Wg:=@Array.size_setIfInBounds
abbrev Wk:=@List.map_set
abbrev Wr:=@List.set_cons_succ
abbrev WD:=@List.pairwise_append
abbrev Xs:=@List.findSome?_eq_none_iff
abbrev XS:=@ByteArray.ext_iff
abbrev Ys:=@Prod.mk.injEq
abbrev ZD:=@UInt8.toNat_ofNat'
abbrev ZS:=@Nat.pow_le_pow_right
abbrev A00:=@Array.toList_append
abbrev A02:=@Nat.lt_of_le_of_lt
abbrev A03:=@List.isPrefixOf_iff_prefix
abbrev A04:=@Array.toList_push
abbrev A05:=@Option.isSome_iff_exists
abbrev A06:=@List.any_eq_false
abbrev A07:=@Int.add_zero
abbrev A08:=@Bool.or_false
abbrev A09:=@List.find?_some
abbrev A0a:=@List.append_of_mem
abbrev A0b:=@Nat.shiftLeft_eq
abbrev A0d:=@Int.natAbs_natCast
abbrev A0e:=@List.reverse_cons
abbrev A0f:=@ByteArray.ext
abbrev A0q:=@List.getElem?_replicate
abbrev A0t:=@List.reverse_singleton
abbrev A0v:=@List.exists_cons_of_ne_nil
abbrev A0z:=@List.mem_or_eq_of_mem_set
abbrev A0A:=@Nat.div_div_eq_div_mul
abbrev A0B:=@List.setIfInBounds_toArray
abbrev A0C:=@Array.mapM_eq_mapM_toList
abbrev A0D:=@Nat.le_of_ble_eq_true
abbrev A0F:=@List.takeWhile_sublist
abbrev A0K:=@List.drop_eq_nil_of_le
abbrev A0L:=@List.getElem?_eq_none_iff
abbrev A0P:=@List.set_eq_take_append_cons_drop
abbrev A0Q:=@List.getElem?_concat_length
abbrev A0R:=@List.pairwise_singleton
abbrev A0T:=@List.exists_of_findSome?_eq_some
abbrev A0U:=@Array.getElem?_toList
abbrev A0V:=@List.mem_of_mem_erase
abbrev A0Y:=@List.cons_lt_cons_iff
abbrev A10:=@Array.toList_eraseIdx
abbrev A1a:=@Array.getElem?_push_size
abbrev A1c:=@List.length_filter_le
abbrev A1f:=@List.length_eraseIdx_le
abbrev A1h:=@List.drop_append_of_le_length
abbrev A1i:=@List.filter_filterMap
abbrev A1n:=@Nat.mul_lt_mul_of_pos_right
abbrev A1s:=@List.take_append_of_le_length
abbrev A1t:=@ByteArray.data_extract
abbrev A1w:=@Nat.two_pow_add_eq_or_of_lt
abbrev A1A:=@Array.getElem?_append_left
abbrev A1C:=@List.getElem?_singleton
structure ai where
 tape:Nat->Question->Nat
 os:Os
 output:Array (Nat×E)
abbrev W:=Array Obj
abbrev A3V:=J0->W->Prop
def ai.at(a:ai)(b:W)(c:Nat):World:={heap:=b,tape:=a.tape,drawn:=c,os:=a.os,output:=a.output}
abbrev Fw(a:Option Nat):Fence:={fn:=λ_=>True,depth:=V,alive:=U,round:=a}
theorem yf(a:Option Nat)(b:Nat):(Fw a).room b:=λ_ c=>by simp at c
variable{b2:Option Nat}{b f:Nat}{T:Program}{c1:FuncId}{bi:Array Value}{bb:World}{fk:Ending->World->Prop}{c0 d7:Code}{e7:Value->World->Prop}{ca:Oper}{ew:Operand->Value}{be:Act}{c2:Exit->Act->World->Prop}{d:ai}{a:W}{e:A3V}{u bt:Value}{cc:Value->Prop}{c6:Prop}
def Zg:CallsIn (Fw b2) b T c1 bi bb fk↔Calls T c1 bi bb fk:=callsIn_wide
def nY(a:Q1)(b:Nat)(c:Q8)(d:Array J0)(e f:Code)(g:World)(h:J0->World->Prop):Prop:=RoundIn (Fw V) 0 a b c d e f g (λi j=>∃v,i=.returned v/\h v j)
def nY.mono{a:J0->World->Prop}(d:nY T b c1 bi c0 d7 bb e7)(e:∀v c,e7 v c->a v c):nY T b c1 bi c0 d7 bb a:=RoundIn.mono d λ_ _⟨v,g,h⟩=>⟨v,g,e _ _ h⟩
def ANj(a:RoundIn (Fw V) 0 T f c1 bi c0 d7 bb fk):RoundIn (Fw b2) b T f c1 bi c0 d7 bb fk:=⟨trivial,λc d _=>a.2 c d (yf V _)⟩
def Next.out(c:Q1)(b:J0->World->Prop):Result Next->Prop|.ok (.value v) a=>b v a|.ok .skip a=>b undef a|.ok (.enter f args) a=>Calls c f args a (λd e=>∃v,d=.returned v/\b v e)|.ok (.round l f tmps assign body) a=>nY c l f tmps assign body a b|_=>False
def EV(a:Q1)(b:Oper)(c:Operand->J0)(d:World)(e:J0->World->Prop):Prop:=Next.out a e ((execOp c b).run a d)
theorem NH{c:J0->World->Prop}(b:∀v w,e7 v w->c v w){x:Result Next}(a:Next.out T e7 x):Next.out T c x:=by cases x with|ok d w=>{cases d<;>simp only[Next.out]at a⊢<;>first|exact b _ _ a|exact Calls.mono a λ_ _⟨v,e,f⟩=>⟨v,e,b _ _ f⟩|exact nY.mono a b}|halt x w=>simp[Next.out]at a
def EV.mono{a:J0->World->Prop}(b:EV T ca ew bb e7)(c:∀v bb,e7 v bb->a v bb):EV T ca ew bb a:=NH c b
theorem Calls.some(c:Calls T c1 bi bb fk):∃a b,fk a b:=let⟨a,b,_,r,_⟩:=c [];⟨a,b,r⟩
theorem EV.some(a:EV T ca ew bb e7):∃v b,e7 v b:=by unfold EV at a;cases e:(execOp ew ca).run T bb with|ok g b=>rw[e]at a;cases g<;>simp only[Next.out]at a;(case value v=>exact⟨_,_,a⟩);(case skip=>exact⟨_,_,a⟩);(case enter f args=>obtain⟨h,c,v,_,d⟩:=Calls.some a;exact⟨v,c,d⟩);case round l f tmps assign body=>have⟨h,c,⟨v,_,d⟩,_⟩:=a.2 default [] (yf V _);exact⟨v,c,d⟩|halt g b=>rw[e]at a;simp[Next.out]at a
def Mv(a:Oper):Bool:=match a.op with|.defer _=>U|.select ..=>U|_=>Y
theorem EV.wpIn{m:Nat}{h:Act->World->Prop}(j:Mv ca=Y)(b:EV T ca be.eval bb λv d=>h (be.put ca.dst v) d):ca.wpIn (Fw b2) m T be bb h c2:=by refine⟨λ_ _=>trivial,?_⟩;rw[Oper.semAt_eq b2 be.eval ca (λc k=>by simp[Mv,k]at j)];unfold EV at b;generalize(execOp be.eval ca).run T bb=x at b;cases x with|ok i d=>cases i<;>simp only[Next.out]at b<;>simp only[Oper.uponIn];(case value v=>exact b);(case skip=>exact b);(case enter f args=>refine⟨λe=>by simp at e,Zg.2 (Calls.mono b ?_)⟩;rintro n p⟨v,rfl,g⟩;exact g);case round l f tmps assign body=>refine⟨λe=>by simp at e,ANj (RoundIn.mono b ?_)⟩;rintro n p⟨v,rfl,g⟩;exact g|halt i d=>simp[Next.out]at b
def jv(c:Q1)(a:ai)(d:Oper)(e:Operand->J0)(f:J0)(b:W):Prop:=∀n,(execOp e d).run c (a.at b n)=.ok (.value f) (a.at b n)
def un(b:Nat->Nat->Bool)(i a:Nat):Bool:=!(b (max i a) (min i a))
def Pb(a:Oper):Prop:=∀c b,a.op≠.select c b
def yg(a:Array Oper):Nat->Nat->Bool:=let b:=Region.before a;λi c=>(b.getD i 0).testBit c
def left(a:Nat)(b:Array Bool):List Nat:=(List.range a).filter λi=>!b.getD i U
theorem mem_left{a:Array Bool}{i:Nat}:i∈left b a↔i<b/\a.getD i U=false:=by simp[left]
theorem range_split{n i:Nat}(c:i<n):List.range n=List.range i++i::(List.range' (i+1) (n-i-1)):=by
 rw[List.range_eq_range',List.range_eq_range'];have a:List.range' 0 n=List.range' 0 i++List.range' i (n-i):=by have:=List.range'_append_1 (s:=0) (m:=i) (n:=n-i);rw[B9]at this;rw[this];congr 1;omega
 rw[a];congr 1;have b:n-i=(n-i-1)+1:=by omega
 rw[b,List.range'_succ];simp
theorem ANx{i:Nat}{a:Array Bool}(hi:i<b)(j:a.size=b)(g:a.getD i U=U):∃e f,left b a=e++i::f/\left b (a.setIfInBounds i Y)=e++f/\∀c∈e,c<i/\a.getD c U=false:=by refine⟨(List.range i).filter λc=>!a.getD c U,(List.range' (i+1) (b-i-1)).filter λc=>!a.getD c U,?_,?_,?_⟩;{unfold left;rw[range_split hi,Ks,Cl];simp only[g,Bool.not_false,AS]};{unfold left;have h:(a.setIfInBounds i Y).getD i U=true:=by{have:i<a.size:=by{omega};simp[this]};rw[range_split hi,Ks,Cl];simp only[h,R0,BY,Cd];congr 1;{refine MT λc d=>?_;have:=HL.1 d;rw[getD_set_ne U (by omega)]};refine MT λc d=>?_;have:=(List.mem_range'_1.1 d).1;rw[getD_set_ne U (by omega)]};intro c d;simp only[Fm,HL,GS]at d;exact d
def iz(d:Nat->Nat->Bool)(c:Array Bool):Prop:=∀a b,c.getD a U=Y->b<a->d a b=Y->c.getD b U=Y
theorem yh(a:Mv ca=Y):Pb ca:=λd b c=>by simp[Mv,c]at a
theorem AS2(a:Nat):left a (Array.replicate a U)=List.range a:=by unfold left;rw[Is];intro i _;by_cases b:i<a<;>simp[b]
def ah(b:W)(a:Q6):Option J0:=match b[a.block]? with|some (.cells c _ _)=>if a.spot.isSome then V else c[a.off]?|_=>V
def gV(b:W)(a:Q6):Bool:=match b[a.block]? with|some (.cells _ _ (lo,hi))=>lo<=a.off&&a.off<hi|_=>U
def cO(b:W)(a:Q6)(d:J0):W:=b.modify a.block λ|.cells c e frozen=>.cells (if a.spot.isSome then c else c.setIfInBounds a.off d) e frozen|o=>o
theorem AVb(c:ai)(a:W)(d:Nat)(b:Q6):(c.at a d).cell? b=ah a b:=rfl
theorem gf(a:ai)(b:W)(c:Nat)(d:Q6)(e:J0):(a.at b c).setCell d e=a.at (cO b d e) c:=rfl
def At(p:Q2)(b:Q6->Prop):Prop:=match p with|some a=>b a|none=>False
def cY(a:Bool)(b c:Prop):Prop:=match a with|true=>b|false=>c
def bU(a:W)(b:Obj)(c:Nat->W->Prop):Prop:=c a.size (a.push b)
def qg(a:W)(b:Q6)(c:J0->Prop):Prop:=∃v,ah a b=Z v/\c v
def JX(a:IntKind)(b:W)(c:Q6)(d:Int->Prop):Prop:=∃n,ah b c=Z (.int a n)/\d n
def jW(a:W)(c:Q6)(d:Bool->Prop):Prop:=∃b,ah a c=Z (.bool b)/\d b
def KI(a:W)(b:Q6)(c:E->Prop):Prop:=∃s,ah a b=Z (.string s)/\c s
def jX(a:W)(b:Q6)(c:Q2->Prop):Prop:=∃p,ah a b=Z (.pointer p)/\c p
structure Sl where
 p:Q2
 len:Nat
 cap:Nat
def Sl.v(a:Sl):J0:=.slice a.p a.len a.cap
def JM(a:W)(b:Q6)(c:Sl->Prop):Prop:=∃s:Sl,ah a b=Z (.slice s.p s.len s.cap)/\c s
def tr(a:W)(b:Q6)(c:Option Nat->Prop):Prop:=∃r,ah a b=Z (.map r)/\c r
def aj(a:W)(b:Q6)(c:J0)(d:W->Prop):Prop:=(∃u,ah a b=Z u)/\gV a b=U/\d (cO a b c)
def iT(p:Q2)(b:Nat)(i:Int)(c:Q6->Prop):Prop:=∃a,p=Z a/\(0<=i/\i<b)/\c a
def dw(a b:Prop):Prop:=a/\b
def fO{a:Type}(c:a->W->Prop)(d:(a->W->Prop)->Prop):Prop:=∀K:a->W->Prop,(∀x b,c x b->K x b)->d K
def Loop{a:Type}(c:(a->W->Prop)->a->W->Prop)(x:a)(b:W):Prop:=∀K:a->W->Prop,(∀x b,c K x b->K x b)->K x b
def Eo(a:ai)(c:Q1)(m:Sem J0)(d:W)(e:A3V):Prop:=∀n,∃v b f,m.run c (a.at d n)=.ok v (a.at b f)/\e v b
def AJ(a:ai)(c:Q1)(d:Q8)(e:Array J0)(f:W)(g:A3V):Prop:=∀n,Calls c d e (a.at f n) λh i=>∃v,h=.returned v/\∃b j,i=a.at b j/\g v b
def AJ.mono{b:A3V}(c:AJ d T c1 bi a e)(g:∀v a,e v a->b v a):AJ d T c1 bi a b:=λn=>Calls.mono (c n) λ_ _⟨v,i,j,k,l,m⟩=>⟨v,i,j,k,l,g _ _ m⟩
def I9(a:ai)(b:Q1)(e:J0)(f:Array J0)(g:W)(h:A3V):Prop:=∀n,Next.out b (λv i=>∃c j,i=a.at c j/\h v c) ((do let d<-Deferred.ofValue e f;invoke d.target d.args:Sem Next).run b (a.at g n))
def yu(a:ai)(b:Q1)(d:J0)(e:String)(f:Array J0)(g:W)(h:A3V):Prop:=∀n,Next.out b (λv i=>∃c j,i=a.at c j/\h v c) ((callMethod d e f:Sem Next).run b (a.at g n))
def I9.mono{b:A3V}(c:I9 d T u bi a e)(f:∀v a,e v a->b v a):I9 d T u bi a b:=λn=>NH (λ_ _⟨g,i,j,k⟩=>⟨g,i,j,f _ _ k⟩) (c n)
theorem XB(c:b≠f):Nat.beq b f=false:=by grind[Nat.beq,absurd,Nat.eq_of_beq_eq_true]
structure Env where
 get:Nat->Option J0
 ds:List Nat
def mF(a:Nat):Deferred:={target:=.collected a,args:=#[]}
structure Fits (f5:Nat) (a:Act) (e:Env):Prop where
 size:a.tmps.size=f5
 get: ∀t v,e.get t=Z v->a.tmps[t]? =Z v
 ds:a.defers=e.ds.map mF
def Env.set(a:Env)(b:Nat)(c:J0):Env:={get:=λt=>bif Nat.beq t b then Z c else a.get t,ds:=a.ds}
def Env.put(b:Env)(a:Option Tmp)(c:J0):Env:=match a with|none=>b|some a=>b.set a c
def qh(b:Nat)(a:Option Tmp):Bool:=match a with|none=>Y|some a=>Nat.blt a b
variable{bw:Env}
theorem Fits.set(g:Fits b be bw)(i:f<b):Fits b (be.put (Z f) bt) (bw.set f bt):=by refine⟨by simp[Act.put,g.size],?_,g.ds⟩;intro t u c;unfold Env.set at c;simp only at c;by_cases h:t=f;{subst h;have:Nat.beq t t=true:=by{simp};rw[this]at c;simp[cond_true,Dd]at c;subst c;simp[Act.put,g.size,i]};have:=XB h;rw[this]at c;simp[cond_false]at c;have:=g.get t u c;simp[Act.put];rw[HN (Ne.symm h)];exact this
theorem Fits.put(d:Fits b be bw){c:Option Tmp}(f:qh b c=Y):Fits b (be.put c u) (bw.put c u):=by cases c with|none=>exact d|some c=>exact d.set (by simpa[qh]using f)
theorem Fits.sX(g:Fits b be bw)(i:be.tmps[f]?=Z bt):Fits b be (bw.set f bt):=by refine⟨g.size,?_,g.ds⟩;intro t u c;unfold Env.set at c;simp only at c;by_cases h:t=f;{simp_all};have:Nat.beq t f=false:=XB h;rw[this]at c;exact g.get t u c
def rdv(a:Env)(x:Operand):Option J0:=match x with|.tmp t=>a.get t|.const v=>Z v|.global g=>Z (.pointer (Z ⟨g,0,V⟩))|.func f=>Z (.func (.func f) #[] #[])
theorem Fits.rdv(d:Fits b be bw){x:Operand}(c:rdv bw x=Z bt):be.eval x=bt:=by cases x with|tmp t=>have:=d.get t bt c;simp[Act.eval];simp[this]|const u=>simpa[Lf.rdv,Act.eval]using c|global g=>simpa[Lf.rdv,Act.eval]using c|func f=>simpa[Lf.rdv,Act.eval]using c
def rd(a:Env)(x:Operand)(b:J0->Prop):Prop:=match rdv a x with|some v=>b v|none=>False
theorem Bv(f:Fits b be bw){x:Operand}(c:rd bw x cc):cc (be.eval x):=by unfold rd at c;cases d:rdv bw x with|none=>rw[d]at c;exact c.elim|some v=>rw[d]at c;rw[f.rdv d];exact c
def ρof(a:Env)(x:Operand):J0:=match rdv a x with|some v=>v|none=>undef
def known(a:Env)(c:List Operand)(b:Prop):Prop:=match c with|[]=>b|x::r=>(match rdv a x with|some _=>known a r b|none=>False)
theorem LB(g:Fits b be bw):∀{l:List Operand},known bw l c6->(∀x∈l,ρof bw x=be.eval x)/\c6|[],c=>⟨λ_ c=>(by cases c),c⟩|x::r,c=>by unfold known at c;cases d:rdv bw x with|none=>simp_all|some v=>rw[d]at c;obtain⟨h,i⟩:=LB g c;refine⟨λj f=>?_,i⟩;rcases AT.1 f with rfl|f;{unfold ρof;rw[d,g.rdv d]};exact h j f
end Go.Lf
namespace Go
open Lf
def Sem.calc{b:Type}(c:Q1):Sem b->Option b|.pure a=>Z a|.program f=>(f c).calc c|_=>V
end Go
namespace Go.Lf
variable{ao:Type}{T:Program}
theorem EM{c:Sem ao}:∀{a:ao},c.calc T=Z a->∀w,c.run T w=.ok a w:=by induction c with|pure a=>simp_all[Sem.calc,Dd]|program f d=>intro b e w;exact d T e w|_=>simp_all[Sem.calc]
def UA{b:Type}(c:Q1)(d:Sem b)(e:b->Prop):Prop:=match d.calc c with|some a=>e a|none=>False
theorem QE{b:Sem ao}{c:ao->Prop}(d:UA T b c):∃a,(∀w,b.run T w=.ok a w)/\c a:=by grind[UA,EM]
def QF:J0->Bool|.agg _|.tuple _=>U|_=>Y
end Go.Lf
namespace Go
open Lf
def Sem.vc{g:Type}(d:Q1):Sem g->W->(g->W->Prop)->Prop|.pure a,c,K=>K a c|.program f,c,K=>(f d).vc d c K|.new h f,c,K=>bU c h λb e=>(f b).vc d e K|.load _ a f,c,K=>qg c a λv=>(f v).vc d c K|.store _ a v f,c,K=>(match QF v with|true=>aj c a v λe=>f.vc d e K|false=>False)|.mark _ f,c,K=>f.vc d c K|_,_,_=>False
end Go
namespace Go.Lf
variable{ao:Type}{d:ai}{T:Program}{a4:Addr}{u bt:Value}{a:W}{b:Nat}
theorem yw{m:Mode}{c:Sem ao}(e:QF u=Y)(f:ah a a4=Z bt)(g:gV a a4=U):(Sem.store m a4 u c).run T (d.at a b)=c.run T (d.at (cO a a4 u) b):=by have i:(d.at a b).cell? a4=Z bt:=f;have j:(d.at a b).frozen? a4=false:=g;cases u<;>first|(simp[QF]at e;done)|(simp[Sem.run,i,j,gf])
theorem ASr{h:Sem ao}:∀{e:W}{K:ao->W->Prop},h.vc T e K->∀n,∃v i j,h.run T (d.at e n)=.ok v (d.at i j)/\K v i:=by induction h with|pure a=>intro e K b n;exact⟨a,e,n,rfl,b⟩|program f g=>intro e K b n;exact g T b n|mark m f g=>intro e K b n;exact g b n|new k f g=>intro e K b n;exact g _ b n|load m a f g=>intro e K b n;obtain⟨v,o,b⟩:=b;simp_all[Sem.run,AVb]|store m a v f g=>{intro e K b n;unfold Sem.vc at b;cases l:QF v with|false=>simp_all|true=>rw[l]at b;obtain⟨⟨u,p⟩,q,b⟩:=b;simp_all[yw]}|shape r f _=>intro e K b;exact b.elim|freeze a n f _=>intro e K b;exact b.elim|frozen a f _=>intro e K b;exact b.elim|getObj r f _=>intro e K b;exact b.elim|setObj r k f _=>intro e K b;exact b.elim|choose s f _=>intro e K b;exact b.elim|sys c f _=>intro e K b;exact b.elim|halt x=>intro e K b;exact b.elim
inductive Sc where
 |int (k:IntKind)|bool|str|ptr|sl|map|any
def Sc.Ty:Sc->Type|.int _=>Int|.bool=>Bool|.str=>E|.ptr=>Q2|.sl=>Sl|.map=>Option Nat|.any=>J0
def Sc.val:(s:Sc)->s.Ty->J0|.int a,(n:Int)=>.int a n|.bool,(b:Bool)=>.bool b|.str,(s:E)=>.string s|.ptr,(p:Q2)=>.pointer p|.sl,(s:Sl)=>.slice s.p s.len s.cap|.map,(r:Option Nat)=>.map r|.any,(v:J0)=>v
def Sc.load(a:W)(b:Q6):(s:Sc)->(s.Ty->Prop)->Prop|.int c,K=>JX c a b K|.bool,K=>jW a b K|.str,K=>KI a b K|.ptr,K=>jX a b K|.sl,K=>JM a b K|.map,K=>tr a b K|.any,K=>qg a b K
theorem Vp:∀{s:Sc}{K:s.Ty->Prop},s.load a a4 K->∃x,ah a a4=Z (s.val x)/\K x|.int _,_,b=>b|.bool,_,b=>b|.str,_,b=>b|.ptr,_,b=>b|.sl,_,b=>b|.map,_,b=>b|.any,_,b=>b
def tt(a:W)(b:Q6):Nat->List Sc->(List J0->Prop)->Prop|_,[],K=>K []|i,s::l,K=>s.load a (b.add i) λx=>tt a b (i+1) l λc=>K (s.val x::c)
def tu:List Sc->(List J0->Prop)->Prop|[],K=>K []|s::l,K=>∃x:s.Ty,tu l λa=>K (s.val x::a)
theorem yx:∀{l:List Sc}{K:List J0->Prop},tu l K->∃b,K b|[],_,a=>⟨[],a⟩|_::_,_,⟨_,a⟩=>let⟨b,c⟩:=yx a;⟨_,c⟩
def lj(a:Q1):Nat->Q7->List Sc|0,_=>[]|d+1,t=>match a.underlying t with|some .bool=>[.bool]|some (.int b)=>[.int b]|some .string=>[.str]|some (.pointer _)=>[.ptr]|some (.slice _)=>[.sl]|some (.map _ _)=>[.map]|some (.struct c)=>c.toList.flatMap λf=>lj a d f.type|some (.array n e)=>(List.replicate n (lj a d e)).flatten|_=>[.any]
def Zt(a:Q1)(b:Q7):Bool:=match a.underlying b with|some (.struct _)=>Y|some (.array _ _)=>Y|_=>U
mutual
def qi(a:Q1):Nat->Q7->(J0->Prop)->Prop
 |0,_,K=> ∃v,K v
 |d+1,t,K=>
  match a.underlying t with
  |some (.tuple ts)=>qj a d ts.toList λb=>K (.tuple b.toArray)
  |_=>match Zt a t with
   |true=>tu (lj a 20 t) λb=>K (.agg b.toArray)
   |false=>match lj a 20 t with
    | [s]=> ∃x:s.Ty,K (s.val x)
    |_=>False
def qj(a:Q1):Nat->List Q7->(List J0->Prop)->Prop
 |_,[],K=>K []
 |0,_::_,_=>False
 |d+1,t::ts,K=>qi a d t λu=>qj a d ts λb=>K (u::b)
end
theorem ATU(c:Q1):∀b,(∀(t:Q7)(K:J0->Prop),qi c b t K->∃v,K v)/\(∀(ts:List Q7)(K:List J0->Prop),qj c b ts K->∃d,K d):=by intro b;induction b with|zero=>{refine⟨λt K a=>a,λts K a=>?_⟩;cases ts with|nil=>exact⟨[],a⟩|cons t ts=>exact a.elim}|succ b f=>refine⟨λt K a=>?_,λts K a=>?_⟩;{unfold qi at a;split at a;{grind};split at a;{exact let⟨g,e⟩:=yx a;⟨_,e⟩};grind};cases ts with|nil=>exact⟨[],a⟩|cons t ts=>grind[qj]
def WC(a:Q1)(b:Q7)(c:J0)(d:J0->Prop):Prop:=qi a 8 b λu=>c=u/\d u
variable{T:Program}{x bd bs e8:TypeId}{bt u eq:Value}{cc:Value->Prop}{e3:Addr->Prop}{es:Sem Value}{bb ep:World}{cq c7:Operand}{b f o y:Nat}{be d8:Act}{bw:Env}{ca:Oper}{ek:BinOp}{ap e2:Bool}{p:Nat->Prop}{ci:IntKind}{i ar bo:Int}{c6 et:Prop}{eu e9:Option Value}{bi:Array Value}{a k a1:W}{a4:Addr}{b3:List Value}{d:ai}{b8:Array Oper}{cp:Oper->Bool}{ce:Nat->Nat->Bool}{b0 dv:List Nat}{b2:Option Nat}{c2:Exit->Act->World->Prop}{ew:Operand->Value}{e:A3V}{bf:W->Prop}{ej:Env->W->Prop}{e4:Act->W->Prop}{ez:Fence}{c0 d7:Code}{c8:Obj}{fg:Func}{fk:Ending->World->Prop}{c1:FuncId}{bu:Nat×Nat}{c3:Nat->W->Prop}{ao er:Type}{j:Sl}{ec:Sl->W->Prop}{h a3 d9:E}{el:Array MapEntry}{cw:List E}{a5 ch:List UInt8}{dl:UInt8}
theorem Ps(a:WC T x bt cc):cc bt:=by obtain⟨u,rfl,a⟩:=(ATU T 8).1 _ _ a;exact a
def bK(a b:E):Bool:=a.toList==b.toList
def aQ(a b:E):Bool:=Op.bytesLess a.toList b.toList
def dK(a:E)(i:Int):Int:=((a[i.toNat]?).getD 0).toNat
def Yd(b:Q1)(c:Q7)(a:Operand):Bool:=match b.underlying c with|some (.pointer _)=>(match a with|.const (.pointer V)=>Y|_=>U)|some (.slice _)=>(match a with|.const (.slice V 0 0)=>Y|_=>U)|some (.map _ _)=>(match a with|.const (.map V)=>Y|_=>U)|some (.func _ _ _)=>(match a with|.const .nilFunc=>Y|_=>U)|some (.interface _)=>(match a with|.const .nilIface=>Y|_=>U)|_=>U
def lq:J0->Prop|.func ..=>True|.nilFunc=>True|_=>False
def lx:J0->Bool|.nilFunc=>Y|_=>U
def og:J0->Prop|.iface ..=>True|.nilIface=>True|_=>False
def mG:J0->Bool|.nilIface=>Y|_=>U
def oh(c:Q1)(d:Q7)(a:J0)(b:Bool->Prop):Prop:=match c.underlying d with|some (.pointer _)=>(match a with|.pointer p=>b p.isNone|_=>False)|some (.slice _)=>(match a with|.slice p _ _=>b p.isNone|_=>False)|some (.map _ _)=>(match a with|.map r=>b r.isNone|_=>False)|some (.func _ _ _)=>dw (lq a) (b (lx a))|some (.interface _)=>dw (og a) (b (mG a))|_=>False
def ZU(b:BinOp)(a:Bool):J0:=match b with|.eql=>.bool a|_=>.bool !a
def tv(e:BinOp)(f g:J0)(d:J0->Prop):Prop:=match f,g with|.int c a,.int h b=>(match decide (c=h)with|true=>(match e with|.quo=>dw (b≠0) (d (.int c (c.wrap (a.tdiv b))))|.rem=>dw (b≠0) (d (.int c (a.tmod b)))|_=>False)|false=>False)|_,_=>False
def tw(e:BinOp)(f g:J0)(d:J0->Prop):Prop:=match f,g with|.int c a,.int _ b=>(match e with|.shl=>dw (0<=b) (d (.int c (c.wrap (a*2^(min b.toNat c.bits)))))|.shr=>dw (0<=b) (d (.int c (a.fdiv (2^(min b.toNat c.bits)))))|_=>False)|_,_=>False
def tx(c d:J0)(e:J0->Prop):Prop:=match c,d with|.string a,.string b=>dw (((a.size+b.size:Nat):Int)<=D.max) (e (.string (a++b)))|_,_=>False
inductive AX8 where
 |eZ|div|shift|cat|kN|kO|no
def isConst:Operand->Bool|.const _=>Y|_=>U
def Xr(a:Q1)(d:BinOp)(b:Q7)(x c:Operand):AX8:=match d with|.quo|.rem=>(match a.underlying b with|some (.int _)=>(match isConst c with|true=>.eZ|false=>.div)|_=>.no)|.shl|.shr=>(match isConst c with|true=>.eZ|false=>.shift)|.add=>(match a.underlying b with|some .string=>.cat|some (.int _)=>.eZ|_=>.no)|.eql|.neq=>(match a.underlying b with|some (.int _)=>.eZ|some .string=>.eZ|some .bool=>.eZ|some (.pointer _)|some (.slice _)|some (.map _ _)|some (.func _ _ _)|some (.interface _)=>(match Yd a b c with|true=>.kN|false=>match Yd a b x with|true=>.kO|false=>.no)|_=>.no)|_=>match a.underlying b with|some (.int _)=>.eZ|some .string=>.eZ|_=>.no
def tz(g:Q1)(a:BinOp)(f:Q7)(x h:Operand)(c d:J0)(e:J0->Prop):Prop:=match Xr g a f x h with|.eZ=>UA g (do eqGuard a f x h c d;binOp a f c d) e|.div=>tv a c d e|.shift=>tw a c d e|.cat=>tx c d e|.kN=>oh g f c λb=>e (ZU a b)|.kO=>oh g f d λb=>e (ZU a b)|.no=>False
def tA(b:Q1)(g:Q7)(e i:J0)(f:J0->Prop):Prop:=match b.underlying g with|some (.slice c)=>(match e,i,b.info? c with|.slice p len _,.int _ n,Z d=>iT p len n λa=>f (.pointer (Z (a.add (n.toNat*d.size))))|_,_,_=>False)|some (.array len c)=>(match e,i,b.info? c with|.pointer p,.int _ n,Z d=>At p λa=>dw (0<=n/\n<(len:Int)) (f (.pointer (Z (a.add (n.toNat*d.size)))))|_,_,_=>False)|_=>False
def tB(a:Q1)(b:Q7)(c i:J0)(d:J0->Prop):Prop:=match a.underlying b with|some .string=>(match c,i with|.string s,.int _ n=>dw (0<=n/\n<(s.size:Int)) (d (.int .u8 (dK s n)))|_,_=>False)|some (.array _ _)=>UA a (Instr.index b c i) d|_=>False
def iA(x:Option J0)(b max:Nat)(a:Nat->Prop):Prop:=match x with|some (.int _ n)=>dw (0<=n/\n<=(max:Int)) (a n.toNat)|none=>a b|_=>False
def BC(p:Q2)(b a c:Nat):Q2:=if b=a then p else p.map (·.add (a*c))
def tC(c:Q1)(i:Q7)(d:J0)(lo hi:Option J0)(e:J0->Prop):Prop:=match c.underlying i with|some .string=>(match d with|.string s=>iA hi s.size s.size λb=>iA lo 0 b λl=>e (.string (s.extract l b))|_=>False)|some (.slice f)=>(match d,c.info? f with|.slice p len g,Z h=>iA hi len g λb=>iA lo 0 b λl=>e (.slice (BC p g l h.size) (b-l) (g-l))|_,_=>False)|some (.array n f)=>(match d,c.info? f with|.pointer p,Z h=>At p λa=>iA hi n n λb=>iA lo 0 b λl=>e (.slice (Z (if n=l then a else a.add (l*h.size))) (b-l) (n-l))|_,_=>False)|_=>False
def tD(c:Q1)(d:Q7)(e:J0)(lo hi:Option J0)(f:J0)(g:J0->Prop):Prop:=match c.underlying d with|some (.slice h)=>(match e,c.info? h,hi,f with|.slice p _ i,Z j,Z (.int _ b),.int _ a=>dw (0<=a/\a<=(i:Int)) (dw (0<=b/\b<=(a.toNat:Int)) (iA lo 0 b.toNat λl=>g (.slice (BC p a.toNat l j.size) (b.toNat-l) (a.toNat-l))))|_,_,_,_=>False)|_=>False
def tE(c:Bool)(d e:Option J0)(a:J0->Prop):Prop:=match d,e with|some (.bool x),Z (.bool b)=>a (.bool (cond c x b))|some x,Z b=>cY c (a x) (a b)|some x,V=>cY c (a x) False|none,Z b=>cY c False (a b)|none,V=>False
def yz(b:J0)(c:J0->Prop):Prop:=match b with|.pointer p=>At p λa=>c (.pointer (Z a))|_=>False
def ox(b:Env)(x:Option Operand)(a:Option J0->Prop):Prop:=match x with|none=>a V|some x=>rd b x λv=>a (Z v)
def qk(a:Bool)(b:Prop):Prop:=match a with|true=>b|false=>False
def oy(c:Q1)(d:Q7)(a:J0)(b:Array J0->Prop):Prop:=match Zt c d with|true=>b a.cells|false=>qk (QF a) (b #[a])
theorem ANz(a:QF u=Y):u.cells=#[u]:=by cases u<;>first|rfl|(simp[QF]at a)
theorem Um{c:Array J0->Prop}(a:oy T x u c):c u.cells:=by unfold oy at a;split at a;{exact a};cases b:QF u with|false=>rw[b]at a;exact a.elim|true=>rw[b]at a;rw[ANz b];exact a
def mH(d:Nat->Option (Nat×Nat))(a:Array J0):List (Nat×Array J0)->Option (Array J0)|[]=>Z a|(i,b)::rest=>match d i with|none=>V|some (off,e)=>if b.size≠e||off+b.size>a.size then V else mH d (b.zipIdx.foldl (λf(c,g)=>f.setIfInBounds (off+g) c) a) rest
theorem ql(a:Nat->Option (Nat×Nat)):∀(l:List (Nat×J0))(cells:Array J0),Instr.fill a cells l=mH a cells (l.map λp=>(p.1,p.2.cells))|[],cells=>rfl|(i,v)::rest,cells=>by simp[Instr.fill,DH,mH];cases a i with|none=>rfl|some p=>simp[];split<;>first|rfl|exact ql a rest _
def AXx(b:Q1)(c:Q7)(i:Nat):Option Q7:=match b.underlying c with|some (.struct d)=>(d[i]?).map (·.type)|some (.array _ a)=>Z a|some (.slice a)=>Z a|_=>V
def oA(a:Q1)(b:Q7)(c:Env):List (Nat×Operand)->(List (Nat×Array J0)->Prop)->Prop|[],K=>K []|(i,x)::r,K=>match AXx a b i with|some ft=>rd c x λv=>oy a ft v λd=>oA a b c r λl=>K ((i,d)::l)|none=>False
def placesOf(a:Q1):List Field->Option (List (Nat×Nat))|[]=>Z []|f::r=>match a.info? f.type with|some i=>(match placesOf a r with|some l=>Z ((f.offset,i.size)::l)|none=>V)|none=>V
def tF(a:Q1)(b:Q7)(c:List (Nat×Array J0)):Option (Array J0):=match a.info? b with|some i=>(match i.zero with|some d=>(match a.underlying b with|some (.struct f)=>(match placesOf a f.toList with|some l=>mH (l.toArray[·]?) d.cells c|none=>V)|some (.array _ g)=>(match a.info? g with|some e=>mH (λh=>Z (h*e.size,e.size)) d.cells c|none=>V)|_=>V)|none=>V)|none=>V
def AXP(a:Q1)(b:Q7)(c:Array (Nat×Operand))(d:Env)(e:J0->Prop):Prop:=oA a b d c.toList λl=>match tF a b l with|some cells=>e (.agg cells)|none=>False
def qm(f:Q1)(g:Oper)(d:Env)(e:J0->Prop):Prop:=match g.op with|.nilCheck x=>rd d x λv=>yz v e|.binOp op t x j _=>rd d x λv=>rd d j λu=>tz f op t x j v u e|.indexAddr t x i=>rd d x λv=>rd d i λu=>tA f t v u e|.index t x i=>rd d x λv=>rd d i λu=>tB f t v u e|.slice t x lo hi k=>(match k with|none=>rd d x λv=>ox d lo λl=>ox d hi λh=>tC f t v l h e|some m=>rd d x λv=>ox d lo λl=>ox d hi λh=>rd d m λn=>tD f t v l h n e)|.pick c a b=>(rd d c λv=>match v with|.bool c=>tE c (rdv d a) (rdv d b) e|_=>False)|.build t o=>AXP f t o d e|.fieldAddr t x i=>(rd d x λv=>match v with|.pointer p=>At p λa=>UA f (Instr.fieldAt t (.pointer (Z a)) i) e|_=>False)|_=>known d g.op.operands.toList (UA f (execOp (ρof d) g) λx=>match x with|.value v=>e v|_=>False)
theorem VZ{p:Q2}(b:At p e3):∃a,p=Z a/\e3 a:=by cases p with|none=>exact b.elim|some a=>exact⟨a,rfl,b⟩
theorem ly(a:es.run T bb=.ok u ep):(do pure (.value (<-es)):Sem Next).run T bb=.ok (.value u) ep:=by rw[Sem.run_bind,a];rfl
theorem AY5{a:Sem Unit}(b:a.run T bb=.ok () ep):(do a;pure .skip:Sem Next).run T bb=.ok .skip ep:=by rw[Sem.run_bind,b];rfl
theorem CB{a:TypeDesc}(b:T.underlying x=Z a):(underlying x).run T bb=.ok a bb:=run_underlying b bb
theorem yA{i:TypeInfo}(a:T.info? x=Z i):(typeInfo x).run T bb=.ok i bb:=by simp[typeInfo,a]
theorem run_sizeOf{i:TypeInfo}(a:T.info? x=Z i):(sizeOf x).run T bb=.ok i.size bb:=by simp[sizeOf,yA a]
def XN(a:Q1)(b:Q7):Option J0:=match a.underlying b with|some (.pointer _)=>Z (.pointer V)|some (.slice _)=>Z (.slice V 0 0)|some (.map _ _)=>Z (.map V)|some (.func _ _ _)=>Z .nilFunc|some (.interface _)=>Z .nilIface|_=>V
theorem yB(a:Yd T x cq=Y):∃u,cq=.const u/\XN T x=Z u:=by unfold Yd at a;unfold XN;grind
theorem AI8(g:Nat){h:Bool->Prop}(c:oh T x u h)(d:XN T x=Z bt):∃b,(∀w,(Op.equalIn (g+1) x u bt).run T w=.ok b w)/\(∀w,(Op.equalIn (g+1) x bt u).run T w=.ok b w)/\h b:=by unfold oh at c;unfold XN at d;cases e:T.underlying x with|none=>simp_all|some j=>rw[e]at c d;(cases j<;>simp only[]at c d<;>try exact c.elim);(case pointer i=>simp[Dd]at d;subst d;(cases u<;>simp only[]at c<;>try exact c.elim);case pointer p=>refine⟨_,λw=>by cases p<;>simp[Op.equalIn,CB e],λw=>by cases p<;>simp[Op.equalIn,CB e],c⟩);(case slice i=>simp[Dd]at d;subst d;(cases u<;>simp only[]at c<;>try exact c.elim);case slice p a b=>refine⟨_,λw=>by cases p<;>simp[Op.equalIn,CB e],λw=>by cases p<;>simp[Op.equalIn,CB e],c⟩);(case map k i=>simp[Dd]at d;subst d;(cases u<;>simp only[]at c<;>try exact c.elim);case map p=>refine⟨_,λw=>by cases p<;>simp[Op.equalIn,CB e],λw=>by cases p<;>simp[Op.equalIn,CB e],c⟩);(case func ps l m=>simp[Dd]at d;subst d;obtain⟨f,c⟩:=c;cases u<;>simp only[lq]at f;{refine⟨_,λw=>?_,λw=>?_,c⟩<;>simp[Op.equalIn,CB e,lx]};simp_all[Op.equalIn,CB,lx]);case interface n=>simp[Dd]at d;subst d;obtain⟨f,c⟩:=c;cases u<;>simp only[og]at f;{refine⟨_,λw=>?_,λw=>?_,c⟩<;>simp[Op.equalIn,CB e,mG]};simp_all[Op.equalIn,CB,mG]
def PR(a:Q1)(b:Sem J0)(c:J0->Prop):Prop:=∃v,(∀w,b.run a w=.ok v w)/\c v
theorem AHe(d:Fits b be bw)(f:Pb ca)(g:known bw ca.op.operands.toList (UA T (execOp (ρof bw) ca) λx=>match x with|.value v=>cc v|_=>False)):∃v,(∀w,(execOp be.eval ca).run T w=.ok (.value v) w)/\cc v:=by obtain⟨h,i⟩:=LB d g;obtain⟨x,c,j⟩:=QE i;rw[execOp_congr ca f (λx c=>h x (by simpa using c))]at c;grind
theorem AQg{x:Operand}(f:ek=.quo\/ek=.rem)(c:tv ek u bt cc):PR T (do eqGuard ek bd x cq u bt;binOp ek bd u bt) cc:=by
 unfold tv at c;cases u<;>cases bt<;>simp only[]at c<;>try exact c.elim
 rename_i g a h b;by_cases e:g=h;{subst e;rcases f with rfl|rfl;{simp[decide_true]at c;obtain⟨d,c⟩:=c;exact⟨_,λw=>by simp[eqGuard,binOp,Op.intDiv,d],c⟩};simp[decide_true]at c;obtain⟨d,c⟩:=c;exact⟨_,λw=>by simp[eqGuard,binOp,Op.intDiv,d],c⟩};rw[An e]at c;exact c.elim
theorem AUh{x:Operand}(c:ek=.shl\/ek=.shr)(a:tw ek u bt cc):PR T (do eqGuard ek bd x cq u bt;binOp ek bd u bt) cc:=by
 unfold tw at a;cases u<;>cases bt<;>simp only[]at a<;>try exact a.elim
 rcases c with rfl|rfl;{simp[]at a;have⟨b,a⟩:=a;exact⟨_,λw=>by simp[eqGuard,binOp,Op.shift,Int.not_lt.2 b],a⟩};simp[]at a;obtain⟨b,a⟩:=a;exact⟨_,λw=>by simp[eqGuard,binOp,Op.shift,Int.not_lt.2 b],a⟩
theorem ARD{x:Operand}(a:tx u bt cc):PR T (do eqGuard .add bd x cq u bt;binOp .add bd u bt) cc:=by
 unfold tx at a;cases u<;>cases bt<;>simp only[]at a<;>try exact a.elim
 have⟨b,a⟩:=a;refine⟨_,λw=>?_,a⟩;simp_all[Int.not_lt,eqGuard,binOp,Op.stringOp,A0]
def zH{a:Bool->Prop}(c:oh T x u a)(d:XN T x=Z bt):∃b,(∀w,(Op.equal x u bt).run T w=.ok b w)/\(∀w,(Op.equal x bt u).run T w=.ok b w)/\a b:=AI8 9999 c d
theorem binOp_eql(d:ek=.eql\/ek=.neq)(e:XN T x=Z bt)(a:(Op.equal x u bt).run T bb=.ok ap bb):(binOp ek x u bt).run T bb=.ok (ZU ek ap) bb/\True:=by
 have c:bt=.pointer V\/bt=.slice V 0 0\/bt=.map V\/bt=.nilFunc\/bt=.nilIface:=by grind[XN]
 refine⟨?_,trivial⟩;rcases d with rfl|rfl;{rcases c with rfl|rfl|rfl|rfl|rfl<;>cases u<;>simp[binOp,a,ZU]};rcases c with rfl|rfl|rfl|rfl|rfl<;>cases u<;>simp[binOp,a,ZU]
theorem AM6(d:ek=.eql\/ek=.neq)(e:XN T x=Z bt)(a:(Op.equal x bt u).run T bb=.ok ap bb):(binOp ek x bt u).run T bb=.ok (ZU ek ap) bb/\True:=by
 have c:bt=.pointer V\/bt=.slice V 0 0\/bt=.map V\/bt=.nilFunc\/bt=.nilIface:=by grind[XN]
 refine⟨?_,trivial⟩;rcases d with rfl|rfl;{rcases c with rfl|rfl|rfl|rfl|rfl<;>cases u<;>simp[binOp,a,ZU]};rcases c with rfl|rfl|rfl|rfl|rfl<;>cases u<;>simp[binOp,a,ZU]
theorem zI{x:Operand}(a:ek=.eql\/ek=.neq)(e:XN T bd=Z bt)(b:(∃c,x=.const c)\/(∃c,cq=.const c)):(eqGuard ek bd x cq u bt).run T bb=.ok () bb/\(eqGuard ek bd x cq bt u).run T bb=.ok () bb:=by
 have d:bt=.pointer V\/bt=.slice V 0 0\/bt=.map V\/bt=.nilFunc\/bt=.nilIface:=by grind[XN]
 rcases a with rfl|rfl<;>rcases b with⟨c,rfl⟩|⟨c,rfl⟩<;>rcases d with rfl|rfl|rfl|rfl|rfl<;>cases u<;>exact⟨by simp[eqGuard],by simp[eqGuard]⟩
theorem ARK{x:Operand}(i:∀c,x=.const c->u=c)(j:∀c,cq=.const c->bt=c)(a:tz T ek bd x cq u bt cc):PR T (do eqGuard ek bd x cq u bt;binOp ek bd u bt) cc:=by unfold tz at a;cases d:Xr T ek bd x cq with|eZ=>rw[d]at a;exact QE a|no=>rw[d]at a;exact a.elim|div=>rw[d]at a;refine AQg ?_ a;unfold Xr at d;grind|shift=>rw[d]at a;refine AUh ?_ a;unfold Xr at d;grind|cat=>rw[d]at a;have:ek=.add:=by{unfold Xr at d;grind};subst this;exact ARD a|kN=>rw[d]at a;have e:(ek=.eql\/ek=.neq)/\Yd T bd cq=true:=by{unfold Xr at d;grind};obtain⟨e,f⟩:=e;obtain⟨c,k,g⟩:=yB f;obtain⟨b,l,_,h⟩:=zH a g;refine⟨ZU ek b,λw=>?_,h⟩;simp_all[Sem.run_bind,zI,binOp_eql]|kO=>rw[d]at a;have e:(ek=.eql\/ek=.neq)/\Yd T bd x=true:=by{unfold Xr at d;grind};obtain⟨e,f⟩:=e;obtain⟨c,m,g⟩:=yB f;obtain⟨b,_,n,h⟩:=zH a g;refine⟨ZU ek b,λw=>?_,h⟩;simp_all[Sem.run_bind,zI,AM6]
theorem AG0{i:J0}(b:tA T x u i cc):PR T (Instr.indexAt x u i) cc:=by unfold tA at b;split at b;{rename_i h d;split at b;{rename_i p len c j n k e;obtain⟨a,rfl,⟨f,g⟩,b⟩:=b;refine⟨_,λw=>?_,b⟩;simp[Instr.indexAt,asIntOf,CB d,run_sizeOf e,f,g]};exact b.elim};{rename_i len h d;split at b;{rename_i p j n k e;obtain⟨a,rfl,b⟩:=VZ b;have⟨⟨f,g⟩,b⟩:=b;refine⟨_,λw=>?_,b⟩;simp[Instr.indexAt,asIntOf,CB d,run_sizeOf e,f,g,Instr.sureAddr]};exact b.elim};exact b.elim
theorem ALh{i:J0}(a:tB T x u i cc):PR T (Instr.index x u i) cc:=by unfold tB at a;split at a;{rename_i b;split at a;{rename_i s c n;obtain⟨⟨d,e⟩,a⟩:=a;refine⟨_,λw=>?_,a⟩;simp_all[Instr.index,asIntOf,CB,dK]};exact a.elim};{exact QE a};exact a.elim
theorem YF{x:Option J0}{max:Nat}(a:iA x b max p):(x=V/\p b)\/∃c n,x=Z (.int c n)/\0<=n/\n<=(max:Int)/\p n.toNat:=by unfold iA at a;split at a;{rename_i c n;obtain⟨⟨e,f⟩,a⟩:=a;grind};{exact .inl ⟨rfl,a⟩};exact a.elim
theorem run_sliceBound{c:BoundsCode}(d:0<=i)(e:i<=(b:Int))(a:World):(Instr.sliceBound (.int ci i) b c).run T a=.ok i.toNat a:=by simp[Instr.sliceBound,asIntOf,d,e]
theorem Qb{P:Q1}{b:Bool}{lo hi:Option J0}{h:Nat->Nat->Prop}(k:iA hi f o λd=>iA lo 0 d λl=>h l d):∃l d,(∀w,(Instr.sliceBounds b f o lo hi V).run P w=.ok (l,d,o) w)/\h l d:=by obtain⟨e,g⟩|⟨s,n,e,m,p,g⟩:=YF k;{obtain⟨c,a⟩|⟨q,r,c,i,j,a⟩:=YF g;{exact⟨_,_,λw=>by simp[Instr.sliceBounds,e,c],a⟩};exact⟨_,_,λw=>by simp[Instr.sliceBounds,e,c,run_sliceBound i j],a⟩};obtain⟨c,a⟩|⟨q,r,c,i,j,a⟩:=YF g;{exact⟨_,_,λw=>by simp[Instr.sliceBounds,e,c,run_sliceBound m p],a⟩};exact⟨_,_,λw=>by simp_all[Instr.sliceBounds,run_sliceBound],a⟩
theorem ALR{P:Q1}{lo hi:Option J0}(c:tC P x u lo hi cc):PR P (Instr.sliceAt x u lo hi V) cc:=by unfold tC at c;split at c;{rename_i d;split at c;{rename_i s;obtain⟨l,g,e,c⟩:=Qb (P:=P) (b:=U) c;refine⟨_,λw=>?_,c⟩;simp[Instr.sliceAt,Instr.slice,CB d,e]};exact c.elim};{rename_i h d;split at c;{rename_i p len k i f;obtain⟨l,g,e,c⟩:=Qb (P:=P) (b:=Y) c;refine⟨_,λw=>?_,c⟩;simp[Instr.sliceAt,Instr.slice,CB d,e,run_sizeOf f,BC]};exact c.elim};{rename_i n h d;split at c;{rename_i p i f;obtain⟨a,rfl,j⟩:=VZ c;have⟨l,g,e,c⟩:=Qb (P:=P) (b:=U) j;refine⟨_,λw=>?_,c⟩;simp[Instr.sliceAt,CB d,e,run_sizeOf f,Instr.sureAddr]};exact c.elim};exact c.elim
theorem AJv{lo hi:Option J0}(a:tD T x u lo hi bt cc):PR T (Instr.sliceAt x u lo hi (Z bt)) cc:=by unfold tD at a;split at a;{rename_i l d;split at a;{rename_i p len m n o q b r e;obtain⟨⟨f,g⟩,⟨h,i⟩,a⟩:=a;obtain⟨c,b⟩|⟨s,y,c,j,k,b⟩:=YF a;{refine⟨_,λw=>?_,b⟩;simp[Instr.sliceAt,Instr.slice,Instr.sliceBounds,CB d,run_sizeOf e,BC,c,run_sliceBound f g,run_sliceBound h i]};refine⟨_,λw=>?_,b⟩;simp[Instr.sliceAt,Instr.slice,Instr.sliceBounds,CB d,run_sizeOf e,BC,c,run_sliceBound f g,run_sliceBound h i,run_sliceBound j k]};exact a.elim};exact a.elim
theorem uE(a:cY ap c6 et):(ap=Y->c6)/\(ap=U->et):=by cases ap;{exact⟨λa=>(by cases a),λ_=>a⟩};exact⟨λ_=>a,λa=>by cases a⟩
theorem AM8(e:∀v,eu=Z v->u=v)(f:∀v,e9=Z v->bt=v)(d:tE ap eu e9 cc):cc (if ap then u else bt):=by unfold tE at d;split at d;{rename_i x g;rw[e _ rfl,f _ rfl];cases ap<;>exact d};{rename_i x g _;rw[e _ rfl,f _ rfl];cases ap<;>exact d};{rename_i x;rw[e _ rfl];cases ap;{exact d.elim};exact d};{rename_i g;rw[f _ rfl];cases ap;{exact d};exact d.elim};exact d.elim
theorem Uy(f:Fits b be bw){x:Option Operand}{c:Option J0->Prop}(d:ox bw x c):c (x.map be.eval):=by cases x with|none=>exact d|some x=>exact Bv f d
theorem Va{P:Q1}(d:Fits b be bw):∀{l:List (Nat×Operand)}{K:List (Nat×Array J0)->Prop},oA P bd bw l K->K (l.map λp=>(p.1,(be.eval p.2).cells))|[],K,c=>c|(i,x)::r,K,c=>by unfold oA at c;split at c;{have f:=Va (P:=P) d (Um (Bv d c));exact f};exact c.elim
theorem ADY{P:Q1}:∀(a:List Field),placesOf P a=a.mapM (λf=>(P.info? f.type).map λi=>(f.offset,i.size))|[]=>rfl|f::r=>by simp[placesOf,Wa,Option.bind_eq_bind,Option.pure_def,ADY (P:=P) r];grind
theorem AOL{b:Array (Nat×J0)}(a:tF T bd (b.toList.map λp=>(p.1,p.2.cells))=Z bi)(c:World):(Instr.build bd b).run T c=.ok (.agg bi) c:=by unfold tF at a;split at a;{rename_i j f;split at a;{rename_i g h;split at a;{rename_i k d;split at a;{rename_i l e;rw[<-ql]at a;rw[ADY]at e;have i:Instr.fill (λx=>l[x]?) g.cells b.toList=Z bi:=by{simpa using a};simp[Instr.build,run_underlying d,typeInfo,zeroValue,f,h,A0C,run_places c _ _ e,i]};cases a};{rename_i n m d;split at a;{simp_all[ql,Instr.build,run_underlying,sizeOf,typeInfo,zeroValue]};cases a};cases a};cases a};cases a
theorem AET(g:Fits f be bw)(q:Pb ca)(d:qm T ca bw cc):∃v,(∀w,(execOp be.eval ca).run T w=.ok (.value v) w)/\cc v:=by
 have lift:∀{s:Sem J0},PR T s cc->(execOp be.eval ca=do pure (.value (<-s)))->∃v,(∀w,(execOp be.eval ca).run T w=.ok (.value v) w)/\cc v:=by intro s⟨v,k,y⟩z;simp_all
 unfold qm at d;cases h:ca.op;case nilCheck x=>rw[h]at d;have d:=Bv g d;unfold yz at d;cases l:be.eval x<;>rw[l]at d<;>simp only[]at d;rename_i p;obtain⟨b,rfl,d⟩:=VZ d;exact⟨_,λw=>by simp[execOp,h,l],d⟩
 case binOp op t x r t'=>rw[h]at d;refine lift (ARK (λc j=>by subst j;rfl) (λc j=>by subst j;rfl) (Bv g (Bv g d))) ?_;simp[execOp,h]
 case indexAddr t x i=>rw[h]at d;refine lift (AG0 (Bv g (Bv g d))) ?_;simp[execOp,h]
 case index t x i=>rw[h]at d;refine lift (ALh (Bv g (Bv g d))) ?_;simp[execOp,h]
 case slice t x lo hi u=>rw[h]at d;cases u with|some m=>refine lift (AJv (Bv g (Uy g (Uy g (Bv g d))))) ?_;simp[execOp,h]|none=>refine lift (ALR (Uy g (Uy g (Bv g d)))) ?_;simp[execOp,h]
 case build t A=>rw[h]at d;have d:=Va g d;split at d;{rename_i cells j;refine⟨_,λw=>?_,d⟩;simp only[execOp,h];refine ly (AOL ?_ w);rw[<-j];congr 1;simp};exact d.elim
 case pick c x r=>rw[h]at d;have d:=Bv g d;cases j:be.eval c<;>rw[j]at d<;>simp only[]at d;rename_i b;exact⟨_,λw=>by simp[execOp,h,j,asBool],AM8 (λv k=>g.rdv k) (λv k=>g.rdv k) d⟩
 case fieldAddr t x i=>rw[h]at d;have d:=Bv g d;cases l:be.eval x<;>rw[l]at d<;>simp only[]at d;obtain⟨b,rfl,n⟩:=VZ d;unfold UA at n;split at n;{rename_i v j;exact⟨v,λw=>by simp_all[execOp,ly,EM],n⟩};exact n.elim
 all_goals(rw[h]at d;simp[]at d;rw[<-h]at d;exact AHe g q d)
def Rp(a:W)(b:Q6):Nat->List J0->Prop|_,[]=>True|i,[v]=>ah a (b.add i)=Z v|i,v::c=>ah a (b.add i)=Z v/\Rp a b (i+1) c
def loadT(a:Q1)(b:Q7)(e:W)(c:Q6)(f:J0->(W->Prop)->Prop):Prop:=match Zt a b with|true=>(match a.info? b with|some i=>(match Nat.beq (J (lj a 20 b)) i.size with|true=>tt e c 0 (lj a 20 b) λg=>f (.agg g.toArray) (λd=>Rp d c 0 g)|false=>False)|none=>False)|false=>match a.underlying b with|some _=>(match lj a 20 b with|[s]=>s.load e c λx=>f (s.val x) (λd=>ah d c=Z (s.val x))|_=>False)|none=>False
def qK(b:Q1)(c:Oper)(d:Env)(e:W)(f:J0->(W->Prop)->Prop):Prop:=match c.op with|.load t x=>(rd d x λv=>match v with|.pointer p=>At p λa=>loadT b t e a f|_=>False)|_=>False
theorem ZQ{i:Nat}:Rp a a4 i (u::b3)↔ah a (a4.add i)=Z u/\Rp a a4 (i+1) b3:=by grind[Rp]
theorem ZT:∀{l:List Sc}{i:Nat}{K:List J0->Prop},tt a a4 i l K->∃c,J c=J l/\Rp a a4 i c/\K c|[],_,_,b=>⟨[],rfl,trivial,b⟩|s::l,i,K,b=>by obtain⟨x,d,b⟩:=Vp b;obtain⟨c,e,f,b⟩:=ZT b;grind[ZQ]
theorem run_loadCellsFrom{P:Q1}:∀{c:List J0}{i:Nat}{e:Array J0},Rp a a4 i c->(loadCellsFrom a4 i (J c) e).run P (d.at a b)=.ok (e++c.toArray) (d.at a b)|[],_,e,_=>by simp[loadCellsFrom]|v::c,i,e,f=>by obtain⟨g,j⟩:=ZQ.1 f;have k:(load (a4.add i)).run P (d.at a b)=.ok v (d.at a b):=by{have l:(d.at a b).cell? (a4.add i)=Z v:=g;simp[load,Sem.run,l]};simp only[AW,loadCellsFrom,Sem.run_bind,k,Result.andThen_ok,run_loadCellsFrom (P:=P) j];simp
theorem AIS(b:∃a,T.underlying x=Z a):(isAgg x).run T bb=.ok (Zt T x) bb:=by obtain⟨a,hd⟩:=b;unfold isAgg Zt;rw[hd];cases a<;>simp[CB hd]
theorem ADe{A:ai}{i:J0->(W->Prop)->Prop}(b:loadT T bd a a4 i):∃v st,(∀c,st c->∀n,(loadVar bd a4).run T (A.at c n)=.ok v (A.at c n))/\st a/\i v st:=by unfold loadT at b;cases d:Zt T bd with|true=>rw[d]at b;simp[]at b;have f:∃e,T.underlying bd=Z e:=by{cases f:T.underlying bd with|none=>simp[Zt,f]at d|some e=>exact⟨e,rfl⟩};split at b;{rename_i q j;split at b;{rename_i k;have⟨r,l,m,b⟩:=ZT b;refine⟨_,_,λc g n=>?_,m,b⟩;simp[loadVar,Sem.run_bind,AIS f,d,Result.andThen_ok,AS,run_sizeOf j];rw[<-N4 k,<-l];simp only[loadCells,run_loadCellsFrom g,Result.andThen_ok];simp};exact b.elim};exact b.elim|false=>rw[d]at b;simp[]at b;split at b;{rename_i e hd;split at b;{rename_i s _;have⟨x,o,b⟩:=Vp b;refine⟨_,_,λc g n=>?_,o,b⟩;have p:(A.at c n).cell? a4=Z (s.val x):=g;simp[loadVar,AIS ⟨e,hd⟩,d,load,Sem.run,p]};exact b.elim};exact b.elim
theorem AF1{A:ai}(i:Fits f be bw){g:J0->(W->Prop)->Prop}(c:qK T ca bw a g):∃v st,(∀d,st d->jv T A ca be.eval v d)/\st a/\g v st:=by unfold qK at c;split at c;{rename_i t x j;have c:=Bv i c;split at c;{rename_i p d;obtain⟨b,rfl,c⟩:=VZ c;obtain⟨v,st,l,k,c⟩:=ADe (A:=A) c;refine⟨v,st,λm q n=>?_,k,c⟩;simp only[execOp,j,d];refine ly ?_;simp_all[Instr.loadAt,Instr.sureAddr,Sem.run_bind,Sem.run_pure,Result.andThen_ok]};exact c.elim};exact c.elim
abbrev Kt:=Act->W->List (Nat×(W->Prop))->Prop
def G8(f:Q1)(c:ai)(j:Array Oper)(k:Oper->Bool)(l:Nat->Nat->Bool)(i:Nat)(g:Kt):Kt:=λa d e=>match j[i]? with|none=>False|some b=>if Region.wanted b (yielded j a.tmps)=Y then if k b=Y then∃v,jv f c b a.eval v d/\g (a.put b.dst v) d ((i,jv f c b a.eval v)::e)else∀n,EV f b a.eval (c.at d n) λv m=>∃h o,m=c.at h o/\(∀p∈e,un l i p.1=Y->p.2 h)/\g (a.put b.dst v) h e else g (a.put b.dst undef) d e
def pj(b:Kt):Prop:=∀a c d e,b a c d->(∀p∈e,p∈d)->b a c e
variable{fe:Kt}
theorem G8.mono{i:Nat}{f:Kt}(j:∀be a c,fe be a c->f be a c){c:List (Nat×(W->Prop))}(b:G8 T d b8 cp ce i fe be a c):G8 T d b8 cp ce i f be a c:=by unfold G8 at b⊢;cases g:b8[i]? with|none=>rw[g]at b;exact b|some l=>rw[g]at b;simp only at b⊢;split;{rename_i e;rw[A1 e]at b;split;{grind};rename_i k;rw[A0 k]at b;intro n;refine(b n).mono ?_;grind};rename_i e;rw[A0 e]at b;exact j _ _ _ b
theorem AAk{i:Nat}(c:pj fe):pj (G8 T d b8 cp ce i fe):=by intro a s t u b e;unfold G8 at b⊢;cases j:b8[i]? with|none=>rw[j]at b;exact b|some w=>rw[j]at b;simp only at b⊢;split;{rename_i f;rw[A1 f]at b;split;{rename_i g;rw[A1 g]at b;obtain⟨v,l,h⟩:=b;refine⟨v,l,c _ _ _ _ h (λp k=>?_)⟩;grind};rename_i g;rw[A0 g]at b;intro n;refine(b n).mono ?_;rintro v x⟨m,o,q,r,h⟩;exact⟨m,o,q,λp k=>r p (e p k),c _ _ _ _ h e⟩};rename_i f;rw[A0 f]at b;exact c _ _ _ _ b e
theorem G8.swap{i:Nat}{e:Oper}(hi:b8[i]?=Z ca)(g:b8[b]?=Z e)(F:ca.apart b8 e=Y)(H:Pb ca)(I:Pb e)(aj:un ce i b=Y)(m:cp e=Y)(R:pj fe){r:List (Nat×(W->Prop))}(c:G8 T d b8 cp ce b (G8 T d b8 cp ce i fe) be a r):G8 T d b8 cp ce i (G8 T d b8 cp ce b fe) be a r:=by
 obtain⟨s,S,t⟩:=Oper.apart_spec F;have w:=λu=>execOp_put ca H be e.dst u t;have ak:=λu=>execOp_put e I be ca.dst u s;have x:=λu=>wanted_put ca be e.dst u t;have o:∀u,Region.wanted e (yielded b8 (be.put ca.dst u).tmps)=Region.wanted e (yielded b8 be.tmps):=λu=>wanted_put e be ca.dst u s;have y:∀u,jv T d ca (be.put e.dst u).eval=jv T d ca be.eval:=λu=>by grind[jv]
 have q:∀u,jv T d e (be.put ca.dst u).eval=jv T d e be.eval:=λu=>by grind[jv]
 have z:∀v u,(be.put ca.dst v).put e.dst u=(be.put e.dst u).put ca.dst v:=λv u=>Act.put_comm be v u S;unfold G8 at c⊢;rw[g]at c;rw[hi];simp only at c⊢;by_cases f:Region.wanted e (yielded b8 be.tmps)=Y;{rw[A1 f]at c;rw[A1 m]at c;obtain⟨X,O,c⟩:=c;rw[hi]at c;simp only[x,y]at c;by_cases k:Region.wanted ca (yielded b8 be.tmps)=Y;{rw[A1 k]at c⊢;by_cases l:cp ca=Y;{rw[A1 l]at c⊢;obtain⟨B,ae,c⟩:=c;refine⟨B,ae,?_⟩;rw[g];simp only[o,q];rw[A1 f,A1 m];refine⟨X,O,?_⟩;rw[z];exact R _ _ _ _ c λp C=>by grind};rw[A0 l]at c⊢;intro n;have:=c n;unfold EV at this;rw[w]at this;refine EV.mono this ?_;rintro B al⟨af,ag,ah,C,c⟩;refine⟨af,ag,ah,λp ai=>C p (CN _ ai),?_⟩;rw[g];simp only[o,q];rw[A1 f,A1 m];grind[List.mem_cons_self]};rw[A0 k]at c⊢;rw[g];simp[o,q];rw[A1 f,A1 m];grind};rw[A0 f]at c;rw[hi]at c;simp[x,y]at c;by_cases k:Region.wanted ca (yielded b8 be.tmps)=Y;{rw[A1 k]at c⊢;by_cases l:cp ca=Y;{rw[A1 l]at c⊢;simp_all};rw[A0 l]at c⊢;intro n;have:=c n;unfold EV at this⊢;rw[w]at this;refine NH ?_ this;simp_all};rw[A0 k]at c⊢;rw[g];simp[o];rw[A0 f,z];exact c
def Uf(a:Nat->Nat->Bool)(b:List Nat)(i:Nat):Bool:=b.all λc=>!a i c
def Wy(a:Array Oper)(b:Oper->Bool)(i:Nat):Bool:=match a[i]? with|some c=>b c|none=>U
def mX(b:Array Oper)(c:Oper->Bool)(d:Nat->Nat->Bool)(a:List Nat):Option Nat:=a.find? λi=>Wy b c i&&Uf d a i
def FT(e:Q1)(f:ai)(c:Array Oper)(d:Oper->Bool)(b:Nat->Nat->Bool)(h:Act->W->Prop):Nat->List Nat->Kt|_,[]=>λa g _=>h a g|0,_::_=>λ_ _ _=>False|k+1,x::l=>λa g j=>match mX c d b (x::l)with|some i=>G8 e f c d b i (FT e f c d b h k ((x::l).erase i)) a g j|none=>∀i∈x::l,Uf b (x::l) i=Y->G8 e f c d b i (FT e f c d b h k ((x::l).erase i)) a g j
theorem YM{P:Q1}{A:ai}{ops:Array Oper}{qb:Oper->Bool}{ord:Nat->Nat->Bool}{f7:Act->W->Prop}:∀(k:Nat)(l:List Nat),pj (FT P A ops qb ord f7 k l)|_,[]=>by intro a c _ _ b _;unfold FT at b⊢;exact b|0,_::_=>by intro a c _ _ b _;unfold FT at b;exact b.elim|k+1,x::l=>by intro a c g h b d;unfold FT at b⊢;split;{rename_i i hi;rw[hi]at b;exact AAk (YM (P:=P) (A:=A) (ops:=ops) (qb:=qb) (ord:=ord) (f7:=f7) k _) _ _ _ _ b d};rename_i hi;rw[hi]at b;exactλi e f=>AAk (YM (P:=P) (A:=A) (ops:=ops) (qb:=qb) (ord:=ord) (f7:=f7) k _) _ _ _ _ (b i e f) d
def rl(a:Array Oper)(g:Oper->Bool)(e:Nat->Nat->Bool):Bool:=(a.toList.all λh=>Mv h)&&(List.range a.size).all λi=>match a[i]? with|none=>U|some d=>(d.after.toList.all λb=>!Region.binds .any b||decide (b.on<i))&&(List.range a.size).all λc=>match a[c]? with|none=>U|some f=>if decide (c<i)then if e i c then d.after.toList.any λb=>Region.binds .any b&&(b.on==c||(decide (c<b.on)&&e b.on c))else(!(g d||g f))||(d.apart a f&&f.apart a d)else !e i c
structure pq (ops:Array Oper) (qb:Oper->Bool) (ord:Nat->Nat->Bool):Prop where
 nd: ∀(i:Nat) (o:Oper),ops[i]? =Z o->Mv o=Y
 back: ∀(i:Nat) (o:Oper),ops[i]? =Z o-> ∀e∈o.after,Region.binds .any e=Y->e.on<i
 low: ∀i j,i<ops.size->j<ops.size->ord i j=Y->j<i
 pair: ∀(i j:Nat) (oi oj:Oper),ops[i]? =Z oi->ops[j]? =Z oj->j<i->
   (ord i j=Y/\ ∃e∈oi.after,Region.binds .any e=Y/\(e.on=j\/(j<e.on/\ord e.on j=Y)))\/
   (ord i j=U/\(qb oi=Y\/qb oj=Y->oi.apart ops oj=Y/\oj.apart ops oi=Y))
theorem AKo(a:rl b8 cp ce=Y):pq b8 cp ce:=by unfold rl at a;simp only[As,DP,HL]at a;obtain⟨d,g⟩:=a;refine⟨λi b c=>d b (by grind),λi b c h j k=>?_,λi e hi f c=>?_,λi e l m hi f n=>?_⟩;{grind};{grind};grind
theorem rm{i:Nat}(a:Uf ce b0 i=Y)(c:b∈b0):ce i b=false:=by simp_all[Uf,DP,GS]
theorem Uv{i:Nat}(a:Uf ce b0 i=Y):Uf ce (b0.erase b) i=true:=by grind[Uf,List.all_eq_true,List.mem_of_mem_erase]
theorem Vi(a:mX b8 cp ce b0=Z b):b∈b0/\Wy b8 cp b=Y/\Uf ce b0 b=true:=by unfold mX at a;grind
theorem ANk(a:mX b8 cp ce b0=V)(c:b∈b0)(d:Wy b8 cp b=Y):Uf ce b0 b=false:=by simp_all[mX,Hj,DA]
theorem AEQ{i:Nat}(b:Wy b8 cp i=Y):∃a,b8[i]?=Z a/\cp a=true:=by unfold Wy at b;grind
theorem pq.swap(g:pq b8 cp ce){i:Nat}(s:i≠b)(hi:i<b8.size)(t:Wy b8 cp b=Y)(u:ce i b=U)(v:ce b i=U)(m:pj fe){j:List (Nat×(W->Prop))}:(G8 T d b8 cp ce b (G8 T d b8 cp ce i fe) be a j->G8 T d b8 cp ce i (G8 T d b8 cp ce b fe) be a j)/\(Wy b8 cp i=Y->G8 T d b8 cp ce i (G8 T d b8 cp ce b fe) be a j->G8 T d b8 cp ce b (G8 T d b8 cp ce i fe) be a j):=by
 obtain⟨k,e,n⟩:=AEQ t;have f:=HI hi;have o:=yh (g.nd _ _ f);have p:=yh (g.nd _ _ e);have r:(b8[i]).apart b8 k=Y/\k.apart b8 (b8[i])=true:=by rcases RM s with l|l;{rcases g.pair b i k _ e f l with⟨c,_⟩|⟨_,c⟩;{rw[v]at c;cases c};simp_all};rcases g.pair i b _ k f e l with⟨c,_⟩|⟨_,c⟩;{rw[u]at c;cases c};exact c (.inr n)
 have w:un ce i b=true:=by grind[un,Nat.lt_or_gt_of_ne,Nat.max_eq_right,Nat.min_eq_left,Nat.max_eq_left,Nat.min_eq_right]
 have x:un ce b i=true:=by unfold un at*;grind
 exact⟨G8.swap f e r.1 o p w n m,λy=>G8.swap e f r.2 p o x (by grind[AEQ]) m⟩
theorem AQY{P:Q1}{A:ai}{f7:Act->W->Prop}(B:pq b8 cp ce):∀(g:Nat)(l:List Nat),J l=g+1->(∀i∈l,i<b8.size)->∀(i:Nat),i∈l->Uf ce l i=Y->(∀a c d,FT P A b8 cp ce f7 (g+1) l a c d->G8 P A b8 cp ce i (FT P A b8 cp ce f7 g (l.erase i)) a c d)/\(Wy b8 cp i=Y->∀a c d,G8 P A b8 cp ce i (FT P A b8 cp ce f7 g (l.erase i)) a c d->FT P A b8 cp ce f7 (g+1) l a c d):=by intro g;induction g with|zero=>intro l w q i hi k;obtain⟨x,rfl⟩:=Tr.1 w;have:i=x:=by{simpa using hi};subst this;constructor;{intro a c d e;unfold FT at e;split at e;{rename_i b h;have:=(Vi h).1;have:b=i:=by{simpa using this};subst this;exact e};exact e i (by simp) k};intro h a c d e;unfold FT;split;{rename_i b y;have:=(Vi y).1;have:b=i:=by{simpa using this};subst this;exact e};intro C F _;have:C=i:=by{simpa using F};subst this;exact e|succ g r=>intro l w q i hi k;obtain⟨x,f,rfl⟩:∃x f,l=x::f:=by{cases l with|nil=>cases w|cons x f=>exact⟨x,f,rfl⟩};have s:∀{b},b∈x::f->J ((x::f).erase b)=g+1:=λh=>by{simp_all};have t:∀{b},∀i∈(x::f).erase b,i<b8.size:=λi hi=>q i (A0V hi);have u:∀{p b},p∈x::f->p≠b->p∈(x::f).erase b:=λH I=>(List.mem_erase_of_ne I).2 H;constructor;{intro a c d e;unfold FT at e;split at e;{rename_i b h;obtain⟨m,v,n⟩:=Vi h;by_cases j:b=i;{subst j;exact e};have z:=G8.mono (λa c d=>(r ((x::f).erase b) (s m) t i (u hi (Ne.symm j)) (Uv k)).1 a c d) e;have o:=(B.swap (Ne.symm j) (q i hi) v (rm k m) (rm n hi) (YM _ _)).1 z;rw[List.erase_comm]at o;exact G8.mono (λa c d=>(r ((x::f).erase i) (s hi) t b (u m j) (Uv n)).2 v a c d) o};exact e i hi k};intro h a c d e;unfold FT;split;{rename_i b y;obtain⟨m,v,n⟩:=Vi y;by_cases j:b=i;{subst j;exact e};have z:=G8.mono (λa c d=>(r ((x::f).erase i) (s hi) t b (u m j) (Uv n)).1 a c d) e;have o:=(B.swap (Ne.symm j) (q i hi) v (rm k m) (rm n hi) (YM _ _)).2 h z;rw[List.erase_comm]at o;exact G8.mono (λa c d=>(r ((x::f).erase b) (s m) t i (u hi (Ne.symm j)) (Uv k)).2 h a c d) o};rename_i K;have:=ANk K hi h;rw[k]at this;cases this
theorem AMx{i:Nat}{a:Array Bool}(hi:i<b)(c:a.size=b)(d:a.getD i U=U):left b (a.setIfInBounds i Y)=(left b a).erase i:=by grind[ANx,List.erase_append_right]
theorem FT.any{P:Q1}{A:ai}{f7:Act->W->Prop}{m:Nat}(O:∀a d n,f7 a d->c2 .normal a (A.at d n))(h:pq b8 cp ce):∀(fuel:Nat)(listed:Array Bool)(a:Act)(d:W)(aK:List (Nat×(W->Prop))),J (left b8.size listed)=fuel->listed.size=b8.size->iz ce listed->FT P A b8 cp ce f7 fuel (left b8.size listed) a d aK->∀n,wpAnyIn (Fw b2) m P .any b8 c2 fuel listed a (A.at d n):=by intro fuel;induction fuel with|zero=>intro listed a d aK w x _ k n;have l:=HG w;refine⟨?_,?_⟩;{simp_all[Region.ready,mem_ready,IS,left,mem_left]};rw[l]at k;unfold FT at k;exact O _ _ _ k|succ fuel y=>intro listed a d aK w x K k n;refine⟨λae=>?_,λi hi=>?_⟩;{exfalso;have af:∀f i,i<f->i∈left b8.size listed->False:=by{intro f;induction f with|zero=>intro i hi;omega|succ f ag=>intro i _ hi;obtain⟨o,ah⟩:=mem_left.1 hi;have s:=HI o;by_cases p:∀e∈b8[i].after,Region.binds .any e=Y->listed.getD e.on U=Y;{have:i∈Region.ready .any b8 listed:=mem_ready.2 ⟨by simp_all,_,s,p⟩;rw[ae]at this;cases this};simp only[Classical.not_forall]at p;obtain⟨e,l,g,z⟩:=p;have aA:=h.back i _ s e l g;exact ag e.on (by omega) (mem_left.2 ⟨by omega,by simpa using z⟩)};have z:left b8.size listed≠[]:=by{grind};obtain⟨i,hi⟩:=List.exists_mem_of_ne_nil _ z;exact af (i+1) i (by omega) hi};obtain⟨ah,t,j,p⟩:=mem_ready.1 hi;have o:i<b8.size:=(IS.1 j).1;have R:listed.getD i U=false:=by{simp_all};have aj:∀b,b<i->listed.getD b U=U->ce i b=false:=by{intro b q u;have ak:b8[b]?=Z b8[b]:=HI (by omega);rcases h.pair i b t _ j ak q with⟨_,e,l,g,B⟩|⟨B,_⟩;{exfalso;have S:=p e l g;rcases B with rfl|⟨al,N⟩;{rw[S]at u;cases u};have:=K e.on b S al N;rw[this]at u;cases u};exact B};have Q:i∈left b8.size listed:=mem_left.2 ⟨o,R⟩;have ao:Uf ce (left b8.size listed) i=true:=by{unfold Uf;simp only[DP,GS];intro b q;obtain⟨ap,aq⟩:=mem_left.1 q;cases g:ce i b with|false=>rfl|true=>rw[aj b (h.low i b o ap g) aq]at g;cases g};have c:=(AQY (f7:=f7) (P:=P) (A:=A) h fuel _ w (λb q=>(mem_left.1 q).1) i Q ao).1 a d aK k;have C:iz ce (listed.setIfInBounds i Y):=by{intro f b X ar s;by_cases au:b=i;{simp_all};rw[getD_set_ne U (Ne.symm au)];by_cases av:f=i;{grind};rw[getD_set_ne U (Ne.symm av)]at X;exact K f b X ar s};have aw:=AMx o x R;have F:J (left b8.size (listed.setIfInBounds i Y))=fuel:=by{simp_all};have H:(listed.setIfInBounds i Y).size=b8.size:=by{simp[x]};rw[<-aw]at c;unfold G8 at c;rw[j]at c;unfold wpOpIn;simp only[j];split;{rename_i I;simp only[I,AS]at c;by_cases T:cp t=Y;{rw[A1 T]at c;obtain⟨v,ax,c⟩:=c;refine EV.wpIn (h.nd i t j) ?_;unfold EV;rw[ax n];exact y _ _ _ _ F H C c n};rw[A0 T]at c;refine EV.wpIn (h.nd i t j) ((c n).mono ?_);rintro v aB⟨aC,ay,rfl,_,az⟩;exact y _ _ _ _ F H C az ay};rename_i I;simp only at c;rw[A0 I]at c;exact⟨λ_ _=>trivial,y _ _ _ _ F H C c n⟩
theorem ACn{f7:Act->W->Prop}{m:Nat}(e:∀be a f,f7 be a->c2 .normal be (d.at a f))(g:T.follows .mixedOrders=Y)(i:rl b8 cp ce=Y)(j:FT T d b8 cp ce f7 b8.size (List.range b8.size) be a []):(Code.region b b8 Y).wpIn (Fw b2) m T c2 be (d.at a f):=by refine wpIn_region_any g ?_;have c:=AS2 b8.size;refine FT.any (aK:=[]) e (AKo i) _ _ _ a (by rw[c];simp) (by simp) ?_ (by rw[c];exact j) (f+1);intro k o l;exfalso;by_cases a:k<b8.size<;>simp[a]at l
inductive Cls where
 |pure|load|fW
def cls(a:Q1)(d:Oper):Cls:=match d.op with|.load _ _=>.load|.binOp op t x e _=>(match Xr a op t x e with|.no=>.fW|_=>.pure)|.convert s b _=>(match a.underlying s with|some (.int _)=>(match a.underlying b with|some (.int _)=>.pure|_=>.fW)|some .string=>(match a.underlying b with|some .string=>.pure|_=>.fW)|_=>.fW)|.call c=>(match c.callee with|.builtin .min=>(match c.argTypes[0]? with|some t=>(match a.underlying t with|some (.float _)=>.fW|_=>.pure)|none=>.pure)|.builtin .max=>(match c.argTypes[0]? with|some t=>(match a.underlying t with|some (.float _)=>.fW|_=>.pure)|none=>.pure)|.builtin .cap=>.pure|.builtin .len=>(match c.argTypes[0]? with|some t=>(match a.underlying t with|some (.map _ _)=>.fW|_=>.pure)|none=>.fW)|_=>.fW)|.move _|.assign _|.pick ..|.build ..|.nilCheck _|.unOp ..|.makeInterface ..|.makeFunc ..|.fieldAddr ..|.field ..|.indexAddr ..|.index ..|.slice ..|.extract ..=>.pure|_=>.fW
def iW(a:ai)(c:Q1)(m:Sem Unit)(d:W)(e:W->Prop):Prop:=∀n,∃b f,m.run c (a.at d n)=.ok () (a.at b f)/\e b
def Pg(a:Env)(b:Array Operand):Array J0:=(b.toList.map (ρof a)).toArray
def AWQ(a:Q1)(b:Q8):Bool:=match a.funcs[b]? with|some fn=>(match fn.body with|none=>Y|some _=>U)|none=>U
def uF(a:ai)(c:Q1)(d:Q8)(e:Array J0)(f:W)(g:A3V):Prop:=∀n,∃v b h,(callFunc d e).run c (a.at f n)=.ok (.value v) (a.at b h)/\g v b
def uG(h:ai)(a:Q1)(e:Oper)(c:Call)(g:Env)(i:W)(j:A3V):Prop:=match c.callee with|.value (.func f)=>known g c.args.toList (match AWQ a f with|true=>uF h a f (Pg g c.args) i λv d=>WC a e.type v λv=>j v d|false=>UA a (callFunc f (Pg g c.args)) λx=>match x with|.enter k l=>AJ h a k l i λv d=>WC a e.type v λv=>j v d|_=>False)|.value x=>rd g x λfv=>known g c.args.toList (I9 h a fv (Pg g c.args) i λv d=>WC a e.type v λv=>j v d)|.builtin b=>known g c.args.toList (match b with|.append=>Eo h a (Builtin.append_ c.argTypes e.type (Pg g c.args)) i λv d=>WC a e.type v λv=>j v d|.copy=>Eo h a (Builtin.copy_ c.argTypes e.type (Pg g c.args)) i λv d=>WC a e.type v λv=>j v d|.delete=>Eo h a (Builtin.delete_ c.argTypes e.type (Pg g c.args)) i λv d=>WC a e.type v λv=>j v d|.clear=>Eo h a (Builtin.clear_ c.argTypes e.type (Pg g c.args)) i λv d=>WC a e.type v λv=>j v d|.len=>Eo h a (Builtin.len_ c.argTypes e.type (Pg g c.args)) i λv d=>WC a e.type v λv=>j v d|.min=>Eo h a (Builtin.min_ c.argTypes e.type (Pg g c.args)) i λv d=>WC a e.type v λv=>j v d|.max=>Eo h a (Builtin.max_ c.argTypes e.type (Pg g c.args)) i λv d=>WC a e.type v λv=>j v d|_=>False)|.invoke x name=>rd g x λm=>known g c.args.toList (yu h a m name (Pg g c.args) i λv d=>WC a e.type v λv=>j v d)
def YT(a:Q6):W->Nat->List J0->(W->Prop)->Prop|h,_,[],K=>K h|h,i,v::b,K=>qk (QF v) (aj h (a.add i) v λc=>YT a c (i+1) b K)
def uH(b:Q1)(c:Q7)(e f:J0)(g:W)(h:W->Prop):Prop:=match e with|.pointer p=>(At p λa=>match b.info? c with|some i=>(oy b c f λd=>match Nat.beq d.size i.size with|true=>YT a g 0 d.toList h|false=>False)|none=>False)|_=>False
def AZb(c:Q1)(a:Q7)(d:J0)(e:W)(f:A3V):Prop:=oy c a d λg=>bU e (.cells g a) λb h=>f (.pointer (Z ⟨b,0,V⟩)) h
def rowOf(d:Q1)(e:Q7)(b:Nat)(f:List (Nat×Array J0)):Option (Array J0):=match d.info? e with|some a=>(match a.zero with|some c=>(match Nat.ble (b*a.size) (2^24)with|true=>mH (λi=>Z (i*a.size,a.size)) ((Array.range (b*a.size)).map (c.cells[· %c.cells.size]!)) f|false=>V)|none=>V)|none=>V
def ADd(a:Q1)(d:Q7)(c:Nat)(f:Array (Nat×Operand))(g:Env)(h:W)(i:A3V):Prop:=match a.underlying d with|some (.slice e)=>(oA a d g f.toList λl=>match rowOf a e c l with|some cells=>bU h (.cells cells e) λb j=>i (.slice (Z ⟨b,0,V⟩) c c) j|none=>False)|_=>False
def VP(b:List Oper)(c:Option Tmp)(a:Nat):Option Q7:=match c with|none=>V|some t=>match b with|[]=>V|o::r=>match o.op with|.extract (.tmp t') d=>(match Nat.beq t' t with|true=>(match Nat.beq d a with|true=>Z o.type|false=>VP r (Z t) a)|false=>VP r (Z t) a)|_=>VP r (Z t) a
def lE(d:Q1)(a:Option Q7)(b:J0)(c:J0->Prop):Prop:=match a with|none=>c b|some a=>WC d a b c
theorem Pn{a:Option Q7}(b:lE T a u cc):cc u:=by cases a with|none=>exact b|some a=>exact Ps b
def mM(k:ai)(a:Q1)(n:Array Oper)(h:Oper)(d:Env)(j:W)(g:A3V):Prop:=match h.op with|.call c=>uG k a h c d j g|.makeSlice t l c=>rd d l λl=>rd d c λc=>Eo k a (Instr.makeSlice t l c) j λv e=>WC a h.type v λv=>g v e|.lookup t x i ok=>rd d x λx=>rd d i λi=>Eo k a (Instr.lookup t x i ok) j λv e=>WC a h.type v λv=>g v e|.mapUpdate t m f x=>rd d m λm=>rd d f λf=>rd d x λx=>iW k a (Instr.mapUpdate t m f x) j λe=>g undef e|.mapEntry t m f=>rd d m λm=>rd d f λf=>Eo k a (Instr.mapEntry t m f) j λv e=>∃f u:J0,v=.tuple #[f,u]/\lE a (VP n.toList h.dst 0) f λf=>lE a (VP n.toList h.dst 1) u λu=>g (.tuple #[f,u]) e|.entryStore t m s x=>rd d m λm=>rd d s λs=>rd d x λx=>iW k a (Instr.entryStore t m s x) j λe=>g undef e|.convert s p x=>rd d x λx=>Eo k a (convert s p x) j λv e=>WC a h.type v λv=>g v e|.binOp op t x o _=>rd d x λv=>rd d o λu=>Eo k a (do eqGuard op t x o v u;binOp op t v u) j λv e=>WC a h.type v λv=>g v e|.store t x o=>rd d x λq=>rd d o λv=>uH a t q v j λe=>g undef e|.box t x=>rd d x λv=>AZb a t v j g|.buildSlice t len r=>ADd a t len r d j g|.range t x=>rd d x λx=>Eo k a (Instr.range t x) j λv e=>∃b:Nat,v=.pointer (Z ⟨b,0,V⟩)/\g (.pointer (Z ⟨b,0,V⟩)) e|.next x s=>rd d x λx=>Eo k a (Instr.next x s h.type) j λv e=>(v=.tuple #[.bool U]/\g (.tuple #[.bool U]) e)\/(∃f u:J0,v=.tuple #[.bool Y,f,u]/\lE a (VP n.toList h.dst 1) f λf=>lE a (VP n.toList h.dst 2) u λu=>g (.tuple #[.bool Y,f,u]) e)|.entry x=>rd d x λx=>Eo k a (Instr.entry x) j λv e=>∃f u:J0,v=.tuple #[f,u]/\lE a (VP n.toList h.dst 0) f λf=>lE a (VP n.toList h.dst 1) u λu=>g (.tuple #[f,u]) e|.alloc ..|.makeMap ..=>known d h.op.operands.toList (Sem.vc a (execOp (ρof d) h) j λx e=>match x with|.value v=>g v e|.skip=>g undef e|_=>False)|_=>False
theorem X9(d:Fits b be bw){c:Array Operand}(f:∀x∈c.toList,ρof bw x=be.eval x):Pg bw c=c.map be.eval:=by grind[Pg,List.map_congr_left,Array.toList_inj,Array.toList_map]
theorem oO(f:execOp ew ca=do pure (.value (<-es)))(g:Eo d T es a λv b=>WC T ca.type v λv=>e v b):∀n,EV T ca ew (d.at a n) λv i=>∃b c,i=d.at b c/\e v b:=by intro n;obtain⟨v,b,c,j,hd⟩:=g n;unfold EV;rw[f,ly j];exact⟨b,c,rfl,Ps hd⟩
theorem qL{f:A3V}(g:execOp ew ca=do pure (.value (<-es)))(i:Eo d T es a f)(j:∀v b,f v b->e v b):∀n,EV T ca ew (d.at a n) λv k=>∃b c,k=d.at b c/\e v b:=by intro n;obtain⟨v,b,c,l,hd⟩:=i n;unfold EV;rw[g,ly l];exact⟨b,c,rfl,j _ _ hd⟩
theorem uI{f:Sem Unit}(g:execOp ew ca=do f;pure .skip)(i:iW d T f a λb=>e undef b):∀n,EV T ca ew (d.at a n) λv j=>∃b c,j=d.at b c/\e v b:=by intro n;obtain⟨b,c,k,hd⟩:=i n;unfold EV;rw[g,AY5 k];exact⟨b,c,rfl,hd⟩
theorem AMm(j:Fits o be bw){l:Call}(r:ca.op=.call l)(c:uG d T ca l bw a e):∀n,EV T ca be.eval (d.at a n) λv q=>∃g i,q=d.at g i/\e v g:=by
 have w:∀{fv:J0}{s:A3V}{x:Operand},l.callee=.value x->be.eval x=fv->I9 d T fv (l.args.map be.eval) a s->∀n,EV T ca be.eval (d.at a n) λv q=>∃g i,q=d.at g i/\s v g:=by intro fv s x k t y n;have:=y n;unfold EV;have m:execOp be.eval ca=(do let u<-Deferred.ofValue fv (l.args.map be.eval);invoke u.target u.args):=by{simp[execOp,r,resolve,k,t]};rw[m];exact this
 unfold uG at c;split at c;{rename_i f k;obtain⟨p,c⟩:=LB j c;rw[X9 j p]at c;split at c;{intro n;obtain⟨v,g,i,F,hd⟩:=c n;have m:(execOp be.eval ca).run T (d.at a n)=.ok (.value v) (d.at g i):=by{simp[execOp,r,resolve,k,Act.eval,Deferred.ofValue];simp_all[Sem.run_bind,Sem.run_pure,Result.andThen_ok,invoke]};unfold EV;rw[m];exact⟨g,i,rfl,Ps hd⟩};have⟨x,t,c⟩:=QE c;split at c;{rename_i z B;intro n;have m:(execOp be.eval ca).run T (d.at a n)=.ok (.enter z B) (d.at a n):=by{simp[execOp,r,resolve,k,Act.eval,Deferred.ofValue];simp_all[Sem.run_bind,Sem.run_pure,Result.andThen_ok,invoke]};unfold EV;rw[m];refine Calls.mono (c n) ?_;rintro H q⟨v,rfl,g,i,rfl,hd⟩;exact⟨v,rfl,g,i,rfl,Ps hd⟩};exact c.elim};{rename_i x k;have c:=Bv j c;obtain⟨p,c⟩:=LB j c;rw[X9 j p]at c;intro n;refine EV.mono (w k rfl c n) ?_;rintro v q⟨g,i,rfl,hd⟩;exact⟨g,i,rfl,Ps hd⟩};{rename_i b k;have⟨p,c⟩:=LB j c;rw[X9 j p]at c;split at c;all_goals first|exact oO (by simp[execOp,r,resolve,k];rfl) c|exact c.elim};rename_i x name k;have c:=Bv j c;obtain⟨p,c⟩:=LB j c;rw[X9 j p]at c;intro n;have m:execOp be.eval ca=(callMethod (be.eval x) name (l.args.map be.eval)):=by simp[execOp,r,resolve,k];have C:(#[be.eval x]++Array.map be.eval l.args)[0]?=Z (be.eval x):=by{grind};simp[invoke];rw[C];rw[show l.args.size=(Array.map be.eval l.args).size by simp,Array.extract_size]
 unfold EV;rw[m];refine NH ?_ (c n);rintro v q⟨g,i,rfl,hd⟩;exact⟨g,i,rfl,Ps hd⟩
theorem ABK{P:Q1}{A:ai}:∀{l:List J0}{b:W}{i:Nat}{K:W->Prop},YT a4 b i l K->∀n,∃d,(storeCells a4 l i).run P (A.at b n)=.ok () (A.at d n)/\K d|[],b,i,K,c,n=>⟨b,rfl,c⟩|v::o,b,i,K,c,n=>by unfold YT at c;cases e:QF v with|false=>rw[e]at c;exact c.elim|true=>rw[e]at c;obtain⟨⟨u,f⟩,g,h⟩:=c;obtain⟨d,j,k⟩:=ABK (P:=P) h n;refine⟨d,?_,k⟩;simp[storeCells,Sem.run_bind];have m:(store (a4.add i) v).run P (A.at b n)=.ok () (A.at (cO b (a4.add i) v) n):=yw e f g;rw[m];exact j
theorem ALD{P:Q1}{A:ai}(b:uH P x u bt k bf):iW A P (Instr.storeAt x u bt) k bf:=by intro n;unfold uH at b;split at b;{rename_i p;obtain⟨a,rfl,c⟩:=VZ b;split at c;{rename_i j hi;have d:=Um c;split at d;{rename_i e;obtain⟨f,g,i⟩:=ABK (P:=P) (A:=A) d n;refine⟨f,n,?_,i⟩;simp[Instr.storeAt,Instr.sureAddr,storeVar,run_sizeOf hi,N4 e,g]};exact d.elim};exact c.elim};exact b.elim
def AWe:(Instr.box x u).run T (d.at a b)=.ok (.pointer (Z ⟨a.size,0,V⟩)) (d.at (a.push (.cells u.cells x)) b):=rfl
theorem AVX(m:T.underlying x=Z (.slice bd)){g:Array (Nat×J0)}(c:rowOf T bd b (g.toList.map λp=>(p.1,p.2.cells))=Z bi):(Instr.buildSlice x b g).run T (d.at a f)=.ok (.slice (Z ⟨a.size,0,V⟩) b b) (d.at (a.push (.cells bi bd)) f):=by unfold rowOf at c;split at c;{rename_i e j;split at c;{rename_i o q;split at c;{rename_i k;have k:=A0D k;rw[<-ql]at c;have r:¬(b*e.size>2^24):=by{omega};unfold Instr.buildSlice;simp only[Sem.run_bind,CB m,Result.andThen_ok,run_sizeOf j,A0 r];by_cases l:b*e.size=0;{have s:Instr.fill (λi=>Z (i*e.size,e.size)) ((Array.range (b*e.size)).map (#[][· %(#[]:Array J0).size]!)) g.toList=Z bi:=by{grind};rw[A1 l];simp only[Sem.run_bind,Sem.run_pure,Result.andThen_ok,s];rfl};rw[A0 l];have u:(zeroValue bd).run T (d.at a f)=.ok o (d.at a f):=by{simp[zeroValue,yA j,q]};simp[Sem.run_bind,u,Sem.run_pure,Result.andThen_ok,c];rfl};cases c};cases c};cases c
theorem AIW(k:Fits f be bw)(g:mM d T b8 ca bw a e):∀n,EV T ca be.eval (d.at a n) λv y=>∃p r,y=d.at p r/\e v p:=by
 have B:Pb ca->known bw ca.op.operands.toList (Sem.vc T (execOp (ρof bw) ca) a λx p=>match x with|.value v=>e v p|.skip=>e undef p|_=>False)->∀n,EV T ca be.eval (d.at a n) λv y=>∃p r,y=d.at p r/\e v p:=by intro F g n;obtain⟨H,g⟩:=LB k g;obtain⟨x,p,r,C,g⟩:=ASr g n;rw[execOp_congr ca F (λx I=>H x (by simpa using I))]at C;unfold EV;rw[C];split at g;{exact⟨p,r,rfl,g⟩};{exact⟨p,r,rfl,g⟩};exact g.elim
 unfold mM at g;split at g;{rename_i c j;exact AMm k j g};{rename_i t l c j;exact oO (by simp[execOp,j]) (Bv k (Bv k g))};{rename_i t x i ok j;exact oO (by simp[execOp,j]) (Bv k (Bv k g))};{rename_i t m w x j;exact uI (by simp[execOp,j]) (Bv k (Bv k (Bv k g)))};{rename_i t m w j;refine qL (by simp[execOp,j]) (Bv k (Bv k g)) ?_;rintro v p⟨w,u,rfl,a⟩;exact Pn (Pn a)};{rename_i t m s x j;exact uI (by simp[execOp,j]) (Bv k (Bv k (Bv k g)))};{rename_i s W x j;exact oO (by simp[execOp,j]) (Bv k g)};{rename_i op t x R _ j;exact oO (by simp[execOp,j]) (Bv k (Bv k g))};{rename_i t x R j;exact uI (by simp[execOp,j]) (ALD (Bv k (Bv k g)))};{rename_i t x j;intro n;unfold EV;simp only[execOp,j];rw[ly AWe];exact⟨_,_,rfl,Um (Bv k g)⟩};{rename_i t len O j;intro n;unfold ADd at g;split at g;{rename_i ae S;have z:=Va k g;split at z;{rename_i cells q;unfold EV;simp only[execOp,j];rw[ly (AVX S (by rw[<-q];congr 1;simp))];exact⟨_,_,rfl,z⟩};exact z.elim};exact g.elim};{rename_i t x j;refine qL (by simp[execOp,j]) (Bv k g) ?_;rintro v p⟨b,rfl,a⟩;exact a};{rename_i x s j;refine qL (by simp[execOp,j]) (Bv k g) ?_;rintro v p(⟨rfl,a⟩|⟨w,u,rfl,a⟩);{exact a};exact Pn (Pn a)};{rename_i x j;refine qL (by simp[execOp,j]) (Bv k g) ?_;rintro v p⟨w,u,rfl,a⟩;exact Pn (Pn a)};{rename_i j;exact B (λX b q=>by rw[j]at q;cases q) g};{rename_i j;exact B (λX b q=>by rw[j]at q;cases q) g};exact g.elim
def uJ:List Prop->Prop->Prop|[],K=>K|p::l,K=>p/\uJ l K
theorem AIU:∀{l:List Prop}{K:Prop},uJ l K->(∀p∈l,p)/\K|[],_,a=>⟨λ_ b=>(by cases b),a⟩|p::l,_,⟨b,a⟩=>by obtain⟨c,d⟩:=AIU a;grind
def AVO(a:Nat->Nat->Bool)(i:Nat)(b:W)(c:List (Nat×(W->Prop))):List Prop:=(c.filter λp=>un a i p.1).map λp=>p.2 b
def qM(e:Array Oper)(f:Oper)(a:Env)(c d:Env->Prop):Prop:=match f.guard with|none=>c a|some (h,i)=>match e[h]? with|some j=>(match j.dst with|some b=>(match a.get b with|some (.bool g)=>(match i with|true=>cY g (c (a.set b (.bool Y))) (d (a.set b (.bool U)))|false=>cY g (d (a.set b (.bool Y))) (c (a.set b (.bool U))))|some _=>d a|none=>False)|none=>False)|none=>False
def XZ(f:ai)(b:Q1)(g:Nat)(d:Array Oper):List Oper->Env->W->(Env->W->Prop)->Prop|[],a,c,e=>e a c|o::rest,a,c,e=>match qh g o.dst with|false=>False|true=>qM d o a (λa=>match cls b o with|.pure=>qm b o a λv=>XZ f b g d rest (a.put o.dst v) c e|.load=>qK b o a c λv _=>XZ f b g d rest (a.put o.dst v) c e|.fW=>mM f b d o a c λv h=>XZ f b g d rest (a.put o.dst v) h e) (λa=>XZ f b g d rest (a.put o.dst undef) c e)
theorem ADQ(i:Fits b be bw){n p:Env->Prop}(c:qM b8 ca bw n p):(Region.wanted ca (yielded b8 be.tmps)=Y/\∃f,Fits b be f/\n f)\/(Region.wanted ca (yielded b8 be.tmps)=U/\∃f,Fits b be f/\p f):=by unfold qM at c;split at c;{grind[Region.wanted]};rename_i q u h;split at c;{rename_i w r;split at c;{rename_i s hd;split at c;{rename_i g k;have t:=i.get s _ k;have d:yielded b8 be.tmps q=Z g:=by{simp[yielded,r,hd,t]};have j:=i.sX t;split at c;{obtain⟨l,m⟩:=uE c;cases g with|true=>exact .inl ⟨by simp[Region.wanted,h,d],_,j,l rfl⟩|false=>exact .inr ⟨by simp[Region.wanted,h,d],_,j,m rfl⟩};obtain⟨l,m⟩:=uE c;cases g with|true=>exact .inr ⟨by simp[Region.wanted,h,d],_,j,l rfl⟩|false=>exact .inl ⟨by simp[Region.wanted,h,d],_,j,m rfl⟩};{rename_i v x k;refine .inr ⟨?_,bw,i,c⟩;have d:yielded b8 be.tmps q=none:=by{simp[yielded,r,hd,i.get s _ k,FF];simp_all};simp[Region.wanted,h,d]};exact c.elim};exact c.elim};exact c.elim
structure UQ (f9:List Nat) (a a':Act):Prop where
 get: ∀t,t∉f9->a'.tmps[t]? =a.tmps[t]?
 ds:a'.defers=a.defers
def UQ.refl(b:List Nat)(a:Act):UQ b a a:=⟨λ_ _=>rfl,rfl⟩
theorem UQ.put(c:UQ b0 be d8){b:Option Tmp}(e:∀t,b=Z t->t∈b0):UQ b0 be (d8.put b u):=by cases b with|none=>exact c|some b=>refine⟨λt d=>?_,c.ds⟩;have:b≠t:=λf=>d (f▸e b rfl);simp[Act.put];rw[HN this];exact c.get t d
def dstsOf(a:List Oper):List Nat:=a.filterMap (·.dst)
def AOv{a:List Oper}(c:ca∈a)(e:ca.dst=Z b):b∈dstsOf a:=Rg.2 ⟨ca,c,e⟩
theorem Zb(a:cls T ca≠.fW):Pb ca:=λd b c=>a (by simp[cls,c])
theorem ABQ(a:cls T ca≠.fW):Mv ca=true:=by grind[Mv,absurd,cls]
theorem AJZ(b:mM d T b8 ca bw a e):Mv ca=true:=by grind[Mv,mM]
theorem ADX{P:Q1}{A:ai}{r:Option Nat}{m f5:Nat}{ops:Array Oper}:∀(l:List Oper)(h:Env)(f:W)(a:Act)(n:Nat),XZ A P f5 ops l h f ej->Fits f5 a h->(∀p c d g,Fits f5 p c->UQ (dstsOf l) a p->ej c d->c2 .normal p (A.at d g))->wpListIn (Fw r) m P ops c2 l a (A.at f n)|[],h,f,a,n,b,q,s=>s a h f n q (UQ.refl _ _) b|o::rest,h,f,a,n,b,q,s=>by unfold XZ at b;split at b;{exact b.elim};rename_i hd;have next:∀(v:J0)(c:Env)(d:W)(g:Nat),Fits f5 a c->XZ A P f5 ops rest (c.put o.dst v) d ej->wpListIn (Fw r) m P ops c2 rest (a.put o.dst v) (A.at d g):=by{intro v c d g e z;refine ADX (P:=P) (A:=A) (r:=r) (m:=m) (f5:=f5) (ops:=ops) rest _ d _ g z (e.put hd) ?_;intro B C F H I y K;refine s B C F H I ⟨λt i=>?_,y.ds.trans (by cases o.dst<;>rfl)⟩ K;have R:t∉dstsOf rest:=λX=>i (by simp[dstsOf,Hc];split<;>simp_all[dstsOf]);rw[y.get t R];exact(UQ.put (UQ.refl _ a) (λt i=>AOv FG i)).get t i};unfold wpListIn;rcases ADQ q b with⟨u,c,e,b⟩|⟨u,c,e,b⟩;{rw[A1 u];split at b;{rename_i j;obtain⟨v,w,b⟩:=AET e (Zb (by rw[j];intro x;cases x)) b;refine EV.wpIn (ABQ (by rw[j];intro x;cases x)) ?_;unfold EV;rw[w];exact next v c f n e b};{rename_i j;obtain⟨v,st,w,S,b⟩:=AF1 e b;refine EV.wpIn (ABQ (by rw[j];intro x;cases x)) ?_;unfold EV;rw[w f S n];exact next v c f n e b};refine EV.wpIn (AJZ b) ((AIW e b n).mono ?_);rintro v T⟨d,g,rfl,b⟩;exact next v c d g e b};rw[A0 (by rw[u];simp)];grind
def iY(a:Q1)(b:Oper):Bool:=match cls a b with|.fW=>U|_=>Y
abbrev Ke:=Env->W->List (Nat×(W->Prop))->Prop
def qN(j:ai)(e:Q1)(k:Nat)(g:Array Oper)(l:Nat->Nat->Bool)(i:Nat)(f:Ke):Ke:=λa c d=>match g[i]? with|none=>False|some b=>match qh k b.dst with|false=>False|true=>qM g b a (λa=>match cls e b with|.pure=>qm e b a λv=>f (a.put b.dst v) c d|.load=>qK e b a c λv st=>f (a.put b.dst v) c ((i,st)::d)|.fW=>mM j e g b a c λv h=>uJ (AVO l i h d) (f (a.put b.dst v) h d)) (λa=>f (a.put b.dst undef) c d)
def uK(a:Nat->Prop):List Nat->Prop|[]=>True|[i]=>a i|i::l=>a i/\uK a l
theorem AH7:∀{l:List Nat},uK p l->∀i∈l,p i|[],_,_,a=>by cases a|[j],a,i,hi=>by have:i=j:=by{simpa using hi};subst this;exact a|j::x::l,a,i,hi=>by rcases AT.1 hi with rfl|hi;{exact a.1};exact AH7 a.2 i hi
def mN(d:ai)(b:Q1)(e:Nat)(c:Array Oper)(a:Nat->Nat->Bool)(j:Env->W->Prop):Nat->List Nat->Ke|_,[]=>λg h _=>j g h|0,_::_=>λ_ _ _=>False|f+1,x::l=>λg h k=>match mX c (iY b) a (x::l)with|some i=>qN d b e c a i (mN d b e c a j f ((x::l).erase i)) g h k|none=>uK (λi=>qN d b e c a i (mN d b e c a j f ((x::l).erase i)) g h k) ((x::l).filter (Uf a (x::l)))
def uL(c d:List (Nat×(W->Prop))):Prop:=∀b∈d,(∀a,b.2 a)\/∃p∈c,p.1=b.1/\∀a,p.2 a->b.2 a
theorem ABp{i:Nat}{C:Ke}(u:∀bw a d8 l m,C bw a l->Fits b d8 bw->UQ (dstsOf b8.toList) be d8->uL l m->fe d8 a m){l:List (Nat×(W->Prop))}{m:List (Nat×(W->Prop))}(c:qN d T b b8 ce i C bw a l)(I:Fits b d8 bw)(K:UQ (dstsOf b8.toList) be d8)(o:uL l m):G8 T d b8 (iY T) ce i fe d8 a m:=by
 unfold qN at c;unfold G8;split at c;{exact c.elim};rename_i q R;have S:q∈b8.toList:=by grind
 try rw[R]
 try simp only
 split at c;{exact c.elim};rename_i hd;have w:∀v,UQ (dstsOf b8.toList) be (d8.put q.dst v):=λv=>K.put (λt X=>AOv S X);rcases ADQ I c with⟨z,O,g,c⟩|⟨z,O,g,c⟩;{rw[A1 z];split at c;{rename_i j;have r:iY T q=true:=by{simp[iY,j]};rw[A1 r];have⟨v,y,c⟩:=AET g (Zb (by rw[j];intro x;cases x)) c;refine⟨v,λn=>y _,u _ _ _ _ _ c (g.put hd) (w v) ?_⟩;intro s f;rcases AT.1 f with rfl|f;{exact .inl λa n=>y _};exact o s f};{rename_i j;have r:iY T q=true:=by{simp[iY,j]};rw[A1 r];obtain⟨v,st,y,ae,c⟩:=AF1 g c;refine⟨v,y a ae,u _ _ _ _ _ c (g.put hd) (w v) ?_⟩;intro s f;rcases AT.1 f with rfl|f;{simp_all};rcases o s f with k|⟨p,F,k,H⟩;{exact .inl k};grind};rename_i j;have r:¬iY T q=true:=by{simp[iY,j]};rw[A0 r];intro n;refine(AIW g c n).mono ?_;rintro v ai⟨B,af,rfl,c⟩;have⟨ag,c⟩:=AIU c;refine⟨B,af,rfl,?_,u _ _ _ _ _ c (g.put hd) (w v) o⟩;intro s f ah;rcases o s f with k|⟨p,F,k,H⟩;{exact k B};exact H B (ag _ (Bk.2 ⟨p,Fm.2 ⟨F,by rw[k];exact ah⟩,rfl⟩))};rw[A0 (by rw[z];simp)];exact u _ _ _ _ _ c (g.put hd) (w undef) o
theorem uM{P:Q1}{A:ai}{f5:Nat}{ops:Array Oper}{ord:Nat->Nat->Bool}(n:∀o p q,Fits f5 o p->UQ (dstsOf ops.toList) be o->ej p q->e4 o q):∀(f:Nat)(l:List Nat)(c:Env)(d:W)(a:Act)(e:List (Nat×(W->Prop)))(g:List (Nat×(W->Prop))),mN A P f5 ops ord ej f l c d e->Fits f5 a c->UQ (dstsOf ops.toList) be a->uL e g->FT P A ops (iY P) ord e4 f l a d g|_,[],c,d,a,e,g,b,h,j,_=>by unfold mN at b;unfold FT;exact n a c d h j b|0,_::_,c,d,a,e,g,b,_,_,_=>b.elim|f+1,x::l,c,d,a,e,g,b,h,j,m=>by unfold mN at b;unfold FT;split;{rename_i i hi;rw[hi]at b;exact ABp (λc d a e g b h j m=>uM (P:=P) (A:=A) (f5:=f5) (ops:=ops) (ord:=ord) n f _ c d a e g b h j m) b h j m};rename_i hi;rw[hi]at b;intro i r s;exact ABp (λc d a e g b h j m=>uM (P:=P) (A:=A) (f5:=f5) (ops:=ops) (ord:=ord) n f _ c d a e g b h j m) (AH7 b i (Fm.2 ⟨r,s⟩)) h j m
def oP(c:ai)(b:Q1)(d:Nat)(a:Array Oper)(h:Bool)(e:Env)(f:W)(g:Env->W->Prop):Prop:=match h with|false=>XZ c b d a a.toList e f g|true=>match rl a (iY b) (yg a)with|true=>mN c b d a (yg a) g a.size (List.range a.size) e f []|false=>False
theorem AIx{m:Nat}{f7:Exit->Act->World->Prop}(v:T.follows .mixedOrders=Y)(j:oP d T b b8 ap bw a ej)(t:Fits b be bw)(u:∀c g i l,Fits b c g->UQ (dstsOf b8.toList) be c->ej g i->f7 .normal c (d.at i l)):(Code.region f b8 ap).wpIn (Fw b2) m T f7 be (d.at a o):=by unfold oP at j;cases ap with|false=>exact wpIn_region_list (ADX _ _ _ _ _ j t u)|true=>simp[]at j;split at j;{rename_i w;refine ACn (f7:=λc i=>∃g,Fits b c g/\UQ (dstsOf b8.toList) be c/\ej g i) ?_ v w (uM (λc g i p q s=>⟨g,p,q,s⟩) _ _ bw a be [] [] j t (UQ.refl _ _) (λ_ x=>by cases x));rintro c i l⟨g,p,q,s⟩;exact u c g i l p q s};exact j.elim
inductive Lv where
 |one (s:Sc)
 |agg (l:List Sc)
def iE:List Sc->Type|[]=>Unit|s::l=>s.Ty×iE l
def jA:(l:List Sc)->iE l->List J0|[],_=>[]|s::l,x=>s.val x.1::jA l x.2
def Lv.Ty:Lv->Type|.one s=>s.Ty|.agg l=>iE l
def Lv.val:(v:Lv)->v.Ty->J0|.one s,x=>s.val x|.agg l,x=>.agg (jA l x).toArray
def Sc.un(a:J0):(s:Sc)->(s.Ty->Prop)->Prop|.int d,K=>(match a with|.int e n=>(match decide (e=d)with|true=>K n|false=>False)|_=>False)|.bool,K=>(match a with|.bool b=>K b|_=>False)|.str,K=>(match a with|.string s=>K s|_=>False)|.ptr,K=>(match a with|.pointer p=>K p|_=>False)|.sl,K=>(match a with|.slice p l c=>K ⟨p,l,c⟩|_=>False)|.map,K=>(match a with|.map r=>K r|_=>False)|.any,K=>K a
theorem ZZ:∀{s:Sc}{K:s.Ty->Prop},s.un u K->∃x,u=s.val x/\K x|.int b,K,a=>by cases u<;>simp only[Sc.un]at a;rename_i c n;split at a;{rename_i hd;have hd:=A5 hd;subst hd;exact⟨n,rfl,a⟩};exact a.elim|.bool,K,a=>by cases u<;>simp only[Sc.un]at a;exact⟨_,rfl,a⟩|.str,K,a=>by cases u<;>simp only[Sc.un]at a;exact⟨_,rfl,a⟩|.ptr,K,a=>by cases u<;>simp only[Sc.un]at a;exact⟨_,rfl,a⟩|.sl,K,a=>by cases u<;>simp only[Sc.un]at a;exact⟨_,rfl,a⟩|.map,K,a=>by cases u<;>simp only[Sc.un]at a;exact⟨_,rfl,a⟩|.any,K,a=>⟨u,rfl,a⟩
def uT:(l:List Sc)->List J0->(iE l->Prop)->Prop|[],[],K=>K ()|s::l,v::a,K=>s.un v λx=>uT l a λb=>K (x,b)|[],_::_,_=>False|_::_,[],_=>False
theorem ADJ:∀{l:List Sc}{c:List J0}{K:iE l->Prop},uT l c K->∃b,c=jA l b/\K b|[],[],_,a=>⟨(),rfl,a⟩|s::l,v::c,K,a=>by obtain⟨x,d,e⟩:=ZZ a;obtain⟨b,f,g⟩:=ADJ e;exact⟨(x,b),by rw[d,f];rfl,g⟩|[],_::_,_,a=>a.elim|_::_,[],_,a=>a.elim
def Lv.un(a:J0):(b:Lv)->(b.Ty->Prop)->Prop|.one s,K=>s.un a K|.agg l,K=>match a with|.agg c=>uT l c.toList K|_=>False
theorem AHE:∀{b:Lv}{K:b.Ty->Prop},b.un u K->∃x,u=b.val x/\K x|.one s,K,a=>ZZ a|.agg l,K,a=>by cases u<;>simp only[Lv.un]at a;rename_i e;obtain⟨c,d,a⟩:=ADJ a;refine⟨c,?_,a⟩;simp[Lv.val];rw[<-d]
abbrev Live:=List (Nat×Lv)
def iG:Live->Type|[]=>Unit|x::r=>x.2.Ty×iG r
def Yr:(b:Live)->Env->(iG b->Prop)->Prop|[],_,K=>K ()|x::r,a,K=>match a.get x.1 with|some v=>x.2.un v λc=>Yr r a λd=>K (c,d)|none=>False
def Ov:(b:Live)->iG b->Nat->Option J0|[],_,_=>V|x::r,a,t=>bif Nat.beq t x.1 then Z (x.2.val a.1)else Ov r a.2 t
def lK(a:Nat):List Nat->Bool|[]=>U|x::r=>bif Nat.beq a x then Y else lK a r
def Ig(a:Live)(c:List Nat)(b:Env)(d:iG a):Env:={get:=λt=>match Ov a d t with|some v=>Z v|none=>bif lK t c then V else b.get t,ds:=b.ds}
theorem uU:∀{l:List Nat},lK b l=Y↔b∈l|[]=>by simp[lK]|x::r=>by unfold lK;by_cases a:b=x;{subst a;simp};rw[XB a];simp[cond_false,AT,a,false_or];exact uU
theorem LY:∀{c:Live}{K:iG c->Prop},Yr c bw K->∃b,(∀t v,Ov c b t=Z v->bw.get t=Z v)/\K b|[],K,a=>⟨(),λ_ _ d=>(by cases d),a⟩|(f,g)::r,K,a=>by unfold Yr at a;split at a;{rename_i v j;obtain⟨x,k,h⟩:=AHE a;have⟨b,l,i⟩:=LY h;refine⟨(x,b),λt v d=>?_,i⟩;change(bif Nat.beq t f then Z (g.val x)else Ov r b t)=Z v at d;by_cases m:t=f;{simp_all};simp_all[XB]};exact a.elim
variable{ef:Live}
theorem AKZ{a:iG ef}(c:(Ig ef b0 bw a).get b=Z u):Ov ef a b=Z u\/(Ov ef a b=V/\b∉b0/\bw.get b=Z u):=by grind[Ig,lK,uU]
theorem AJh{a c:iG ef}(d:Ov ef a b=V):Ov ef c b=none:=by induction ef with|nil=>rfl|cons x r e=>grind[Ov,XB]
structure Hg (f9:List Nat) (nd:Bool) (a a':Act):Prop where
 get: ∀t,t∉f9->a'.tmps[t]? =a.tmps[t]?
 ds:nd=Y->a'.defers=a.defers
def Hg.refl{b:List Nat}{c:Bool}{a:Act}:Hg b c a a:=⟨λ_ _=>rfl,λ_=>rfl⟩
theorem Hg.trans{d:List Nat}{e:Bool}{f:Act}(g:Hg b0 ap be d8)(h:Hg dv e2 d8 f)(k:∀t∈b0,t∈d)(l:∀t∈dv,t∈d)(i:e=Y->ap=Y/\e2=Y):Hg d e be f:=⟨λt j=>(h.get t λc=>j (l t c)).trans (g.get t λc=>j (k t c)),λc=>(h.ds (i c).2).trans (g.ds (i c).1)⟩
theorem Hg.af(d:Hg b0 ap be d8)(e:∀t∈b0,t∈dv)(f:e2=Y->ap=Y):Hg dv e2 be d8:=⟨λt g=>d.get t λc=>g (e t c),λc=>d.ds (f c)⟩
theorem Fits.join{d:Env}(f:Fits b be bw)(g:Fits b d8 d)(j:ap=Y)(h:Hg b0 ap be d8){i:iG ef}(k:∀t v,Ov ef i t=Z v->d.get t=Z v):Fits b d8 (Ig ef b0 bw i):=by refine⟨g.size,λt v l=>?_,(h.ds j).trans f.ds⟩;rcases AKZ l with c|⟨_,m,c⟩;{exact g.get t v (k t v c)};rw[h.get t m];exact f.get t v c
theorem Fits.again{c:Env}{j d:iG ef}(f:Fits b be (Ig ef b0 bw j))(g:Fits b d8 c)(k:ap=Y)(h:Hg b0 ap be d8)(l:∀t v,Ov ef d t=Z v->c.get t=Z v):Fits b d8 (Ig ef b0 bw d):=by refine⟨g.size,λt v m=>?_,(h.ds k).trans f.ds⟩;rcases AKZ m with i|⟨o,n,i⟩;{exact g.get t v (l t v i)};rw[h.get t n];refine f.get t v ?_;grind[Ig,AJh,lK,absurd,uU]
inductive fw where
 |none
 |tf (f2:Live)
 |seq (x y:fw)
 |kS (f2:Live) (x y:fw)
 |cond (x y:fw)
 |block (x:fw)
 |fX (f2:Live) (x:fw)
 |loop (f2:Live) (x:fw)
 |range (ps:List Lv) (x y:fw)
 |scope (f2:Live) (x y z:fw)
def writes:Code->List Nat|.region _ c _=>dstsOf c.toList|.seq a b=>writes a++writes b|.cond _ a b=>writes a++writes b|.block _ a=>writes a|.loop a=>writes a|.scope a=>writes a|_=>[]
def Ic:Code->Bool|.rangeFunc ..=>U|.seq a b=>Ic a&&Ic b|.cond _ a b=>Ic a&&Ic b|.block _ a=>Ic a|.loop a=>Ic a|.scope a=>Ic a|_=>Y
inductive jB where
 |ae (i:Nat)
 |fB (l:Nat)
def mR:Option Nat->Code|none=>.ret|some id=>.exit id
def iZ:List Lv->Type|[]=>Unit|lv::l=>lv.Ty×iZ l
def mS:(l:List Lv)->iZ l->List J0|[],_=>[]|lv::l,x=>lv.val x.1::mS l x.2
theorem ABH:∀(l:List Lv)(x:iZ l),J (mS l x)=J l|[],_=>rfl|_::l,x=>by simp[mS,ABH l x.2]
def lN:Env->List Tmp->List J0->Env|e,p::ps,v::a=>lN (e.set p v) ps a|e,_,_=>e
def VN(l:ai)(h:Q1)(o:J0)(e:List Lv)(p:iZ e->Nat->W->(W->Prop)->(Option Nat->W->Prop)->Prop)(a:W)(q:W->Prop)(r:Option Nat->W->Prop):Prop:=∀(rec:Go.Loop),rec.state=.ready->rec.pending=V->rec.params.size=J e->(∀(x:iZ e)(i:W)(j:A3V),i[a.size+1]?=Z (.loop rec)->p x (a.size+1) i (λc=>∃d,c[a.size+1]?=Z (.loop d)/\j (.bool Y) (c.setIfInBounds (a.size+1) (.loop {d with state:=.ready,pending:=V}))) (λg c=>∃d,c[a.size+1]?=Z (.loop d)/\j (.bool U) (c.setIfInBounds (a.size+1) (.loop {d with state:=.done,pending:=Z (mR g)})))->I9 l h (.func (.yield (a.size+1)) #[] #[]) (mS e x).toArray i j)->∃f m,UA h (do let n<-Deferred.ofValue o #[.func (.yield (a.size+1)) #[] #[]];invoke n.target n.args:Sem Next) (λx=>x=.enter f m)/\AJ l h f m ((a.push (.deferred (Z []))).push (.loop rec)) λ_ k=>∃b,k[a.size+1]?=Z (.loop b)/\b.state≠.busy/\((b.pending=V/\q (k.setIfInBounds (a.size+1) (.loop {b with state:=.exhausted})))\/∃g,b.pending=Z (mR g)/\r g (k.setIfInBounds (a.size+1) (.loop {b with state:=.exhausted})))
def Hq(n:ai)(o:Q1)(q:Nat)(s:Bool):Code->fw->Env->W->(Env->W->Prop)->(jB->Env->W->Prop)->(Env->W->Prop)->Prop|.skip,_,d,e,k,_,_=>k d e|.exit id,_,d,e,_,kb,_=>kb (.ae id) d e|.ret,_,d,e,_,_,m=>m d e|.label _,_,d,e,k,_,_=>k d e|.goto l,_,d,e,_,kb,_=>kb (.fB l) d e|.region _ A y,t,d,e,k,_,_=>(match t with|.tf r=>fO (λj e=>k (Ig r (dstsOf A.toList) d j) e) λK=>oP n o q A y d e λh g=>Yr r h λj=>K j g|_=>oP n o q A y d e k)|.seq a b,t,d,e,k,kb,m=>(match t with|.seq x w=>Hq n o q s a x d e (λd e=>Hq n o q s b w d e k kb m) kb m|.kS r x w=>(match Ic a with|true=>fO (λj e=>Hq n o q s b w (Ig r (writes a) d j) e k kb m) λK=>Hq n o q s a x d e (λh g=>Yr r h λj=>K j g) kb m|false=>False)|_=>False)|.cond c p H,t,d,e,k,kb,m=>(match t with|.cond x w=>(rd d c λv=>match v with|.bool b=>cY b (Hq n o q s p x d e k kb m) (Hq n o q s H w d e k kb m)|_=>False)|_=>False)|.block id c,t,d,e,k,kb,m=>(match t with|.block x=>Hq n o q s c x d e k (λu h g=>match u with|.ae i=>(match Nat.beq i id with|true=>k h g|false=>kb (.ae i) h g)|.fB l=>kb (.fB l) h g) m|.fX r x=>(match Ic c with|true=>fO (λj e=>k (Ig r (writes c) d j) e) λK=>Hq n o q s c x d e (λh g=>Yr r h λj=>K j g) (λu h g=>match u with|.ae i=>(match Nat.beq i id with|true=>Yr r h λj=>K j g|false=>kb (.ae i) h g)|.fB l=>kb (.fB l) h g) m|false=>False)|_=>False)|.loop c,t,d,e,_,kb,m=>(match t with|.loop r x=>(match Ic c with|true=>Yr r d λj=>Loop (λK j e=>Hq n o q s c x (Ig r (writes c) d j) e (λh g=>Yr r h λj=>K j g) kb m) j e|false=>False)|_=>False)|.rangeFunc f ps I c,t,d,e,k,kb,m=>(match t with|.range B x w=>(match(!s)&&Nat.beq (J B) ps.size&&ps.toList.all λp=>Nat.blt p q with|true=>rd d f λfv=>VN n o fv B (λargs l P R F=>Hq n o q Y I x (lN {get:=d.get,ds:=[]} ps.toList (mS B args)) P (λh g=>∃C,g[l]?=Z (.loop C)/\C.state=.ready/\Hq n o q Y c w h (g.setIfInBounds l (.loop {C with state:=.busy})) (λ_ z=>R z) (λu _ z=>match u with|.ae i=>F (Z i) z|.fB _=>False) (λ_ z=>F V z)) (λ_ _ _=>False) (λ_ _=>False)) e (λg=>k {get:=d.get,ds:=e.size::d.ds} g) (λu g=>match u with|none=>m {get:=d.get,ds:=e.size::d.ds} g|some i=>kb (.ae i) {get:=d.get,ds:=e.size::d.ds} g)|false=>False)|_=>False)|.scope (.seq b (.seq c (.seq (.label l) y))),t,d,e,k,kb,m=>(match t with|.scope r S x w=>(match((findLabel b l).isNone&&(findLabel c l).isNone)&&(Ic b&&(Ic c&&Ic y))with|true=>Hq n o q s b S d e (λd e=>Hq n o q s c x d e (λh g=>Yr r h λj=>Loop (λK j e=>Hq n o q s y w (Ig r (writes c++writes y) d j) e k (λu h g=>match u with|.ae i=>kb (.ae i) h g|.fB X=>match Nat.beq X l with|true=>Yr r h λj=>K j g|false=>False) m) j g) (λu h g=>match u with|.ae i=>kb (.ae i) h g|.fB _=>False) m) (λu h g=>match u with|.ae i=>kb (.ae i) h g|.fB _=>False) m|false=>False)|_=>False)|_,_,_,_,_,_,_=>False
def places:Code->Nat|.seq a b=>places a+places b+1|.cond _ a b=>places a+places b+1|.block _ a=>places a+1|.loop a=>places a+1|.rangeFunc _ _ a b=>places a+places b+1|.scope a=>places a+1|_=>1
def Zr(a:Nat):List (Nat×Live)->Option Live|[]=>V|x::r=>bif Nat.beq a x.1 then Z x.2 else Zr a r
def SF(m:List (Nat×Live)):Code->Nat->fw|.region _ _ _,n=>(match Zr n m with|some d=>.tf d|none=>.none)|.seq a b,n=>(match Zr n m with|some d=>.kS d (SF m a (n+1)) (SF m b (n+1+places a))|none=>.seq (SF m a (n+1)) (SF m b (n+1+places a)))|.cond _ a b,n=>.cond (SF m a (n+1)) (SF m b (n+1+places a))|.block _ a,n=>(match Zr n m with|some d=>.fX d (SF m a (n+1))|none=>.block (SF m a (n+1)))|.loop a,n=>.loop ((Zr n m).getD []) (SF m a (n+1))|.rangeFunc _ _ a b,n=>.range (((Zr n m).getD []).map Prod.snd) (SF m a (n+1)) (SF m b (n+1+places a))|.scope (.seq b (.seq c (.seq _ e))),n=>.scope ((Zr n m).getD []) (SF m b (n+2)) (SF m c (n+3+places b)) (SF m e (n+5+places b+places c))|_,_=>.none
def dH(e:ai)(f:Nat)(g:List Nat)(h:Bool)(i:Act)(j:Env->W->Prop)(d:jB->Env->W->Prop)(k:Env->W->Prop):Exit->Act->World->Prop:=λx a w=>∃b c n,w=e.at c n/\Fits f a b/\Hg g h i a/\(match x with|.normal=>j b c|.exit id=>d (.ae id) b c|.goto l=>d (.fB l) b c|.ret=>k b c|_=>False)
theorem dH.mono{g:Env->W->Prop}{h j:jB->Env->W->Prop}{k l:Env->W->Prop}(o:∀t∈b0,t∈dv)(p:e2=Y->ap=Y)(q:∀c e,ej c e->g c e)(m:∀i c e,h i c e->j i c e)(r:∀c e,k c e->l c e){x:Exit}(s:dH d b b0 ap be ej h k x d8 bb):dH d b dv e2 be g j l x d8 bb:=by obtain⟨c,e,n,u,v,y,f⟩:=s;refine⟨c,e,n,u,v,y.af o p,?_⟩;cases x<;>simp only at f⊢;{exact q _ _ f};{exact m _ _ _ f};{exact m _ _ _ f};exact r _ _ f
def oT(a:Fence)(i:Nat)(d:Q1)(j:Code)(k:Exit->Act->World->Prop)(l:Act)(m:World):Prop:=∀(b:Frame)(e:List Item)(c:List Frame),b.roundOf=a.round->a.fn b.fn->a.room (J c+1+i)->∃f g h,k f g h/\ArrivesIn (Machine.fenced d a) d (lone (b.atR l (.inLoop j::e)) c m) b e c f g h
theorem AHw(s:c0.wpIn ez b T (Exit.then (oT ez b T c0 c2) c2) be bb)(d:Frame)(j:List Item)(g:List Frame)(m:d.roundOf=ez.round)(o:ez.fn d.fn)(p:ez.room (J g+1+b)):∃k q r,c2 k q r/\ArrivesIn (Machine.fenced T ez) T (lone (d.atR be (.code c0::.inLoop c0::j)) g bb) d j g k q r:=by obtain⟨k,h,i,e,f⟩:=s d (.inLoop c0::j) g m o p;cases k with|normal=>obtain⟨t,u,v,x,y⟩:=e d j g m o p;exact⟨t,u,v,x,.of_steps f y⟩|exit id=>exact⟨_,h,i,e,.pass rfl (λ_ _=>.inl (by simp)) f⟩|goto l=>exact⟨_,h,i,e,.pass rfl (λ_ _=>.inl (by simp)) f⟩|ret=>exact⟨_,h,i,e,.pass rfl (λ_ _=>.inl (by simp)) f⟩|panic z=>exact⟨_,h,i,e,.pass rfl (λ_ _=>.inl (by simp)) f⟩|outgrown=>exact⟨_,h,i,e,.pass rfl (λ_ _=>.inl (by simp)) f⟩
def AKy(g:c0.wpIn ez f T (Exit.then (oT ez f T c0 c2) c2) be bb):oT ez f T c0 c2 be bb:=λb h i j d e=>let⟨k,l,m,o,p⟩:=AHw g b h i j d e;⟨k,l,m,o,.of_steps (.one (fenced_calm d e rfl) stepR_inLoop) p⟩
def AIy(g:c0.wpIn ez f T (Exit.then (oT ez f T c0 c2) c2) be bb):(Code.loop c0).wpIn ez f T c2 be bb:=λb h i j d e=>let⟨k,l,m,o,p⟩:=AHw g b h i j d e;⟨k,l,m,o,.of_steps (.one (fenced_calm d e rfl) stepR_loop) p⟩
def oU(a:Fence)(i:Nat)(d:Q1)(j k:Code)(l:Exit->Act->World->Prop)(m:Act)(n:World):Prop:=∀(b:Frame)(e:List Item)(c:List Frame),b.roundOf=a.round->a.fn b.fn->a.room (J c+1+i)->∃f g h,l f g h/\ArrivesIn (Machine.fenced d a) d (lone (b.atR m (.code k::.inScope j::e)) c n) b e c f g h
def qU(b:Nat)(c:Act->World->Prop)(d:Exit->Act->World->Prop):Exit->Act->World->Prop|.goto f,a,w=>f=b/\c a w|e,a,w=>d e a w
theorem AGv{b:Frame}{d:List Item}{e:List Frame}:step T (lone (b.atR be (.inScope c0::d)) e bb)=.next (lone (b.atR be d) e bb):=step_lone_go (by simp[stepG,stepG.exec,Frame.atR])
theorem AKm{b:Frame}{d:List Item}{e:List Frame}:step T (lone (b.atR be (.code (.scope c0)::d)) e bb)=.next (lone (b.atR be (.code c0::.inScope c0::d)) e bb):=step_lone_go (by simp[stepG,stepG.exec,Frame.atR])
theorem AEr{x:Code}(s:findLabel c0 o=Z d7)(t:x.wpIn ez f T (qU o (oU ez f T c0 d7 c2) c2) be bb):oU ez f T c0 x c2 be bb:=by
 intro b e p q j k;have u:gotoIn o (.inScope c0::e)=Z (.code d7::.inScope c0::e):=by simp[gotoIn,s]
 obtain⟨v,h,i,g,d⟩:=t b (.inScope c0::e) p q j k;cases v with|normal=>exact⟨.normal,h,i,g,StepsIn.trans d (.one (fenced_calm j k rfl) AGv)⟩|exit id=>have r:exitTo id (.inScope c0::e)=exitTo id e:=by{simp[exitTo]};exact⟨.exit id,h,i,g,λy m=>d.1 y (by rw[r];exact m),λz m=>d.2 z (by rw[r];exact m)⟩|goto R=>obtain⟨rfl,A⟩:=g;obtain⟨B,C,H,I,K⟩:=A b e p q j k;exact⟨B,C,H,I,.of_steps (d.1 _ u) K⟩|ret=>exact⟨_,h,i,g,d⟩|panic S=>exact⟨_,h,i,g,d⟩|outgrown=>exact⟨_,h,i,g,d⟩
def AG4(g:findLabel c0 o=Z d7)(h:c0.wpIn ez f T (qU o (oU ez f T c0 d7 c2) c2) be bb):(Code.scope c0).wpIn ez f T c2 be bb:=λb i j k d e=>let⟨m,p,q,r,s⟩:=AEr g h b i j k d e;⟨m,p,q,r,.of_steps (.one (fenced_calm d e rfl) AKm) s⟩
theorem UQ.g(b:UQ b0 be d8):Hg b0 ap be d8:=⟨b.get,λ_=>b.ds⟩
theorem AWX(b:ai)(a:W)(c:Nat):(b.at a c).heap=a:=rfl
theorem run_getLoop{rec:Go.Loop}(c:a[f]?=Z (.loop rec)):(Instr.getLoop f).run T (d.at a b)=.ok rec (d.at a b):=by simp[Instr.getLoop,Sem.run_bind,getObj,Sem.run,AWX,c]
theorem Z0{rec:Go.Loop}(c:a[f]?=Z (.loop rec)):(setObj f c8).run T (d.at a b)=.ok () (d.at (a.setIfInBounds f c8) b):=by simp[setObj,Sem.run,c,ai.at]
theorem run_beginRound{rec:Go.Loop}(c:a[f]?=Z (.loop rec))(e:rec.state=.ready):(Instr.beginRound f).run T (d.at a b)=.ok () (d.at (a.setIfInBounds f (.loop {rec with state:=.busy})) b):=by simp[Instr.beginRound,Sem.run_bind,run_getLoop c,Z0 c,e]
theorem run_endRound{rec:Go.Loop}{c:Option Code}(e:a[f]?=Z (.loop rec)):(Instr.endRound f c).run T (d.at a b)=.ok (.bool c.isNone) (d.at (a.setIfInBounds f (.loop {rec with state:=if c.isNone then .ready else .done,pending:=c})) b):=by simp[Instr.endRound,Sem.run_bind,run_getLoop e,Z0 e]
theorem run_endLoop{rec:Go.Loop}(c:a[f]?=Z (.loop rec))(e:rec.state≠.busy):(Instr.endLoop f).run T (d.at a b)=.ok rec.pending (d.at (a.setIfInBounds f (.loop {rec with state:=.exhausted})) b):=by simp_all[Instr.endLoop,Sem.run_bind,run_getLoop,Z0,A4]
theorem AHh{fn:Q8}{tmps:Array J0}{c:Array Tmp}{body:Code}:(Instr.enterLoop fn tmps c c0 body V).run T (d.at a b)=.ok (a.size+1,[mF a.size]) (d.at ((a.push (.deferred (Z []))).push (.loop {state:=.ready,pending:=V,fn,tmps,params:=c,assign:=c0,body,defers:=a.size})) b):=by simp[Instr.enterLoop,Sem.run_bind,newObj,Sem.run,ai.at,mF];rfl
theorem AF6:∀(ps:List Tmp)(d:List J0)(e:Env)(tmps:Array J0),(∀p∈ps,p<b)->Fits b {tmps:=tmps,defers:=[]} e->Fits b {tmps:=(ps.zip d).foldl (λtmps(t,a)=>tmps.setIfInBounds t a) tmps,defers:=[]} (lN e ps d)|[],_,_,_,_,c=>by simpa[lN]using c|_::_,[],_,_,_,c=>by simpa[lN]using c|p::ps,v::d,e,tmps,f,c=>AF6 ps d (e.set p v) (tmps.setIfInBounds p v) (λg h=>f g (CN _ h)) (c.set (f p FG))
def oV(e:Q1)(c:ai)(d:Nat)(b:Code):Prop:=∀(m:Nat)(f:Bool)(r:Option Nat)(k:fw)(g:Env)(h:W)(i:Env->W->Prop)(kb:jB->Env->W->Prop)(j:Env->W->Prop)(a:Act)(n:Nat),(f=U->r=V)->Hq c e d f b k g h i kb j->Fits d a g->b.wpIn (Fw r) m e (dH c d (writes b) (Ic b) a i kb j) a (c.at h n)
theorem AMr{aj:Code}(ay:oV T d b c0)(az:oV T d b d7){m:Nat}{ak al:fw}{z:jB->Env->W->Prop}{u:Env->W->Prop}{B:Act->World->Prop}(N:ap=U->b2=V)(aA:findLabel aj f=Z (.seq .skip d7))(aB:Ic c0=Y)(aC:Ic d7=Y)(aD:Hq d T b ap c0 ak bw a (λp q=>Yr ef p λg=>Loop (λK g a=>Hq d T b ap d7 al (Ig ef (writes c0++writes d7) bw g) a ej (λC p q=>match C with|.ae i=>z (.ae i) p q|.fB F=>match Nat.beq F f with|true=>Yr ef p λg=>K g q|false=>False) u) g q) (λC p q=>match C with|.ae i=>z (.ae i) p q|.fB _=>False) u)(Q:Fits b d8 bw)(ao:∀j,Hg (writes c0++writes d7) Y d8 j->Hg b0 e2 be j)(v:dH d b b0 e2 be ej z u=c2)(aE:B=oU (Fw b2) m T aj (.seq .skip d7) c2):(Code.seq c0 (.seq (.label f) d7)).wpIn (Fw b2) m T (qU f B c2) d8 (d.at a o):=by have aF:∀t∈writes c0,t∈writes c0++writes d7:=λt H=>AN.2 (.inl H);have aG:∀t∈writes d7,t∈writes c0++writes d7:=λt H=>AN.2 (.inr H);let aH:iG ef->W->Prop:=λg I=>∀j R,Fits b j (Ig ef (writes c0++writes d7) bw g)->Hg (writes c0++writes d7) Y d8 j->d7.wpIn (Fw b2) m T (qU f B c2) j (d.at I R);refine wpIn_seq (wpIn_mono (ay m ap b2 ak bw a _ _ u d8 o N aD Q) ?_);rintro S X aW⟨aq,ar,O,rfl,ae,aI,s⟩;have af:Hg (writes c0++writes d7) Y d8 X:=aI.af aF (λ_=>aB);have au:=ao X af;cases S with|normal=>{obtain⟨g,aJ,aK⟩:=LY s;refine wpIn_seq (wpIn_label ?_);have aL:=aK aH ?_;{exact aL X O (Q.join ae rfl af aJ) af};intro g I aM j R av aO;refine wpIn_mono (az m ap b2 al _ I _ _ u j R N aM av) ?_;rintro S w aX⟨ag,ah,x,rfl,y,aP,k⟩;have aw:Hg (writes c0++writes d7) Y j w:=aP.af aG (λ_=>aC);have ax:Hg (writes c0++writes d7) Y d8 w:=aO.trans aw (λ_ a=>a) (λ_ a=>a) (λ_=>⟨rfl,rfl⟩);have ai:=ao w ax;cases S with|normal=>rw[<-v];exact⟨ag,ah,x,rfl,y,ai,k⟩|exit i=>rw[<-v];exact⟨ag,ah,x,rfl,y,ai,k⟩|goto F=>simp only at k;split at k;{rename_i aQ;have aR:=N4 aQ;subst aR;obtain⟨aY,aS,aU⟩:=LY k;refine⟨rfl,?_⟩;have hd:=aU w x (av.again y rfl aw aS) ax;rw[aE]at hd⊢;exact AEr aA (wpIn_seq (wpIn_skip hd))};exact k.elim|ret=>rw[<-v];exact⟨ag,ah,x,rfl,y,ai,k⟩|panic aV=>exact k.elim|outgrown=>exact k.elim}|exit i=>rw[<-v];exact⟨aq,ar,O,rfl,ae,au,s⟩|goto F=>exact s.elim|ret=>rw[<-v];exact⟨aq,ar,O,rfl,ae,au,s⟩|panic aV=>exact s.elim|outgrown=>exact s.elim
theorem AMe{g:Code}(ag:oV T d b c0)(ah:oV T d b d7)(ai:oV T d b g){m:Nat}{z aj ak:fw}{s:jB->Env->W->Prop}{p:Env->W->Prop}(B:ap=U->b2=V)(al:(findLabel c0 f).isNone=Y)(N:(findLabel d7 f).isNone=Y)(Q:Ic c0=Y)(ao:Ic d7=Y)(aq:Ic g=Y)(ar:Hq d T b ap c0 z bw a (λbw a=>Hq d T b ap d7 aj bw a (λj k=>Yr ef j λu=>Loop (λK u a=>Hq d T b ap g ak (Ig ef (writes d7++writes g) bw u) a ej (λv j k=>match v with|.ae i=>s (.ae i) j k|.fB C=>match Nat.beq C f with|true=>Yr ef j λu=>K u k|false=>False) p) u k) (λv j k=>match v with|.ae i=>s (.ae i) j k|.fB _=>False) p) (λv j k=>match v with|.ae i=>s (.ae i) j k|.fB _=>False) p)(au:Fits b be bw):(Code.scope (.seq c0 (.seq d7 (.seq (.label f) g)))).wpIn (Fw b2) m T (dH d b (writes (.scope (.seq c0 (.seq d7 (.seq (.label f) g))))) (Ic (.scope (.seq c0 (.seq d7 (.seq (.label f) g))))) be ej s p) be (d.at a o):=by
 have av:findLabel c0 f=none:=by simpa using al
 have aw:findLabel d7 f=none:=by simpa using N
 have F:findLabel (.seq c0 (.seq d7 (.seq (.label f) g))) f=Z (.seq .skip g):=by simp[findLabel,av,aw]
 have ax:Ic (.scope (.seq c0 (.seq d7 (.seq (.label f) g))))=true:=by grind[Ic]
 have H:∀t∈writes c0,t∈writes (.scope (.seq c0 (.seq d7 (.seq (.label f) g)))):=λt ay=>by simp_all[writes,AN]
 have I:∀t∈writes d7++writes g,t∈writes (.scope (.seq c0 (.seq d7 (.seq (.label f) g)))):=λt ay=>by simp_all[AN,writes]
 generalize aE:writes (.scope (.seq c0 (.seq d7 (.seq (.label f) g))))=R at H I⊢;rw[ax];generalize w:dH d b R Y be ej s p=az;obtain⟨S,X⟩:∃S:Act->World->Prop,S=oU (Fw b2) m T (.seq c0 (.seq d7 (.seq (.label f) g))) (.seq .skip g) az:=⟨_,rfl⟩;refine AG4 F ?_;rw[<-X];refine wpIn_seq (wpIn_mono (ag m ap b2 z bw a _ _ p be o B ar au) ?_);rintro aA aB aF⟨O,ae,af,rfl,x,aC,q⟩;have y:Hg R Y be aB:=aC.af H λ_=>Q;cases aA with|normal=>exact AMr ah ai B F ao aq q x (λaG aD=>y.trans aD (λ_ a=>a) I λ_=>⟨rfl,rfl⟩) w X|exit i=>rw[<-w];exact⟨O,ae,af,rfl,x,y,q⟩|goto C=>exact q.elim|ret=>rw[<-w];exact⟨O,ae,af,rfl,x,y,q⟩|panic aH=>exact q.elim|outgrown=>exact q.elim
theorem AL8(bg:T.follows .mixedOrders=Y):∀(aO:Nat)(c:Code),SizeOf.sizeOf c<aO->∀(m:Nat)(F:Bool)(r:Option Nat)(R:fw)(j:Env)(e:W)(u:Env->W->Prop)(kb:jB->Env->W->Prop)(y:Env->W->Prop)(a:Act)(n:Nat),(F=U->r=V)->Hq d T o F c R j e u kb y->Fits o a j->c.wpIn (Fw r) m T (dH d o (writes c) (Ic c) a u kb y) a (d.at e n):=by intro aO;induction aO with|zero=>intro c N;omega|succ aO ai=>intro c N;cases c with|skip=>intro m F r R j e u kb y a n _ g k;exact wpIn_skip ⟨j,e,n,rfl,k,Hg.refl,g⟩|exit id=>intro m F r R j e u kb y a n _ g k;exact wpIn_exit ⟨j,e,n,rfl,k,Hg.refl,g⟩|ret=>intro m F r R j e u kb y a n _ g k;exact wpIn_ret ⟨j,e,n,rfl,k,Hg.refl,g⟩|label l=>intro m F r R j e u kb y a n _ g k;exact wpIn_label ⟨j,e,n,rfl,k,Hg.refl,g⟩|goto l=>intro m F r R j e u kb y a n _ g k;exact wpIn_goto ⟨j,e,n,rfl,k,Hg.refl,g⟩|refuse ag=>intro m F r R j e u kb y a n _ g k;simp[Hq]at g|region id aw aj=>{intro m F r R j e u kb y a n _ g k;have plain:∀ak,(∀aE ax ap aF,Fits o aE ax->UQ (dstsOf aw.toList) a aE->ak ax ap->dH d o (writes (.region id aw aj)) (Ic (.region id aw aj)) a u kb y .normal aE (d.at ap aF))->oP d T o aw aj j e ak->(Code.region id aw aj).wpIn (Fw r) m T (dH d o (writes (.region id aw aj)) (Ic (.region id aw aj)) a u kb y) a (d.at e n):=λak bh bi=>AIx bg bi k bh;cases R with|tf aq=>simp[Hq]at g;refine plain _ ?_ (g _ (λ_ _ e=>e));intro aE ax ap aF aW aB O;obtain⟨ar,z,ae⟩:=LY O;exact⟨_,ap,aF,rfl,k.join aW rfl (aB.g) z,aB.g,ae⟩|_=>exact plain u (λaE ax ap aF aW aB O=>⟨ax,ap,aF,rfl,aW,aB.g,O⟩) g}|seq x ag=>{have aG:=ai x (by simp at N;omega);intro m F r R j e u kb y a n al g k;have tail:∀(ak:Env->W->Prop)(aX aY:fw),Hq d T o F x aX j e ak kb y->(∀q h s,Fits o q h->Hg (writes x) (Ic x) a q->ak h s->∃H,Fits o q H/\Hq d T o F ag aY H s u kb y)->(Code.seq x ag).wpIn (Fw r) m T (dH d o (writes (.seq x ag)) (Ic (.seq x ag)) a u kb y) a (d.at e n):=by{intro ak aX aY O ay;refine wpIn_seq (wpIn_mono (aG m F r aX j e ak kb y a n al O k) ?_);intro az q aP I;have aH:∀t∈writes x,t∈writes (.seq x ag):=λt aZ=>by{grind[writes]};have bj:∀t∈writes ag,t∈writes (.seq x ag):=λt aZ=>by{grind[writes]};have aC:Ic (.seq x ag)=Y->Ic x=Y/\Ic ag=true:=λe=>by{simpa[Ic]using e};cases az with|normal=>obtain⟨h,s,ah,rfl,B,C,z⟩:=I;obtain⟨H,Q,a0⟩:=ay q h s B C z;refine wpIn_mono (ai ag (by simp at N;omega) m F r aY H s u kb y q ah al a0 Q) ?_;rintro a8 a1 a9⟨bk,a2,bm,rfl,bn,bo,bp⟩;exact⟨bk,a2,bm,rfl,bn,C.trans bo aH bj aC,bp⟩|exit id=>obtain⟨h,s,ah,rfl,B,C,z⟩:=I;exact⟨h,s,ah,rfl,B,C.af aH (λe=>(aC e).1),z⟩|ret=>obtain⟨h,s,ah,rfl,B,C,z⟩:=I;exact⟨h,s,ah,rfl,B,C.af aH (λe=>(aC e).1),z⟩|goto l=>obtain⟨h,s,ah,rfl,B,C,z⟩:=I;exact⟨h,s,ah,rfl,B,C.af aH (λe=>(aC e).1),z⟩|panic ba=>obtain⟨_,_,_,_,_,_,z⟩:=I;exact z.elim|outgrown=>obtain⟨_,_,_,_,_,_,z⟩:=I;exact z.elim};cases R with|seq S au=>simp[Hq]at g;exact tail _ S au g (λq h s B _ O=>⟨h,B,O⟩)|kS aq S au=>simp[Hq]at g;split at g;{rename_i av;refine tail _ S au (g _ (λ_ _ e=>e)) ?_;intro q h s B C O;obtain⟨ar,z,ae⟩:=LY O;exact⟨_,k.join B av C z,ae⟩};exact g.elim|_=>simp[Hq]at g}|cond v x ag=>{have aG:=ai x (by simp at N;omega);have bq:=ai ag (by simp at N;omega);intro m F r R j e u kb y a n al g k;cases R with|cond S au=>{simp[Hq]at g;have g:=Bv k g;cases aQ:a.eval v<;>rw[aQ]at g<;>simp only[]at g;rename_i b;obtain⟨s,X⟩:=uE g;refine wpIn_cond aQ ?_;cases b with|true=>exact wpIn_mono (aG m F r S j e u kb y a n al (s rfl) k) (λ_ _ _ I=>I.mono (λt aZ=>by grind[writes]) (λe=>by grind[Ic]) (λ_ _ e=>e) (λ_ _ _ e=>e) (λ_ _ e=>e))|false=>exact wpIn_mono (bq m F r au j e u kb y a n al (X rfl) k) (λ_ _ _ I=>I.mono (λt aZ=>by grind[writes]) (λe=>by grind[Ic]) (λ_ _ e=>e) (λ_ _ _ e=>e) (λ_ _ e=>e))}|_=>simp[Hq]at g}|block id x=>{intro m F r R j e u kb y a n al g k;have tail:∀(ak:Env->W->Prop)(aI:jB->Env->W->Prop)(S:fw),Hq d T o F x S j e ak aI y->(∀q h s,Fits o q h->Hg (writes x) (Ic x) a q->ak h s->∃H,Fits o q H/\u H s)->(∀i q h s,Fits o q h->Hg (writes x) (Ic x) a q->aI (.ae i) h s->(i=id/\∃H,Fits o q H/\u H s)\/(i≠id/\kb (.ae i) h s))->(∀l h s,aI (.fB l) h s->kb (.fB l) h s)->(Code.block id x).wpIn (Fw r) m T (dH d o (writes (.block id x)) (Ic (.block id x)) a u kb y) a (d.at e n):=by{intro ak aI S O s X a2;refine wpIn_block (wpIn_mono (ai x (by simp at N;omega) m F r S j e ak aI y a n al O k) ?_);intro az q aP I;obtain⟨h,af,ah,rfl,B,C,z⟩:=I;cases az with|normal=>obtain⟨H,Q,ay⟩:=s q h af B C z;exact⟨H,af,ah,rfl,Q,C,ay⟩|exit i=>simp[Exit.inBlock];rcases X i q h af B C z with⟨hi,H,Q,ay⟩|⟨hi,ay⟩;{rw[A1 hi];exact⟨H,af,ah,rfl,Q,C,ay⟩};rw[A0 hi];exact⟨h,af,ah,rfl,B,C,ay⟩|ret=>exact⟨h,af,ah,rfl,B,C,z⟩|goto l=>exact⟨h,af,ah,rfl,B,C,a2 l _ _ z⟩|panic ba=>exact z.elim|outgrown=>exact z.elim};cases R with|block S=>simp[Hq]at g;refine tail _ _ S g (λq h s B _ O=>⟨h,B,O⟩) ?_ (λ_ _ _ e=>e);grind[Nat.beq_refl,XB]|fX aq S=>simp[Hq]at g;split at g;{rename_i av;have g:=g _ (λ_ _ e=>e);have fin:∀q h s,Fits o q h->Hg (writes x) (Ic x) a q->Yr aq h (λar=>u (Ig aq (writes x) j ar) s)->∃H,Fits o q H/\u H s:=by{intro q h s B C O;have⟨ar,z,ae⟩:=LY O;exact⟨_,k.join B av C z,ae⟩};refine tail _ _ S g fin ?_ (λ_ _ _ e=>e);intro i q h s B C O;by_cases hi:i=id;{subst hi;simp[Nat.beq_refl]at O;exact .inl ⟨rfl,fin q h s B C O⟩};grind[XB]};exact g.elim|_=>simp[Hq]at g}|loop x=>{have ai:=ai x (by simp at N;omega);intro m F r R j e u kb y a n al g k;cases R with|loop aq S=>simp[Hq]at g;split at g;{rename_i av;have⟨ar,z,g⟩:=LY g;have br:Fits o a (Ig aq (writes x) j ar):=k.join k av (Hg.refl) z;let K:iG aq->W->Prop:=λar e=>∀q n,Fits o q (Ig aq (writes x) j ar)->Hg (writes x) (Ic x) a q->x.wpIn (Fw r) m T (Exit.then (oT (Fw r) m T x (dH d o (writes x) (Ic x) a u kb y)) (dH d o (writes x) (Ic x) a u kb y)) q (d.at e n);have aB:=g K ?_;{exact AIy (aB a n br Hg.refl)};intro ar e bs q n B C;refine wpIn_mono (ai m F r S _ e _ kb y q n al bs B) ?_;intro az a1 a9 I;obtain⟨H,X,aD,rfl,Q,a3,ae⟩:=I;have aR:=C.trans a3 (λ_ e=>e) (λ_ e=>e) (λe=>⟨e,e⟩);cases az with|normal=>obtain⟨b1,bt,a0⟩:=LY ae;exact AKy (a0 a1 aD (B.again Q av a3 bt) aR)|exit i=>exact⟨H,X,aD,rfl,Q,aR,ae⟩|ret=>exact⟨H,X,aD,rfl,Q,aR,ae⟩|goto l=>exact⟨H,X,aD,rfl,Q,aR,ae⟩|panic ba=>exact ae.elim|outgrown=>exact ae.elim};exact g.elim|_=>simp[Hq]at g}|rangeFunc f ps aS x=>{have bu:=ai aS (by simp at N;omega);have aG:=ai x (by simp at N;omega);intro m F r R j e u kb y a n al g k;cases R with|range bb S au=>simp only[Hq]at g;split at g;{rename_i bc;simp only[As,GS,DP]at bc;obtain⟨⟨bv,aU⟩,bw⟩:=bc;have aU:=N4 aU;have bx:=al bv;subst bx;have g:=Bv k g;refine wpIn_rangeFunc λfn _=>?_;let aJ:Go.Loop:={state:=.ready,pending:=V,fn,tmps:=a.tmps,params:=ps,assign:=aS,body:=x,defers:=e.size};have bz:∀args:List J0,J args=ps.size->∀(af:W)(aA:A3V),af[e.size+1]?=Z (.loop aJ)->Hq d T o Y aS S (lN {get:=j.get,ds:=[]} ps.toList args) af (λax ap=>∃aV,ap[e.size+1]?=Z (.loop aV)/\aV.state=.ready/\Hq d T o Y x au ax (ap.setIfInBounds (e.size+1) (.loop {aV with state:=.busy})) (λ_ X=>∃ao,X[e.size+1]?=Z (.loop ao)/\aA (.bool Y) (X.setIfInBounds (e.size+1) (.loop {ao with state:=.ready,pending:=V}))) (λa4 _ X=>match a4 with|.ae i=>(∃ao,X[e.size+1]?=Z (.loop ao)/\aA (.bool U) (X.setIfInBounds (e.size+1) (.loop {ao with state:=.done,pending:=Z (mR (Z i))})))|.fB _=>False) (λ_ X=>∃ao,X[e.size+1]?=Z (.loop ao)/\aA (.bool U) (X.setIfInBounds (e.size+1) (.loop {ao with state:=.done,pending:=Z (mR V)})))) (λ_ _ _=>False) (λ_ _=>False)->I9 d T (.func (.yield (e.size+1)) #[] #[]) args.toArray af aA:=by{intro args bA af aA a5 a6 n;have bB:(do let aj<-Deferred.ofValue (.func (.yield (e.size+1)) #[] #[]) args.toArray;invoke aj.target aj.args).run T (d.at af n)=.ok (.round (e.size+1) fn ((ps.zip args.toArray).foldl (λtmps(t,a)=>tmps.setIfInBounds t a) a.tmps) aS x) (d.at af n):=by{have bC:¬(args.toArray).size≠ps.size:=by{simp[bA]};simp only[Deferred.ofValue,Sem.run_bind,Sem.run_pure,Result.andThen_ok,invoke,Instr.yield,run_getLoop a5,Array.empty_append];rw[A0 bC];rfl};rw[bB];have bD:Fits o {tmps:=(ps.zip args.toArray).foldl (λtmps(t,a)=>tmps.setIfInBounds t a) a.tmps,defers:=[]} (lN {get:=j.get,ds:=[]} ps.toList args):=by{have bE:Fits o {tmps:=a.tmps,defers:=[]} {get:=j.get,ds:=[]}:=⟨k.size,k.get,rfl⟩;have:=AF6 ps.toList args _ a.tmps (λp I=>by simpa using bw p I) bE;rw[<-Array.foldl_toList,Array.toList_zip];exact this};refine roundIn_of_wpIn trivial (wpIn_mono (bu 0 Y (Z (e.size+1)) S _ af _ _ _ _ n (λe=>by cases e) a6 bD) ?_);intro az q aP I;obtain⟨h,s,ah,rfl,B,C,z⟩:=I;cases az<;>simp only at z;have⟨aV,bF,bG,bH⟩:=z;refine⟨_,run_beginRound bF bG,wpIn_mono (aG 0 Y (Z (e.size+1)) au _ _ _ _ _ q ah (λe=>by cases e) bH B) ?_⟩;intro a8 a1 a9 bI;obtain⟨H,X,aD,rfl,Q,a3,ae⟩:=bI;cases a8<;>simp only at ae;{obtain⟨ao,aK,aL⟩:=ae;exact⟨_,_,run_endRound aK,_,rfl,_,_,rfl,aL⟩};{obtain⟨ao,aK,aL⟩:=ae;exact⟨_,_,run_endRound aK,_,rfl,_,_,rfl,aL⟩};have⟨ao,aK,aL⟩:=ae;exact⟨_,_,run_endRound aK,_,rfl,_,_,rfl,aL⟩};obtain⟨bJ,bK,bL,bM⟩:=g aJ rfl rfl aU.symm (λx af aA a5 a6=>bz (mS bb x) ((ABH bb x).trans aU) af aA a5 a6);obtain⟨nx,bN,rfl⟩:=QE bL;have aM:=bN (d.at ((e.push (.deferred (Z []))).push (.loop aJ)) n);rw[Sem.run_bind]at aM;have bO:(resolve a.eval (rangeCall f (e.size+1)) 0)=Deferred.ofValue (a.eval f) #[.func (.yield (e.size+1)) #[] #[]]:=by{simp[resolve,Act.eval]};cases hd:(Deferred.ofValue (a.eval f) #[.func (.yield (e.size+1)) #[] #[]]).run T (d.at ((e.push (.deferred (Z []))).push (.loop aJ)) n)with|halt ag w=>rw[hd]at aM;cases aM|ok aj aP=>rw[hd]at aM;have aH:aP=d.at ((e.push (.deferred (Z []))).push (.loop aJ)) n:=by{cases aQ:a.eval f<;>rw[aQ]at hd<;>simp[Deferred.ofValue]at hd<;>first|exact hd.2.symm|(cases hd)};refine⟨e.size+1,[mF e.size],_,aj,_,bJ,bK,_,AHh,by rw[bO];exact hd,λ_ _=>trivial,aM,λaC=>by simp at aC,Zg.2 (Calls.mono (bM n) ?_)⟩;rintro b2 b3⟨v,rfl,X,aD,rfl,bd,bP,bQ,be⟩;have a7:Fits o {a with defers:=[mF e.size]++a.defers} {get:=j.get,ds:=e.size::j.ds}:=⟨k.size,k.get,by simp[k.ds]⟩;refine⟨bd.pending,_,run_endLoop bP bQ,?_⟩;generalize X.setIfInBounds (e.size+1) (.loop {bd with state:=.exhausted})=b4 at be⊢;rcases be with⟨I,bR⟩|⟨a4,I,bf⟩;{rw[I];exact⟨_,_,_,rfl,a7,⟨λ_ _=>rfl,λe=>by simp[Ic]at e⟩,bR⟩};rw[I];cases a4 with|none=>exact wpIn_ret ⟨_,_,_,rfl,a7,⟨λ_ _=>rfl,λe=>by simp[Ic]at e⟩,bf⟩|some i=>exact wpIn_exit ⟨_,_,_,rfl,a7,⟨λ_ _=>rfl,λe=>by simp[Ic]at e⟩,bf⟩};exact g.elim|_=>simp[Hq]at g}|scope b=>intro m F r R j e u kb y a n al g k;cases b with|seq bS bT=>{cases bT with|seq c ag=>{cases ag with|seq bU aj=>{cases bU with|label l=>{cases R with|scope aq b5 S au=>simp[Hq]at g;split at g;{rename_i av;simp only[As]at av;have⟨⟨bV,bW⟩,bX,bY,bZ⟩:=av;have b0:=ai bS (by simp at N;omega);exact AMe b0 (ai c (by simp at N;omega)) (ai aj (by simp at N;omega)) al bV bW bX bY bZ g k};exact g.elim|_=>simp[Hq]at g}|_=>simp[Hq]at g}|_=>simp[Hq]at g}|_=>simp[Hq]at g}|_=>simp[Hq]at g
def ANa(o:T.follows .mixedOrders=Y)(a:Code)(m:Nat)(e:Bool)(f:Option Nat)(l:fw)(g:Env)(h:W)(i:Env->W->Prop)(j:jB->Env->W->Prop)(k:Env->W->Prop)(c:Act)(n:Nat)(p:e=U->f=V)(q:Hq d T b e a l g h i j k)(r:Fits b c g):a.wpIn (Fw f) m T (dH d b (writes a) (Ic a) c i j k) c (d.at h n):=AL8 o (SizeOf.sizeOf a+1) a (Wb _) m e f l g h i j k c n p q r
def mT(d:Q1):List ResultVar->Env->W->(List J0->Prop)->Prop|[],_,_,K=>K []|.tmp t::r,b,c,K=>(match b.get t with|some v=>mT d r b c λe=>K (v::e)|none=>False)|.cell a t::r,b,c,K=>match b.get a with|some v=>(match v with|.pointer p=>At p λad=>loadT d t c ad λv _=>mT d r b c λe=>K (v::e)|_=>False)|none=>False
def oneOf(a:List J0)(b:J0->Prop):Prop:=match a with|[v]=>b v|a=>b (.tuple a.toArray)
def AYg(a:Q1)(b:List ResultVar)(c:Env)(d:W)(e:J0->Prop):Prop:=mT a b c d λf=>oneOf f e
def uV:List Nat->W->(W->Prop)->Prop|[],a,K=>K a|r::b,a,K=>a[r]?=Z (.deferred (Z []))/\uV b (a.setIfInBounds r (.deferred V)) K
def oW:Nat->List J0->Nat->Option J0|_,[],_=>V|i,v::r,t=>bif Nat.beq t i then Z v else oW (i+1) r t
def uW(c:Q1)(d:Func)(e:A3V)(a:Env)(f:W):Prop:=uV a.ds f λb=>AYg c d.results.toList a b λv=>e v b
def uX(e:ai)(a:Q1)(f:Q8)(g:fw)(b:List J0)(h:W)(d:A3V):Prop:=match a.funcs[f]? with|none=>False|some fn=>match fn.body with|none=>False|some c=>match Nat.ble (J b) fn.ntmps with|true=>Hq e a fn.ntmps U c g {get:=oW 0 b,ds:=[]} h (uW a fn d) (λ_ _ _=>False) (uW a fn d)|false=>False
theorem ADU:∀{l:List J0}{i t:Nat}{v:J0},oW i l t=Z v->i<=t/\l[t-i]?=Z v|[],_,_,_,a=>by cases a|u::r,i,t,v,a=>by unfold oW at a;by_cases b:t=i;{simp_all};rw[XB b,cond_false]at a;have⟨c,d⟩:=ADU a;grind
def qV(a:Array J0):ResultVar->Sem J0|.tmp t=>pure (a.getD t undef)|.cell x t=>do loadVar t (<-asAddr (a.getD x undef))
theorem AOP(b:Func)(c:Array J0):results b c=(do let a<-b.results.mapM (qV c);pure (if d:a.size=1 then a[0]else .tuple a)):=rfl
theorem Uq{P:Q1}{A:ai}(f:Fits b be bw){n:Nat}:∀{l:List ResultVar}{K:List J0->Prop},mT P l bw a K->∃d,(l.mapM (qV be.tmps)).run P (A.at a n)=.ok d (A.at a n)/\K d|[],K,c=>⟨[],rfl,c⟩|.tmp t::r,K,c=>by unfold mT at c;split at c;{rename_i v g;obtain⟨d,i,j⟩:=Uq (P:=P) (A:=A) (n:=n) f c;refine⟨v::d,?_,j⟩;have k:be.tmps.getD t undef=v:=by{have:=f.get t v g;simp[this]};rw[Wa];simp[Sem.run_bind,Sem.run_pure,Result.andThen_ok,qV,i,k]};exact c.elim|.cell x t::r,K,c=>by unfold mT at c;split at c;{rename_i v g;split at c;{rename_i p;obtain⟨ad,rfl,m⟩:=VZ c;obtain⟨u,st,o,q,j⟩:=ADe (A:=A) m;obtain⟨d,i,s⟩:=Uq (P:=P) (A:=A) (n:=n) f j;refine⟨u::d,?_,s⟩;have k:be.tmps.getD x undef=.pointer (Z ad):=by{have:=f.get x _ g;simp[this]};rw[Wa];simp[Sem.run_bind,Sem.run_pure,Result.andThen_ok,qV,k,asAddr,o a q n,i]};exact c.elim};exact c.elim
theorem AOY{A:ai}(f:Fits b be bw){n:Nat}(c:AYg T fg.results.toList bw a cc):∃v,(results fg be.tmps).run T (A.at a n)=.ok v (A.at a n)/\cc v:=by
 obtain⟨d,i,c⟩:=Uq (A:=A) f (n:=n) c;have g:(results fg be.tmps).run T (A.at a n)=.ok (if j:d.toArray.size=1 then d.toArray[0]else .tuple d.toArray) (A.at a n):=by grind[AOP,Array.mapM_eq_mapM_toList,Sem.run_bind,Sem.run_map,Result.andThen_ok,Sem.run_pure]
 refine⟨_,g,?_⟩;match d,c with|[],c=>exact c|[v],c=>exact c|u::v::r,c=>simpa[oneOf]using c
theorem ADa{P:Q1}{A:ai}(c:∀a n,bf a->LeavesInM (Fw V) 0 P fg bi fk [] .returning (A.at a n)):∀(l:List Nat)(a:W)(n:Nat),uV l a bf->LeavesInM (Fw V) 0 P fg bi fk (l.map mF) .returning (A.at a n)|[],a,n,b=>c a n b|r::d,a,n,⟨e,b⟩=>⟨by simp,.inl ⟨r,_,rfl,run_takeDeferred e,ADa (P:=P) (A:=A) c d _ n b⟩⟩
theorem AKF(s:T.follows .mixedOrders=Y){o:fw}(b:uX d T c1 o b3 k e):AJ d T c1 b3.toArray k e:=by intro n;unfold uX at b;split at b;{exact b.elim};rename_i fn u;split at b;{exact b.elim};rename_i c x;split at b;{rename_i p;have p:=A0D p;refine Zg.1 (callsIn_of_wp_marks (n:=0) u x trivial ?_);have y:Fits fn.ntmps {tmps:=b3.toArray++Array.replicate (fn.ntmps-b3.toArray.size) undef,defers:=[]} {get:=oW 0 b3,ds:=[]}:=by{refine⟨by simp;omega,λt v l=>?_,rfl⟩;obtain⟨_,q⟩:=ADU l;grind};refine wpIn_mono (ANa s c 0 U V o _ k _ _ _ _ n (λ_=>rfl) b y) ?_;intro z a w B;obtain⟨i,g,j,rfl,r,_,m⟩:=B;have fin:uW T fn e i g->LeavesInM (Fw V) 0 T fn a.tmps (λi C=>∃v,i=.returned v/\∃g j,C=d.at g j/\e v g) a.defers .returning (d.at g j):=by{intro F;rw[r.ds];refine ADa ?_ i.ds g j F;intro q H I;obtain⟨v,l,K⟩:=AOY r I;exact⟨v,l,v,rfl,q,H,rfl,K⟩};cases z<;>simp only at m;{exact fin m};exact fin m};exact b.elim
def semAt(d:ai)(a:Q1)(b:Q8)(m:List (Nat×Live))(e:List J0)(f:W)(g:A3V):Prop:=uX d a b (match a.funcs[b]? with|some fn=>(match fn.body with|some c=>SF m c 0|none=>.none)|none=>.none) e f g
def AMh(b:T.follows .mixedOrders=Y){m:List (Nat×Live)}(c:semAt d T c1 m b3 a e):AJ d T c1 b3.toArray a e:=AKF b c
def Iu(a:IntKind)(b c:Int):Int:=a.wrap ((BitVec.ofInt a.bits b&&&BitVec.ofInt a.bits c).toNat:Int)
def eN(a:IntKind)(b c:Int):Int:=a.wrap ((BitVec.ofInt a.bits b|||BitVec.ofInt a.bits c).toNat:Int)
def gX(a:IntKind)(b c:Int):Int:=a.wrap ((BitVec.ofInt a.bits b^^^BitVec.ofInt a.bits c).toNat:Int)
noncomputable abbrev P:Q1:=Go.Proofs.Tryz.prog
def MK:Q8:=8
def MR:Q8:=9
def Gg:Q8:=10
def Jq:Q8:=11
def TL:Q8:=13
def Gj:Q8:=14
def Qq:Q8:=15
def Kg:Q8:=16
def F4:Q8:=17
def Ea:Q8:=18
def Je:Q8:=19
def GV:Q8:=20
def Pj:Q8:=21
def Na:Q8:=22
def MC:Q8:=24
def Pm:Q8:=25
def TR:Q8:=26
def Uu:Q8:=27
def Vk:Q8:=28
def vL:Q8:=29
def BL:Q8:=30
def Jv:Q8:=31
def Di:Q8:=32
def Jn:Q8:=33
def FQ:Q8:=34
def Ej:Q8:=35
def Ga:Q8:=36
def Gm:Q8:=37
def IG:Q8:=38
def Gv:Q8:=39
def G5:Q8:=41
def Ci:Q8:=42
def Oj:Q8:=43
def Ju:Q8:=44
def OD:Q8:=45
def IA:Q8:=46
def Oe:Q8:=47
def KS:Q8:=48
def QY:Q8:=49
def JG:Q8:=50
def Oc:Q8:=51
def Hy:Q8:=52
def Px:Q8:=53
def BG:Q8:=54
def IJ:Q8:=55
def FU:Q8:=56
def LQ:Q8:=57
def NE:Q8:=58
def Cw:Q8:=59
def BI:Q8:=60
def Ei:Q8:=61
def IE:Q8:=62
def Pw:Q8:=63
def Qp:Q8:=64
def R8:Q8:=65
def Mm:Q8:=66
def ES:Q8:=67
def TT:Q8:=68
def Xw:Q8:=69
def NF:Q8:=70
def TK:Q8:=71
def Du:Q8:=72
def Gh:Q8:=73
def GZ:Q8:=74
def IU:Q8:=75
def SQ:Q8:=76
def Vl:Q8:=77
def vM:Q8:=78
def Cv:Q8:=79
def EH:Q8:=80
def Av:Q8:=81
def Dz:Q8:=82
def Fy:Q8:=83
def Bu:Q8:=84
def MX:Q8:=85
def Od:Q8:=86
def CF:Q8:=87
def BJ:Q8:=88
def Jp:Q8:=89
def Fs:Q8:=90
def NU:Q8:=91
def Me:Q8:=92
def Fz:Q8:=93
def IZ:Q8:=94
def GD:Q8:=95
def Gf:Q8:=96
def Ey:Q8:=98
def Gz:Q8:=99
def Ib:Q8:=100
def Gt:Q8:=101
def TU:Q8:=102
def Oq:Q8:=103
def TE:Q8:=104
def RJ:Q8:=105
def R3:Q8:=106
def Ii:Q8:=107
def Ru:Q8:=108
def HZ:Q8:=109
def Ct:Q8:=110
def Ay:Q8:=111
def Dr:Q8:=112
def Qy:Q8:=113
def TW:Q8:=114
def Ml:Q8:=115
def Ih:Q8:=116
def Gq:Q8:=117
def TA:Q8:=118
def KC:Q8:=119
def MJ:Q8:=120
def VQ:Q8:=121
def NC:Q8:=122
def Ot:Q8:=123
def Qr:Q8:=124
def Vg:Q8:=125
def WS:Q8:=126
def KX:Q8:=127
def Jt:Q8:=128
def DF:Q8:=129
def UF:Q8:=130
def Pv:Q8:=131
def Us:Q8:=132
def Tv:Q8:=133
def Ku:Q8:=134
def LX:Q8:=135
def Qx:Q8:=136
def Kn:Q8:=137
def JL:Q8:=138
def AHK:Q8:=139
def NK:Q8:=140
def Ry:Q8:=141
def Mi:Q8:=142
def IQ:Q8:=143
def JH:Q8:=144
def Ee:Q8:=145
def Mh:Q8:=146
def NQ:Q8:=147
def Md:Q8:=148
def Jz:Q8:=149
def JC:Q8:=150
def DJ:Q8:=151
def EZ:Q8:=152
def Mc:Q8:=153
def GY:Q8:=154
def Qc:Q8:=155
def OU:Q8:=156
def MB:Q8:=157
def Wl:Q8:=158
def Ez:Q8:=159
def Oa:Q8:=160
def NI:Q8:=161
def Rt:Q8:=162
def Ko:Q8:=163
def Jk:Q8:=164
def I4:Q8:=165
def VH:Q8:=166
def Ms:Q8:=167
def FI:Q8:=168
def ET:Q8:=169
def El:Q8:=170
def Pt:Q8:=171
def VM:Q8:=172
def Tj:Q8:=173
def VX:Q8:=174
def Xo:Q8:=175
def JF:Q8:=176
def NL:Q8:=177
def RH:Q8:=178
def Ri:Q8:=179
def LP:Q8:=180
def KM:Q8:=181
def SA:Q8:=182
def DR:Q8:=183
def Ll:Q8:=184
def Jr:Q8:=185
def Sy:Q8:=186
def IB:Q8:=187
def JY:Q8:=188
def Oh:Q8:=189
def OX:Q8:=190
def Nf:Q8:=191
def RG:Q8:=192
def Iz:Q8:=193
def R4:Q8:=194
def Mx:Q8:=195
def TI:Q8:=196
def II:Q8:=197
def Vf:Q8:=198
def Og:Q8:=199
def AGI:Q8:=200
def PL:Q8:=201
def JU:Q8:=202
def MS:Q8:=203
def Om:Q8:=204
def Mk:Q8:=205
def OP:Q8:=206
def Kq:Q8:=207
def FW:Q8:=208
def NY:Q8:=209
def Cq:Q8:=210
def Ep:Q8:=211
def Iw:Q8:=212
def JE:Q8:=213
def Jl:Q8:=214
def MI:Q8:=215
def OY:Q8:=216
def Ql:Q8:=217
def EC:Q8:=218
def Bp:Q8:=219
def EE:Q8:=220
def Mw:Q8:=221
def Le:Q8:=222
def MH:Q8:=223
def VI:Q8:=224
def XH:Q8:=225
def Er:Q8:=226
def Dv:Q8:=227
def Vq:Q8:=228
def EN:Q8:=229
def KR:Q8:=230
def OZ:Q8:=231
def UR:Q8:=232
def Za:Q8:=233
def EJ:Q8:=234
def Nc:Q8:=235
def LC:Q8:=236
def Tm:Q8:=237
def Fh:Q8:=238
def VU:Q8:=239
def Kw:Q8:=240
def UD:Q8:=241
def VY:Q8:=242
def OQ:Q8:=244
def IL:Q8:=245
def Cc:Q8:=246
def JZ:Q8:=250
def Ky:Q8:=251
def JJ:Q8:=252
def Ji:Q8:=253
def Mg:Q8:=254
def MQ:Q8:=255
def GR:Q8:=256
def Bt:Q8:=257
def IP:Q8:=258
def TS:Q8:=259
def Kb:Q8:=260
def Qv:Q8:=261
def TH:Q8:=262
def XI:Q8:=263
def TY:Q8:=264
def ED:Q8:=265
def FY:Q8:=266
def G7:Q8:=267
def Iy:Q8:=268
def Kj:Q8:=269
def TV:Q8:=270
def ZN:Q8:=271
def Qf:Q8:=272
def Qk:Q8:=273
def Eu:Q8:=279
def Ir:Q8:=281
def Gw:Q8:=285
def Rc:Q8:=291
def Ol:Q8:=292
def Eg:Q8:=293
def Qt:Q8:=294
def RA:Q8:=295
def EU:Q8:=325
def t_:Q7:=0
def Be:Q7:=3
def VS:Q7:=4
def Ef:Q7:=5
def BQ:Q7:=9
def KV:Q7:=22
def EL:Q7:=29
def Bc:Q7:=30
def Ad:Q7:=32
def CO:Q7:=34
def Dt:Q7:=35
def BR:Q7:=37
def Hu:Q7:=38
def Bo:Q7:=40
def FP:Q7:=42
def Cf:Q7:=51
def LM:Q7:=53
def BP:Q7:=54
def Ak:Q7:=56
def LZ:Q7:=63
def EO:Q7:=64
def DN:Q7:=65
def A7:Q7:=67
def CL:Q7:=69
def Ae:Q7:=76
def Ai:Q7:=80
def IM:Q7:=82
def Ba:Q7:=85
def Fx:Q7:=97
def Nb:Q7:=103
def Ha:Q7:=106
def GH:Q7:=107
def VK:Q7:=109
def p8:Q7:=116
def Af:Q7:=132
def AC9:Q7:=150
def A8:Q7:=155
def DC:Q7:=163
def vN:Q7:=165
def DT:Q7:=181
def F5:Q7:=187
def QV:Q7:=201
def AG8:Q7:=211
def BD:Q7:=212
def A9:Q7:=213
def ND:Q7:=215
def CS:Q7:=218
def ADs:Q7:=221
def DK:Q7:=229
def CJ:Q7:=234
def ZV:Q7:=260
def QB:Q7:=279
def BZ:Q7:=282
def KL:Q7:=284
def EG:Q7:=285
def BU:Q7:=287
def vO:Q7:=288
def AIi:Q7:=300
def FL:Q7:=302
def Uo:Q7:=304
def ADW:Q7:=306
def AJt:Q7:=307
def vP:Q7:=309
def P5:Q7:=311
def re:Q7:=319
def QJ:Q7:=328
def Lj:Q7:=343
def Fg:Q7:=378
def Wx:Q7:=429
def Fj:Q7:=436
def Gb:Q7:=438
theorem mixed:P.follows .mixedOrders=true:=by decide+kernel
theorem add_add(a:Q6)(m b:Nat):(a.add m).add b=a.add (m+b):=by grind[Addr.add,Nat.add_assoc]
theorem add_zero(a:Q6):a.add 0=a:=by simp[Addr.add]
theorem aY(a:Q6)(b:Nat):(a.add b).block=a.block:=by grind[Addr.add]
theorem CR(a b c:Nat):(⟨a,b,V⟩:Q6).add c=⟨a,b+c,V⟩:=by simp_all[Addr.add]
structure L (S:Nat->Prop) (h h':W):Prop where
 size:h.size<=h'.size
 get: ∀b,b<h.size-> ¬S b->h'[b]? =h[b]?
abbrev G:=L (λ_=>False)
def L.refl{b:Nat->Prop}{a:W}:L b a a:=⟨A2 _,λ_ _ _=>rfl⟩
theorem L.trans(b:L p a k)(d:L p k a1):L p a a1:=⟨AF b.size d.size,λc e f=>(d.get c (CI e b.size) f).trans (b.get c e f)⟩
theorem L.af{S':Nat->Prop}(d:L p a k)(f:∀b,b<a.size->p b->S' b):L S' a k:=⟨d.size,λc e g=>d.get c e λa=>g (f c e a)⟩
def G.mod(b:G a k):L p a k:=b.af λ_ _ a=>a.elim
theorem L.then(b:L p a k)(d:L (λc=>p c\/a.size<=c) k a1):L p a a1:=⟨AF b.size d.size,λc e f=>(d.get c (CI e b.size) (λa=>a.elim f (λa=>by omega))).trans (b.get c e f)⟩
theorem L.push(a:W)(c:Obj):L p a (a.push c):=⟨by simp,λb d _=>by grind⟩
theorem L.ae(d:L p a k){b:Nat}(c:a[b]?=Z c8)(e:¬p b):k[b]?=Z c8:=(d.get b (IS.1 c).1 e).trans c
theorem Ao(c:a[b]?=Z c8):b<a.size:=(IS.1 c).1
theorem YL(b:ah a a4=Z u):a4.block<a.size:=by grind[ah,Ao]
theorem Rw(b:k[a4.block]?=a[a4.block]?):ah k a4=ah a a4:=by unfold ah;rw[b]
theorem L.ah(m:L p a k)(b:ah a a4=Z u)(c:¬p a4.block):Lf.ah k a4=Z u:=(Rw (m.get _ (YL b) c)).trans b
theorem G.ah(m:G a k)(b:Lf.ah a a4=Z u):Lf.ah k a4=Z u:=L.ah m b (λa=>a)
theorem Ip(c:a[b]?=Z (.cells bi x bu)):ah a ⟨b,f,V⟩=bi[f]?:=by simp[ah,c]
theorem SX(c:a[b]?=Z (.cells bi x (0,0))):gV a ⟨b,f,V⟩=false:=by simp[gV,c]
theorem AIg(c:a[b]?=Z (.cells bi x bu)):(cO a ⟨b,f,V⟩ u)[b]?=Z (.cells (bi.setIfInBounds f u) x bu):=by simp[cO,OR,c]
theorem AOU(d:b≠a4.block):(cO a a4 u)[b]?=a[b]?:=by simp[cO,OR,Ne.symm d]
theorem uY:(cO a a4 u).size=a.size:=by simp[cO]
theorem L.set{S:Nat->Prop}(b:S a4.block):L S a (cO a a4 u):=⟨by rw[uY];exact A2 _,λ_ _ c=>AOU (λd=>c (d▸b))⟩
theorem AU(c:∀b,b=a.push c8->b[a.size]?=Z c8->G a b->b.size=a.size+1->c3 a.size b):bU a c8 c3:=c _ rfl (by simp) (L.push a c8) (by simp)
theorem Ab(d:a[b]?=Z (.cells bi x (0,0)))(e:f<bi.size)(g:∀c,c[b]?=Z (.cells (bi.setIfInBounds f u) x (0,0))->L (· =b) a c->c.size=a.size->bf c):aj a ⟨b,f,V⟩ u bf:=⟨⟨bi[f],by rw[Ip d];simp[e]⟩,SX d,g _ (AIg d) (L.set rfl) uY⟩
theorem AA(a:ap=Y->c6)(c:ap=U->et):cY ap c6 et:=by cases ap;{exact c rfl};exact a rfl
theorem AV(a:ap=Y)(c:c6):cY ap c6 et:=by subst a;exact c
theorem AP(a:ap=U)(c:et):cY ap c6 et:=by subst a;exact c
theorem T9{p:Q2}{k:Nat}(c:p=Z a4)(e:k<b)(d:e3 a4):iT p b (k:Int) e3:=⟨a4,c,⟨by omega,by omega⟩,d⟩
theorem Tq(a:ap=Y)(c:c6):qk ap c6:=by subst a;exact c
def AR{a:ao->W->Prop}{b:(ao->W->Prop)->Prop}(d:∀K:ao->W->Prop,(∀x c,a x c->K x c)->b K):fO a b:=d
theorem I9.func{A:ai}{P:Q1}{f:Q8}{first cp args:Array J0}{h:W}{R:A3V}(b:(callFunc f (first++args++cp)).calc P=Z (.enter f (first++args++cp)))(c:AJ A P f (first++args++cp) h R):I9 A P (.func (.func f) first cp) args h R:=by
 intro n;have e:=EM b (A.at h n);have d:(do let a<-Deferred.ofValue (.func (.func f) first cp) args;invoke a.target a.args).run P (A.at h n)=.ok (.enter f (first++args++cp)) (A.at h n):=by simp_all[Deferred.ofValue,Sem.run_bind,Sem.run_pure,Result.andThen_ok,invoke]
 rw[d];exact c n
structure bW (α:Type) where
 enc:α->List J0
 w:Nat
 len: ∀x,J (enc x)=w
 pos:0<w
 one: ∀x v,v∈enc x->QF v=Y
def Cells(b:W)(c:Q6)(d:List J0):Prop:=∀a v,d[a]?=Z v->ah b (c.add a)=Z v
theorem Cells.mod(b:Cells a a4 b3)(m:L p a k)(c:¬p a4.block):Cells k a4 b3:=λd v e=>m.ah (b d v e) (by rw[aY];exact c)
structure View {α:Type} (f0:bW α) (h:W) (s:Sl) (l:List α):Prop where
 len:s.len=J l
 cap:s.len<=s.cap
 cells: ∀i x,l[i]? =Z x-> ∃a,s.p=Z a/\Cells h (a.add (i*f0.w)) (f0.enc x)
def Sl.ae(a:Sl):Option Nat:=a.p.map (·.block)
theorem View.mod{d:bW ao}{e:List ao}(c:View d k j e)(m:L p k a1)(l:∀b,j.ae=Z b->¬p b):View d a1 j e:=⟨c.len,c.cap,λi x hi=>let⟨a,f,g⟩:=c.cells i x hi;⟨a,f,g.mod m (by simp_all[aY,Sl.ae])⟩⟩
def View.ext{b:Type}{c:bW b}{a d:W}{e:Sl}{f:List b}(g:View c a e f)(m:G a d):View c d e f:=g.mod m λ_ _ a=>a
theorem View.nil{b:bW ao}:View b a ⟨V,0,0⟩ []:=⟨rfl,A2 _,λ_ _ a=>by simp at a⟩
theorem View.at{d:bW ao}{b:List ao}(e:View d k j b){i:Nat}(hi:i<J b):∃a,j.p=Z a/\i<j.len/\∀c u,(d.enc b[i])[c]?=Z u->ah k ((a.add (i*d.w)).add c)=Z u:=let⟨a,f,g⟩:=e.cells i b[i] (by simp[hi]);⟨a,f,by rw[e.len];exact hi,λc u l=>g c u l⟩
structure Own {α:Type} (f0:bW α) (f3:Q7) (h:W) (s:Sl) (l:List α):Prop where
 len:s.len=J l
 row:(s=⟨V,0,0⟩/\l= [])\/ ∃g cur,s.p=Z ⟨g,0,V⟩/\h[g]? =Z (.cells cur f3 (0,0))/\s.len<=s.cap/\s.cap<=maxLen/\cur.size=s.cap*f0.w/\cur.toList.take (s.len*f0.w)=l.flatMap f0.enc
theorem Own.nil{b:bW ao}:Own b x a ⟨V,0,0⟩ []:=⟨rfl,.inl ⟨rfl,rfl⟩⟩
theorem dM{α:Type}{f0:bW α}:∀{l:List α}{i:Nat}{x:α},l[i]?=Z x->∀a v,(f0.enc x)[a]?=Z v->(l.flatMap f0.enc)[i*f0.w+a]?=Z v|[],i,x,b,_,_,_=>by simp at b|y::l,0,x,b,a,v,c=>by grind|y::l,i+1,x,b,a,v,c=>by rw[CC,Lz (by rw[f0.len,DE];omega),f0.len];rw[show(i+1)*f0.w+a-f0.w=i*f0.w+a by rw[DE];omega];exact dM (α:=α) (by simpa using b) a v c
theorem P9{α:Type}{a:bW α}:∀{l:List α},J (l.flatMap a.enc)=J l*a.w|[]=>by simp|x::l=>by rw[CC,A6,P9 (α:=α),a.len,AW,DE];omega
theorem Own.view{b:bW ao}{c:List ao}(d:Own b bd a j c):View b a j c:=by rcases d.row with⟨rfl,rfl⟩|⟨g,o,e,f,k,_,p,l⟩;{exact View.nil};refine⟨d.len,k,λi x hi=>⟨_,e,λm v n=>?_⟩⟩;have:=dM hi m v n;rw[<-l,HD]at this;split at this;{rw[add_add,CR,Ip f];simpa using this};cases this
theorem Own.mod{c:bW ao}{d:List ao}(e:Own c x a j d)(m:L p a k)(i:∀b,j.ae=Z b->¬p b):Own c x k j d:=by refine⟨e.len,?_⟩;rcases e.row with l|⟨g,n,f,o,rest⟩;{exact .inl l};exact .inr ⟨g,n,f,m.ae o (i g (by simp[Sl.ae,f])),rest⟩
def Own.ext{b:Type}{c:bW b}{d:Q7}{a e:W}{f:Sl}{g:List b}(h:Own c d a f g)(m:G a e):Own c d e f g:=h.mod m λ_ _ a=>a
theorem Own.lit{f0:bW ao}{f3:Q7}{l:List ao}(d:a[b]?=Z (.cells bi f3 (0,0)))(c:bi.toList=l.flatMap f0.enc)(e:J l<=maxLen):Own f0 f3 a ⟨Z ⟨b,0,V⟩,J l,J l⟩ l:=by
 have f:bi.size=J l*f0.w:=by rw[<-OS,c,P9]
 exact⟨rfl,.inr ⟨b,bi,rfl,d,A2 _,e,f,by rw[c];exact Bm (by grind)⟩⟩
def Sn(a:Q1)(d b:Q7)(c e:Nat):Bool:=match a.underlying d with|some (.slice f)=>(Nat.beq f b&&match a.info? b with|some i=>(Nat.beq i.size c&&Nat.beq i.bytes e&&match i.zero with|some g=>Nat.beq g.cells.size c|none=>U)|none=>U)|_=>U
theorem uZ(a:Sn T x bd b f=Y):T.underlying x=Z (.slice bd)/\∃i c,T.info? bd=Z i/\i.zero=Z c/\i.size=b/\i.bytes=f/\c.cells.size=b:=by unfold Sn at a;split at a;{rename_i d e;split at a;{rename_i i hi;split at a;{simp_all};simp at a};simp at a};simp at a
theorem AXA{A:ai}{h:W}{n:Nat}(a:bb=A.at h n)(b:ep.os=bb.os)(c:ep.tape=bb.tape)(d:ep.output=bb.output):ep=A.at ep.heap ep.drawn:=by cases ep;simp_all[ai.at]
theorem Sz(a:QF u=Y):u.oneCell'=true:=by cases u<;>first|rfl|(simp[QF]at a)
theorem Own.nR{c:bW ao}{e:List ao}(f:Own c x a j e):(d.at a b).ownsRow 0 x c.w (.slice j.p j.len j.cap) j.len (e.flatMap c.enc):=by refine⟨by rw[P9,f.len],?_⟩;rcases f.row with⟨rfl,rfl⟩|⟨g,i,k,l,m,o,p,q⟩;{exact .inl ⟨rfl,rfl⟩};exact .inr ⟨g,j.cap,i,by rw[k],AE _,l,m,o,p,q⟩
theorem ALU{c:bW ao}{a:List ao}(d:bb.ownsRow 0 x c.w u b (a.flatMap c.enc))(e:b=J a):∃s:Sl,u=.slice s.p s.len s.cap/\Own c x bb.heap s a/\(u=.slice V 0 0->s=⟨V,0,0⟩):=by rcases d.2 with⟨rfl,p⟩|⟨g,f,h,rfl,_,i,j,k,l,m⟩;{have:a=[]:=HG (by omega);subst this;exact⟨⟨V,0,0⟩,rfl,Own.nil,λ_=>rfl⟩};refine⟨⟨Z ⟨g,0,V⟩,b,f⟩,rfl,⟨e,.inr ⟨g,h,rfl,i,j,k,l,m⟩⟩,λo=>by cases o⟩
theorem Fe{f0:bW ao}{f3:Q7}(aw:Sn T bd f3 f0.w f=Y){s src:Sl}{l m:List ao}(o:Own f0 f3 k s l)(X:View f0 k src m)(q:(J l+J m)*f<=140737488355328)(ah:J l+J m<=maxLen)(ai:∀e C,Own f0 f3 C e (l++m)->L (λb=>s.ae=Z b) k C->(∀b,e.ae=Z b->s.ae=Z b\/k.size<=b)->(e.p=V↔s.p=V/\m=[])->ec e C):Eo d T (Builtin.append_ #[bd,bd] bs #[.slice s.p s.len s.cap,.slice src.p src.len src.cap]) k λv C=>∃e:Sl,v=.slice e.p e.len e.cap/\ec e C:=by
 obtain⟨r,i,W,hi,O,H,hB,ax⟩:=uZ aw;intro n;have aj:=X.len;by_cases ae:m=[];{subst ae;simp only[IN,AK,GF]at*;have ay:(Builtin.append_ #[bd,bd] bs #[.slice s.p s.len s.cap,.slice src.p src.len src.cap]).run T (d.at k n)=.ok (.slice s.p s.len s.cap) (d.at k n):=by{have af:=o.view.cap;have y:∀w:World,(Builtin.firstCells i.size 0 (.slice src.p 0 src.cap)).run T w=.ok #[] w:=by{intro w;cases src.p<;>simp[Builtin.firstCells,loadCells,loadCellsFrom]};cases z:s.p with|none=>simp[Builtin.append_,CB r,run_sizeOf hi,Builtin.lenOf,aj,af,y]|some a=>simp[Builtin.append_,CB r,run_sizeOf hi,Builtin.lenOf,aj,af,y,storeCells]};exact⟨_,k,n,ay,s,rfl,ai s k o L.refl (λb q=>.inl q) (by simp)⟩};have ak:=Hn.2 ae;obtain⟨a,az,_⟩:=X.cells 0 m[0] (by simp[ak]);have I:∀j u,(m.flatMap f0.enc)[j]?=Z u->(d.at k n).cell? (a.add j)=Z u:=by intro j u aA;have aO:j<J m*f0.w:=by{grind[P9,List.getElem?_eq_some_iff]};have aB:j/f0.w<J m:=Nat.div_lt_of_lt_mul (by grind);have p:j%f0.w<f0.w:=DB _ f0.pos;have R:m[j/f0.w]?=Z m[j/f0.w]:=by{simp[aB]};have al:j%f0.w<J (f0.enc m[j/f0.w]):=by{rw[f0.len];exact p};have y:=dM R (j%f0.w) _ (A3 al);have N:=Nat.div_add_mod' j f0.w;rw[N,aA]at y;obtain⟨aP,Q,aC⟩:=X.cells _ _ R;rw[az]at Q;cases Q;have:=aC (j%f0.w) _ (A3 al);rw[add_add,N]at this;rw[Dd]at y;rw[y];exact this
 have ap:∀u∈m.flatMap f0.enc,u.oneCell'=true:=by intro u aD;obtain⟨x,_,R⟩:=Wc.1 aD;exact Sz (f0.one x u R)
 obtain⟨aq,ag,p,ar,F,aQ⟩:=run_append_own (d.at k n) 0 bd bs f3 i W f0.w f r hi O H hB ax f0.pos (.slice s.p s.len s.cap) s.len (l.flatMap f0.enc) o.nR a (J m) src.cap (m.flatMap f0.enc) (by rw[P9]) I ap (by rw[o.len];exact ah) (by rw[o.len];exact q) (AE _);rw[<-Ly]at ar;obtain⟨e,aE,aF,aR⟩:=ALU ar (by rw[o.len,A6]);have aS:=AXA rfl F.os F.tape F.output;have S:J (m.flatMap f0.enc)=J m*i.size:=by rw[P9,H]
 have au:((s.len+J m):Int)<=9223372036854775807:=by have:=ah;simp[maxLen]at this;rw[o.len];omega
 have aG:(s.len+J m)*i.bytes<=140737488355328:=by rw[o.len,hB];exact q
 have aH:∃g c,aq=.slice (Z ⟨g,0,V⟩) (s.len+J m) c/\(s.ae=Z g\/g=k.size):=by rcases o.row with⟨rfl,rfl⟩|⟨g,aI,z,aJ,af,aU,aK,aV⟩;{rw[run_append_nil (d.at k n) bd bs f3 i W r hi O a (J m) src.cap (m.flatMap f0.enc) S I ak (by simpa using au) (by grind)]at p;cases p;exact⟨k.size,_,by rw[B9];rfl,.inr rfl⟩};by_cases av:s.len+J m<=s.cap;{rw[z,run_append_room (d.at k n) bd bs f3 i r hi g s.len s.cap aI aJ a (J m) src.cap (m.flatMap f0.enc) S I ap av (by rw[S,aK,<-H,<-DE];exact DG _ av)]at p;cases p;exact⟨g,_,rfl,.inl (by simp[Sl.ae,z])⟩};rw[z,run_append_grow (d.at k n) bd bs f3 i W r hi O ⟨g,0,V⟩ s.len s.cap (l.flatMap f0.enc) (by rw[P9,o.len,H]) (o.nR|>.cells (by simp[Value.ownBlock,z])) a (J m) src.cap (m.flatMap f0.enc) S I (by omega) au (growslice_fits (by omega) aG)]at p;cases p;exact⟨k.size,_,rfl,.inr rfl⟩
 obtain⟨g,c,aW,aX⟩:=aH;have aL:e.p=Z ⟨g,0,V⟩:=by grind
 refine⟨aq,ag.heap,ag.drawn,by grind,e,aE,ai e ag.heap aF ⟨F.size,?_⟩ (by grind[Sl.ae]) ?_⟩;{intro b q aM;refine F.block b q ?_;intro aY;apply aM;unfold Sl.ae;cases z:s.p with|none=>grind[Value.ownBlock]|some a=>grind[Value.ownBlock]};rw[aL];simp[ae]
theorem AY{f:(ao->W->Prop)->ao->W->Prop}(c:Nat->ao->W->Prop)(g:∀K m x a,c m x a->(∀b d e,b<m->c b d e->K d e)->f K x a){m:Nat}{x:ao}(i:c m x a):Loop f x a:=by intro K j;induction m using Nat.strongRecOn generalizing x a with|_ m k=>exact j _ _ (g K m x a i λb d e l n=>k b l n)
theorem Io(a:b<=9223372036854775807):J8 D (b:Int)=(b:Int):=by grind[J8,IntKind.bits,IntKind.signed]
theorem OH{a:Type}[BEq a][LawfulBEq a]{b c:a}(d:(b !=c)=Y):b≠c:=by simpa using d
theorem MZ{a:Type}[BEq a][LawfulBEq a]{b c:a}(d:(b !=c)=U):b=c:=by simpa using d
theorem CV{a:Type}[BEq a][LawfulBEq a]{b c:a}(d:(b==c)=U):b≠c:=by simpa using d
theorem lO{a:Type}[BEq a][LawfulBEq a]{b c:a}(d:b≠c):(b !=c)=true:=by simpa using d
theorem AZJ{a:Type}[BEq a][LawfulBEq a]{b c:a}(d:b=c):(b==c)=true:=by simpa using d
theorem Ac(a:b<9223372036854775807):J8 D ((b:Int)+(1:Int))=((b+1:Nat):Int):=by rw[show(b+1)=((b+1):Int)by omega];exact Io a
def Ul(b:ah a a4=Z u)(c:cc u):qg a a4 cc:=⟨u,b,c⟩
def AC{b:Int->Prop}{n:Int}(c:ah a a4=Z (.int ci n))(d:b n):JX ci a a4 b:=⟨n,c,d⟩
def AZ{b:Bool->Prop}{n:Bool}(c:ah a a4=Z (J3 n))(d:b n):jW a a4 b:=⟨n,c,d⟩
def AO{b:E->Prop}{n:E}(c:ah a a4=Z (J7 n))(d:b n):KI a a4 b:=⟨n,c,d⟩
def Ah{b:Q2->Prop}{n:Q2}(c:ah a a4=Z (J5 n))(d:b n):jX a a4 b:=⟨n,c,d⟩
def AQ{b:Sl->Prop}{s:Sl}(c:ah a a4=Z (J4 s.p s.len s.cap))(d:b s):JM a a4 b:=⟨s,c,d⟩
theorem AL(c:a[b]?=Z (J2 bi x bu))(d:bi[f]?=Z u):ah a ⟨b,f,V⟩=Z u:=by rw[Ip c];exact d
theorem AB(c:a[b]?=Z (J2 bi x bu))(d:bi[f]?=Z u):ah a ((⟨b,0,V⟩:Q6).add f)=Z u:=by rw[CR,B9];exact AL c d
structure Pr where
 key:E
 val:E
 gone:Bool
deriving DecidableEq
def Pr.agg(x:Pr):J0:=.agg #[J7 x.key,J7 x.val,J3 x.gone]
def Pr.cells(x:Pr):Array J0:=#[J7 x.key,J7 x.val,J3 x.gone]
def Ca:bW Pr where enc x:=[J7 x.key,J7 x.val,J3 x.gone];w:=3;len _:=rfl;pos:=by{omega};one x v a:=by simp at a;rcases a with rfl|rfl|rfl<;>rfl
def j3:bW Sl where enc s:=[J4 s.p s.len s.cap];w:=1;len _:=rfl;pos:=by{omega};one x v a:=by simp at a;subst a;rfl
structure j4 where
 v:J0
 one:QF v=Y
def mU:bW j4 where enc s:=[s.v];w:=1;len _:=rfl;pos:=by{omega};one x v a:=by simp at a;subst a;exact x.one
theorem View.idx{b:bW ao}{c:List ao}(d:View b k j c){i:Nat}{x:ao}(hi:c[i]?=Z x)(f:∀a,j.p=Z a->Cells k (a.add (i*b.w)) (b.enc x)->e3 a):iT j.p j.len (i:Int) e3:=by
 obtain⟨a,e,g⟩:=d.cells i x hi;have:i<j.len:=by rw[d.len];grind
 exact T9 e this (f a e g)
theorem Cells.pair{x:Pr}(b:Cells a a4 (Ca.enc x)):ah a a4=Z (J7 x.key)/\ah a (a4 1)=Z (J7 x.val)/\ah a (a4 2)=Z (J3 x.gone):=by have c:=b 0 _ rfl;rw[add_zero]at c;exact⟨c,b 1 _ rfl,b 2 _ rfl⟩
theorem Cells.sl{x:Sl}(b:Cells a a4 (j3.enc x)):ah a a4=Z (J4 x.p x.len x.cap):=by have c:=b 0 _ rfl;rwa[add_zero]at c
theorem Cells.val{x:j4}(b:Cells a a4 (mU.enc x)):ah a a4=Z x.v:=by have c:=b 0 _ rfl;rwa[add_zero]at c
theorem bU.pair{d:E}(l:∀b c,b=a.size->c[b]?=Z (J2 #[J7 d9,J7 d,J3 e2] x (0,0))->G a c->c.size=a.size+1->c3 b c):bU a (J2 #[J7 h,J7 a3,J3 ap] x) λb e=>aj e ⟨b,0,V⟩ (J7 d9) λf=>aj f ((⟨b,0,V⟩:Q6) 1) (J7 d) λi=>aj i ((⟨b,0,V⟩:Q6) 2) (J3 e2) λj=>c3 b j:=by refine AU λe _ n o w=>?_;refine Ab n (by simp) λf p q y=>?_;rw[CR,CR];refine Ab p (by simp) λi r s z=>?_;refine Ab r (by simp) λj t u A=>?_;refine l _ _ rfl (by simpa using t) ?_ (by omega);have m:=(q.trans s).trans u;exact⟨by omega,λb v _=>(m.get b (by omega) (by omega)).trans (o.get b v (by simp))⟩
theorem BO{f0:bW ao}{x:ao}(j:bi.toList=f0.enc x)(k:Sn T bd e8 f0.w f=Y){s:Sl}{l:List ao}(m:Own f0 e8 a s l)(n:(J l+1)*f<=140737488355328)(o:J l+1<=maxLen)(p:∀c e,Own f0 e8 e c (l++[x])->L (λb=>s.ae=Z b) a e->(∀b,c.ae=Z b->s.ae=Z b\/a.size<=b)->c.p≠V->ec c e):bU a (J2 bi e8) λb g=>Eo d T (Builtin.append_ #[bd,bd] bs #[J4 s.p s.len s.cap,J4 (Z ⟨b,0,V⟩) 1 1]) g λv e=>∃c:Sl,v=J4 c.p c.len c.cap/\ec c e:=by refine AU λg _ q i y=>?_;have r:Own f0 e8 g ⟨Z ⟨a.size,0,V⟩,1,1⟩ [x]:=Own.lit (f0:=f0) (l:=[x]) q (by simp[j]) (by simp[maxLen]);refine Fe (s:=s) (src:=⟨Z ⟨a.size,0,V⟩,1,1⟩) k (m.ext i) r.view (by simpa using n) (by simpa using o) λc e u w z C=>?_;refine p c e u ?_ ?_ ?_;{exact i.mod.trans w};{grind};simp_all
theorem View.sub{b:bW ao}{d:List ao}(e:View b k j d){lo hi:Nat}(g:lo<=hi)(l:hi<=J d):View b k ⟨BC j.p j.cap lo b.w,hi-lo,j.cap-lo⟩ ((d.take hi).drop lo):=by have m:=e.cap;have n:=e.len;refine⟨by simp;omega,by simp;omega,λi x c=>?_⟩;rw[Fl,HD]at c;split at c;{rename_i o;obtain⟨a,p,f⟩:=e.cells _ _ c;refine⟨a.add (lo*b.w),?_,?_⟩;{simp_all[BC,A0];omega};rw[add_add,<-DE];exact f};cases c
theorem YZ{p:Q2}{lo:Nat}{len:Nat}(a:Sl.ae ⟨BC p b lo f,len,y⟩=Z o):p.map (·.block)=Z o:=by unfold Sl.ae BC at a;split at a;{exact a};simp_all[aY]
def Yields(f:ai)(h:Q1)(j:J0)(k:List Pr)(d:Nat->Bool->(Nat->Prop)->W->Prop):Prop:=∀i x c a,k[i]?=Z x->d i Y c a->I9 f h j #[x.agg] a λv e=>∃g O',v=J3 g/\(∀b,O' b->c b\/a.size<=b)/\L c a e/\d (i+1) g O' e
structure Body (h:W) (J:Nat->Bool->(Nat->Prop)->W->Prop):Prop where
 wf: ∀i g f6 hh,J i g f6 hh-> ∀b,f6 b->b<hh.size
 aZ: ∀i g f6 hh h',J i g f6 hh->L (λb=>¬f6 b/\h.size<=b) hh h'->J i g f6 h'
def FZ(m:ai)(j:Q1)(p:J0)(k:Nat->Prop)(n:W)(l:List Pr):Prop:=(∀b,k b->b<n.size)/\∃f d,p=.func (.func f) #[] d/\(∀a,(callFunc f (#[]++#[a]++d)).calc j=Z (.enter f (#[]++#[a]++d)))/\∀(c:W),(∀b,k b->c[b]?=n[b]?)->∀a e h,QF a=Y->(∀b,k b->¬h b)->Body c e->Yields m j a l e->e 0 Y h c->AJ m j f (#[]++#[a]++d) c λv o=>v=J1 #[]/\∃i g O',L h c o/\(∀b,O' b->h b\/c.size<=b)/\e i g O' o/\(g=Y->i=J l)/\i<=J l
variable{m:List Pr}
theorem FZ.af{S':Nat->Prop}(g:FZ d T u p a m)(e:∀b,p b->S' b)(h:∀b,S' b->b<k.size)(i:∀b,p b->k[b]?=a[b]?):FZ d T u S' k m:=by have⟨_,f,j,n,o,q⟩:=g;refine⟨h,f,j,n,o,λr s t v w x hd=>q r (λb c=>(s b (e b c)).trans (i b c)) t v w x λb c=>hd b (e b c)⟩
theorem FZ.one(b:FZ d T u p a m):QF u=Y/\lq u/\lx u=false:=by obtain⟨_,f,c,rfl,_⟩:=b;exact⟨rfl,by simp[lq],rfl⟩
def AZF(x:Pr):iZ [.agg [.str,.str,.bool]]:=((x.key,x.val,x.gone,()),())
def AMd(c:Nat)(rec:Go.Loop)(d:W)(e:Nat->Prop)(f:(Nat->Prop)->W->Prop)(a:W):Prop:=∃O',(∀b,O' b->e b\/d.size<=b)/\L (λb=>e b\/b=c) d a/\a[c]?=Z (.loop {rec with state:=.busy})/\f O' a
theorem BA{S:Nat->Prop}(c:S f):L S a (a.setIfInBounds f c8):=⟨by simp,λb _ d=>by grind⟩
theorem Dh{o:Obj}(c:b<a.size):(a.setIfInBounds b o)[b]?=Z o:=by simp[c]
theorem vd(aC:FZ d T u p a m)(aD:∀b,p b->k[b]?=a[b]?)(w:Nat->Option (Option Nat)->(Nat->Prop)->W->Prop)(r:Nat->Prop)(aS:∀b,p b->¬r b){ao:iZ [.agg [.str,.str,.bool]]->Nat->W->(W->Prop)->(Option Nat->W->Prop)->Prop}{ap:Option Nat->W->Prop}(ag:∀i c r e,w i c r e->∀b,r b->b<e.size)(C:∀i c r e j,w i c r e->L (λb=>¬r b/\k.size<=b) e j->w i c r j)(aq:w 0 V r k)(aE:∀i x o e rec ar au,m[i]?=Z x->w i V o e->¬o (k.size+1)->k.size+1<e.size->e[k.size+1]?=Z (.loop rec)->rec.state=.ready->(∀j,AMd (k.size+1) rec e o (w (i+1) V) j->ar j)->(∀s j,AMd (k.size+1) rec e o (w (i+1) (Z s)) j->au s j)->ao (AZF x) (k.size+1) e ar au)(aF:∀O' j,w (J m) V O' j->L r k j->¬O' k.size->(∀b,O' b->r b\/k.size<=b)->j[k.size]?=Z (.deferred (Z []))->bf j)(aG:∀i s O' j,w i (Z s) O' j->i<=J m->L r k j->¬O' k.size->(∀b,O' b->r b\/k.size<=b)->j[k.size]?=Z (.deferred (Z []))->ap s j):VN d T u [.agg [.str,.str,.bool]] ao k bf ap:=by
 intro rec ae ah aU aH;obtain⟨aV,f,av,rfl,aI,aJ⟩:=aC;have aK:=ag _ _ _ _ aq;have aL:∀b,p b->b<k.size:=λb q=>by grind
 have ai:G k ((k.push (.deferred (Z []))).push (.loop rec)):=(L.push k _).trans (L.push _ _);have aW:((k.push (.deferred (Z []))).push (.loop rec)).size=k.size+2:=by simp
 refine⟨f,_,?_,AJ.mono (aJ ((k.push (.deferred (Z []))).push (.loop rec)) (λb q=>(ai.get b (aL b q) (by simp)).trans (aD b q)) (.func (.yield (k.size+1)) #[] #[]) (λi g K e=>∃o:Nat->Prop,(∀b,K b↔o b\/b=k.size\/b=k.size+1)/\¬o k.size/\¬o (k.size+1)/\(∀b,o b->r b\/k.size<=b)/\k.size+2<=e.size/\e[k.size]?=Z (.deferred (Z []))/\match g with|true=>e[k.size+1]?=Z (.loop rec)/\w i V o e|false=>∃s B,e[k.size+1]?=Z (.loop B)/\B.state≠.busy/\B.pending=Z (mR s)/\w i (Z s) o e) (λb=>r b\/b=k.size\/b=k.size+1) rfl ?_ ?_ ?_ ?_) ?_⟩;{have aM:(do let aw<-Deferred.ofValue (.func (.func f) #[] av) #[.func (.yield (k.size+1)) #[] #[]];invoke aw.target aw.args).calc T=(callFunc f (#[]++#[.func (.yield (k.size+1)) #[] #[]]++av)).calc T:=rfl;unfold UA;rw[aM,aI]};{grind};{constructor;{rintro i g K e⟨o,y,_,_,_,aj,_,z⟩b q;rcases(y b).1 q with n|n|n;{cases g;{obtain⟨s,B,_,_,_,F⟩:=z;exact ag _ _ _ _ F b n};exact ag _ _ _ _ z.2 b n};{omega};omega};rintro i g K e j⟨o,y,H,I,R,aj,X,z⟩t;have ax:L (λb=>¬o b/\k.size<=b) e j:=t.af λb _ q=>⟨λn=>q.1 ((y b).2 (.inl n)),by omega⟩;have ay:=t.get _ (by omega) λq=>q.1 ((y _).2 (.inr (.inr rfl)));refine⟨o,y,H,I,R,by have:=t.size;omega,(t.get _ (by omega) λq=>q.1 ((y _).2 (.inr (.inl rfl)))).trans X,?_⟩;cases g;{obtain⟨s,B,n,af,ak,F⟩:=z;exact⟨s,B,ay.trans n,af,ak,C _ _ _ _ _ F ax⟩};exact⟨ay.trans z.1,C _ _ _ _ _ z.2 ax⟩};{rintro i x K e hi⟨o,y,H,I,R,aj,X,az,F⟩;refine aH (AZF x) e _ az (aE i x o e rec _ _ hi F I ?_ az ae ?_ ?_);omega;{rintro j⟨O',aO,t,al,N⟩;have Q:k.size+1<j.size:=by{have:=t.size;omega};refine⟨_,al,Y,λb=>O' b\/b=k.size\/b=k.size+1,rfl,?_,?_,O',λ_=>Ek,?_,by grind,by grind,?_,?_,?_,?_⟩;{grind};{refine(t.trans (BA (.inr rfl))).af λb _ q=>(y b).2 (q.elim .inl λn=>.inr (.inr n))};{grind};{simp;omega};{rw[HN (by omega)];exact(t.get _ (by omega) (by rintro(n|n);exact H n;omega)).trans X};{rw[Dh Q];cases rec;simp at ae ah;simp[ae,ah]};refine C _ _ _ _ _ N (BA ⟨?_,by omega⟩);grind};rintro s j⟨O',aO,t,al,N⟩;have Q:k.size+1<j.size:=by{have:=t.size;omega};refine⟨_,al,U,λb=>O' b\/b=k.size\/b=k.size+1,rfl,?_,?_,O',λ_=>Ek,?_,?_,?_,?_,?_,s,{rec with state:=.done,pending:=Z (mR s)},Dh Q,by simp,rfl,?_⟩;{grind};{refine(t.trans (BA (.inr rfl))).af λb _ q=>(y b).2 (q.elim .inl λn=>.inr (.inr n))};{grind};{grind};{grind};{simp;omega};{rw[HN (by omega)];exact(t.get _ (by omega) (by rintro(n|n);exact H n;omega)).trans X};refine C _ _ _ _ _ N (BA ⟨?_,by omega⟩);grind};{refine⟨r,λ_=>Ek,λn=>?_,λn=>?_,λb q=>.inl q,by omega,?_,?_⟩;rotate_left 2;{grind};{exact⟨by grind,C _ _ _ _ _ aq ai.mod⟩};{have:=aK _ n;omega};grind};rintro v af⟨_,i,g,K,t,aX,⟨o,y,H,I,R,aj,X,z⟩,aP,aQ⟩;have aA:∀O,L r k (af.setIfInBounds (k.size+1) (.loop O)):=λO=>by refine⟨by simp;omega,λb q aY=>?_⟩;rw[HN (by omega)];exact(t.get b (by omega) (by grind)).trans (ai.get b q (by simp))
 have aB:∀O,(af.setIfInBounds (k.size+1) (.loop O))[k.size]?=Z (.deferred (Z [])):=λO=>by simp_all
 cases g;{have⟨s,B,n,ak,aR,F⟩:=z;exact⟨B,n,ak,.inr ⟨s,aR,aG i s o _ (C _ _ _ _ _ F (BA ⟨I,by omega⟩)) aQ (aA _) H R (aB _)⟩⟩};refine⟨rec,z.1,by simp[ae],.inl ⟨ah,aF o _ ?_ (aA _) H R (aB _)⟩⟩;have:=aP rfl;subst this;exact C _ _ _ _ _ z.2 (BA ⟨I,by omega⟩)
open Go Ieee
abbrev fD:Format:=Ieee.double
theorem AOV(a:Bool)(m b c:Nat):signed a m (b+c)=signed a m b*(2:Int)^c:=by grind[signed,Nat.shiftLeft_eq,Nat.pow_add,Nat.mul_assoc,Int.neg_mul]
def DV(b:Datum)(c:Int):Prop:=∃s m,∃a:Nat,b=.number s m (-(a:Int))/\signed s m 0=c*(2:Int)^a
def VR(a:Nat)(b:Int):Prop:=DV (fD.read a) b
theorem RS(a:Bool)(m b:Nat):signed a m b=signed a m 0*(2:Int)^b:=by have:=AOV a m 0 b;rwa[B9]at this
theorem pow_pos(a:Nat):(0:Int)<(2:Int)^a:=Int.pow_pos (by decide)
theorem AKz(a b:Int)(c:Nat):compare (a*(2:Int)^c) (b*(2:Int)^c)=compare a b:=by have d:=pow_pos c;simp only[compare,compareOfLessAndEq];have e:(a*2^c<b*2^c)↔a<b:=Int.mul_lt_mul_right d;have f:(a*2^c=b*2^c)↔a=b:=Int.mul_eq_mul_right_iff (by omega);by_cases g:a<b<;>by_cases h:a=b<;>simp[e,f,g,h]
theorem DV.order{x d:Datum}{m:Int}(e:DV x i)(f:DV d m):x.order d=Z (compare i m):=by
 obtain⟨s,a,c,rfl,h⟩:=e;obtain⟨t,b,l,rfl,g⟩:=f;simp only[Datum.order];congr 1;have j:(-(c:Int)-min (-(c:Int)) (-(l:Int))).toNat=max c l-c:=by omega
 have k:(-(l:Int)-min (-(c:Int)) (-(l:Int))).toNat=max c l-l:=by omega
 rw[j,k,RS s,RS t,h,g,My,My,<-Mz,<-Mz,show c+(max c l-c)=max c l by omega,show l+(max c l-l)=max c l by omega,AKz]
theorem VR.order{x:Nat}{m:Int}(a:VR x i)(c:VR b m):fD.order x b=Z (compare i m):=DV.order a c
theorem cmp_eq{m:Int}:(compare i m=.eq)↔i=m:=by simp_all
theorem AIO(a:Bool)(c:b<fD.signWeight):fD.read (fD.word a b)=if b<fD.binade then .number a b fD.leastPlace else if b<fD.infRung then .number a (fD.binade+b%fD.binade) (fD.leastPlace+(b/fD.binade-1:Nat))else if b=fD.infRung then .infinity a else .nan a (b-fD.infRung):=by
 have f:0<fD.signWeight:=MA _;have d:(fD.word a b/fD.signWeight%2==1)=a:=by grind[Format.word,Nat.div_eq_of_lt,Nat.add_div_left]
 have e:fD.word a b%fD.signWeight=b:=by unfold Format.word;cases a;{simp[BW c]};simp[BW c]
 unfold Format.read;simp only[d,e]
theorem ADS(a:Bool)(b:Nat):signed a 0 b=0:=by cases a<;>simp[signed]
theorem sk:fD.binade=4503599627370496:=by decide
theorem wM:fD.infRung=9218868437227405312:=by decide
theorem AYm:fD.signWeight=9223372036854775808:=by decide
theorem pI:fD.leastPlace=-1074:=by decide
theorem AYv:fD.fractionBits=52:=rfl
theorem AVv(a:Bool):VR (fD.word a 0) 0:=by refine⟨a,0,1074,?_,by rw[ADS,Int.zero_mul]⟩;simp_all[AIO,AYm,A1,sk,pI]
theorem AA8(f:0<b)(a:Nat):(b*2^a).log2=b.log2+a:=by
 have c:b≠0:=by omega
 have g:=MA a;have d:b*2^a≠0:=Nat.mul_ne_zero c (by omega);have e:=(Nat.le_log2 c).1 (A2 _);have h:b<2^(b.log2+1):=(SM c).1 (Wb _);have i:b.log2+a<=(b*2^a).log2:=by rw[Nat.le_log2 d,I3];exact DG _ e
 have j:(b*2^a).log2<b.log2+1+a:=by rw[SM d,I3];simp_all
 omega
theorem AUf(b:Bool)(a:Nat):Toward.even.cut b a 0=a:=by simp[Toward.cut,Nat.mod_one]
theorem ARB(a:Toward)(c:Bool)(e:0<b):a.cut c (b*2^f) f=b:=by unfold Toward.cut;grind[min,AA8,Nat.two_pow_pos,Nat.one_shiftLeft,Nat.mul_mod_left,Nat.mul_div_cancel]
theorem ATq(a:b<=52)(c:f<9007199254740992):min ((b+1022)*4503599627370496+f) 9218868437227405312=(b+1022)*4503599627370496+f:=by omega
theorem AXd(a:4503599627370496<=f):¬(b+1022)*4503599627370496+f<4503599627370496:=by omega
theorem AXv(a:b<=52)(c:f<9007199254740992):(b+1022)*4503599627370496+f<9218868437227405312:=by omega
theorem ASA(a:4503599627370496<=f)(c:f<9007199254740992):((b+1022)*4503599627370496+f)%4503599627370496=f-4503599627370496/\((b+1022)*4503599627370496+f)/4503599627370496=b+1023:=by omega
theorem AXi(a:4503599627370496<=b):4503599627370496+(b-4503599627370496)=b:=by omega
theorem AX1(a:b<=52):(-1074:Int)+((b+1023-1:Nat):Int)=(b:Int)-52:=by omega
theorem AYQ(a:b<=52):(b:Int)-52=-((52-b:Nat):Int):=by omega
theorem AX3(a:b<=52)(c:f<9007199254740992):(b+1022)*4503599627370496+f<9223372036854775808:=by omega
theorem AHU(c:Bool){K:Nat}(k:0<b)(l:b<9007199254740992):VR (fD.nearest c (b*2^K) (-(K:Int))) (if c then-(b:Int)else b):=by
 have g:b≠0:=by omega
 have w:=AA8 k K;have d:b.log2<=52:=by have:b.log2<53:=(SM g).2 (l);omega
 have m:=(Nat.le_log2 g).1 (A2 _);have n:=(SM g).1 (Wb _);have o:¬b*2^K=0:=Nat.mul_ne_zero g (by simp_all);generalize x:b.log2=a at*;have h:4503599627370496<=b*2^(52-a):=by have e:2^a*2^(52-a)<=b*2^(52-a):=DG _ m;rw[<-I3,show a+(52-a)=52 by omega]at e;exact e
 have f:b*2^(52-a)<9007199254740992:=by have e:b*2^(52-a)<2^(a+1)*2^(52-a):=A1n n (MA _);rw[<-I3,show a+1+(52-a)=53 by omega]at e;exact e
 have p:fD.nearest c (b*2^K) (-(K:Int))=fD.word c ((a+1022)*4503599627370496+b*2^(52-a)):=by unfold Format.nearest;rw[A0 o];have q:max (-(K:Int)+((b*2^K).log2:Nat)-(fD.fractionBits:Nat)) fD.leastPlace=(a:Int)-52:=by{grind[pI,AYv]};simp only[q];have r:Toward.even.cut c ((b*2^K)<<<(-(K:Int)-((a:Int)-52)).toNat) (((a:Int)-52)- -(K:Int)).toNat=b*2^(52-a):=by{by_cases y:K+a<=52;{have i:(((a:Int)-52)- -(K:Int)).toNat=0:=by{omega};have j:(-(K:Int)-((a:Int)-52)).toNat=52-a-K:=by{omega};rw[i,j,AUf,A0b,Mn,<-I3];congr 2;omega};have i:(((a:Int)-52)- -(K:Int)).toNat=a+K-52:=by{omega};have j:(-(K:Int)-((a:Int)-52)).toNat=0:=by{omega};have s:b*2^K=(b*2^(52-a))*2^(a+K-52):=by{rw[Mn,<-I3];congr 2;omega};rw[i,j,SO,s,ARB _ _ (by omega)]};have t:(((a:Int)-52)-fD.leastPlace).toNat=a+1022:=by{rw[pI];omega};rw[r,t,sk,wM,ATq d f]
 rw[p];have u:(a+1022)*4503599627370496+b*2^(52-a)<fD.signWeight:=by rw[AYm];exact AX3 d f
 refine⟨c,b*2^(52-a),52-a,?_,?_⟩;{rw[AIO c u,sk,wM,pI,A0 (AXd h),A1 (AXv d f),(ASA h f).1,(ASA h f).2,AXi h,AX1 d,AYQ d]};unfold signed;rw[SO];grind
theorem AUL{K:Nat}(d:signed ap b 0=i*(2:Int)^K)(j:i.natAbs<9007199254740992):VR (fD.write (.number ap b (-(K:Int)))) i:=by
 show VR (fD.nearest ap b (-(K:Int))) i;have g:=pow_pos K;have k:(2:Int)^K=((2^K:Nat):Int):=by push_cast;rfl
 by_cases l:i=0;{subst l;have e:b=0:=by{unfold signed at d;omega};subst e;have h:fD.nearest ap 0 (-(K:Int))=fD.word ap 0:=by{unfold Format.nearest;rw[A1 rfl]};rw[h];exact AVv ap};have e:b=i.natAbs*2^K/\(if ap then-(i.natAbs:Int)else i.natAbs)=i:=by unfold signed at d;rw[SO]at d;have m:(b:Int).natAbs=(i*2^K).natAbs:=by{omega};have h:(i*2^K).natAbs=i.natAbs*2^K:=by{rw[Int.natAbs_mul,k,A0d]};refine⟨by omega,?_⟩;split at d;{rename_i f;rw[A1 f];have:i<=0:=by{rcases Int.lt_or_le 0 i with c|c;{have:=Int.mul_pos c g;omega};exact c};omega};rename_i f;rw[A0 f];have:0<=i:=by{rcases Int.lt_or_le i 0 with c|c;{have:=Int.mul_neg_of_neg_of_pos c g;omega};exact c};omega
 rw[e.1];have:=AHU ap (K:=K) (by omega) j;rw[e.2]at this;exact this
theorem AMA(a:Int):signed (decide (a<0)) a.natAbs 0=a:=by simp_all[signed,SO];omega
theorem DV.sum{x d:Datum}{m:Int}(f:DV x i)(h:DV d m)(j:(i+m).natAbs<9007199254740992):∃e,x.sum d=Z e/\VR (fD.write e) (i+m):=by
 obtain⟨s,a,c,rfl,k⟩:=f;obtain⟨t,b,l,rfl,g⟩:=h;refine⟨_,rfl,?_⟩;have o:min (-(c:Int)) (-(l:Int))=-((max c l:Nat):Int):=by omega
 have p:(-(c:Int)-min (-(c:Int)) (-(l:Int))).toNat=max c l-c:=by omega
 have q:(-(l:Int)-min (-(c:Int)) (-(l:Int))).toNat=max c l-l:=by omega
 have r:signed s a (-(c:Int)-min (-(c:Int)) (-(l:Int))).toNat+signed t b (-(l:Int)-min (-(c:Int)) (-(l:Int))).toNat=(i+m)*(2:Int)^(max c l):=by rw[p,q,RS s,RS t,k,g,My,My,<-Mz,<-Mz,show c+(max c l-c)=max c l by omega,show l+(max c l-l)=max c l by omega,Int.add_mul]
 simp only[r];rw[o];generalize u:(i+m)*(2:Int)^(max c l)=v at*;refine AUL ?_ j;rw[u];split;{simp_all[ADS,trans]};exact(AMA v)
theorem ARS{m:Nat}{i:Int}(a:fD.read b=.number ap m i):i<=0\/4503599627370496<=m:=by grind[Format.read,sk,wM,pI]
theorem ANu(b:Bool)(m a:Nat):(signed b m a).natAbs=m*2^a:=by grind[signed,Nat.shiftLeft_eq,Int.natAbs_neg,Int.natAbs_natCast]
theorem VR.of_eq{x:Nat}{m:Int}(n:VR o m)(u:m.natAbs<4503599627370496)(c:fD.order x o=Z .eq):VR x m:=by obtain⟨t,b,l,p,g⟩:=n;unfold Format.order at c;rw[p]at c;unfold VR;cases e:fD.read x with|nan s f=>rw[e]at c;simp[Datum.order]at c|infinity s=>rw[e]at c;cases s<;>simp[Datum.order]at c|number s a i=>rw[e]at c;simp only[Datum.order,Dd]at c;rw[cmp_eq]at c;by_cases hi:i<=0;{refine⟨s,a,(-i).toNat,by grind,?_⟩;generalize v:(-i).toNat=d;have h:(i-min i (-(l:Int))).toNat=max d l-d:=by{omega};have j:(-(l:Int)-min i (-(l:Int))).toNat=max d l-l:=by{omega};rw[h,j,RS s,RS t,g,My,<-Mz,show l+(max d l-l)=max d l by omega]at c;refine Int.eq_of_mul_eq_mul_right (a:=(2:Int)^(max d l-d)) (by have:=pow_pos (max d l-d);omega) ?_;rw[c,My,<-Mz,show d+(max d l-d)=max d l by omega]};exfalso;have w:=(ARS e).resolve_left hi;have h:(i-min i (-(l:Int))).toNat=i.toNat+l:=by{omega};have j:(-(l:Int)-min i (-(l:Int))).toNat=0:=by{omega};rw[h,j,g]at c;have k:=congrArg Int.natAbs c;have q:(2:Int)^l=((2^l:Nat):Int):=by{push_cast;rfl};rw[ANu,Int.natAbs_mul,q,A0d,I3,<-Mn]at k;have z:a*2^i.toNat=m.natAbs:=Nat.eq_of_mul_eq_mul_right (MA l) k;have r:1<=2^i.toNat:=MA _;have A:a*1<=a*2^i.toNat:=Nat.mul_le_mul_left _ r;omega
theorem VR.inj{x:Nat}{c m:Int}(d:VR x c)(a:VR x m):c=m:=by have e:=VR.order d a;have b:=VR.order a a;rw[e]at b;have f:compare m m=.eq:=cmp_eq.2 rfl;rw[f]at b;exact cmp_eq.1 (CD b)
theorem Eo.calc(b:es.calc T=Z u)(c:e u a):Eo d T es a e:=λn=>⟨u,a,n,EM b _,c⟩
theorem Eo.run(b:∀w,es.run T w=.ok u w)(c:e u a):Eo d T es a e:=λn=>⟨u,a,n,b _,c⟩
open Go
theorem toList_inj{a b:E}:(a.toList==b.toList)=decide (a=b):=by rw[ByteArray.toList_eq,ByteArray.toList_eq];rw[Ft];simp[XS,<-Array.toList_inj]
theorem CG:bK h a3=decide (h=a3):=toList_inj
theorem AIP:∀(a:List UInt8),Op.bytesLess a a=U|[]=>rfl|a::x=>by simp[Op.bytesLess,AIP x]
theorem ASt:∀(a b:List UInt8),Op.bytesLess a b=U->Op.bytesLess b a=U->a=b|[],[],_,_=>rfl|[],_::_,c,_=>by simp[Op.bytesLess]at c|_::_,[],_,c=>by simp[Op.bytesLess]at c|a::x,b::f,d,e=>by simp only[Op.bytesLess,Pa,Bool.and_eq_false_iff,decide_eq_false_iff_not,beq_eq_false_iff_ne]at d e;have g:a=b:=by{grind};subst g;rw[ASt x f (d.2.resolve_left (by simp)) (e.2.resolve_left (by simp))]
theorem AKx:∀(a b c:List UInt8),Op.bytesLess a b=Y->Op.bytesLess b c=Y->Op.bytesLess a c=Y|_,[],_,f,_=>by simp[Op.bytesLess]at f|_,_::_,[],_,f=>by simp[Op.bytesLess]at f|[],_::_,_::_,_,_=>by simp[Op.bytesLess]|a::x,b::g,c::h,e,d=>by simp[Op.bytesLess,Gk,As,B8,beq_iff_eq]at e d⊢;rcases e with e|⟨rfl,e⟩;{grind};rcases d with d|⟨rfl,d⟩;{exact .inl d};exact .inr ⟨rfl,AKx x g h e d⟩
theorem Es(a:E):aQ a a=false:=AIP _
theorem FX(d:aQ h a3=Y)(e:aQ a3 d9=Y):aQ h d9=true:=AKx _ _ _ d e
theorem VV(d:aQ h a3=U)(e:aQ a3 h=U):h=a3:=by
 have:=ASt _ _ d e;have c:bK h a3=true:=by simp[bK,this]
 rw[CG]at c;simpa using c
theorem Uc(c:aQ h a3=Y):aQ a3 h=false:=by grind[aQ,FX,Es]
theorem TC(c:aQ h a3=Y):h≠a3:=by rintro rfl;rw[Es]at c;cases c
theorem AUH(d:aQ h a3=Y)(e:aQ d9 a3=U):aQ h d9=true:=by grind[aQ,VV,FX]
theorem AHy(d:aQ a3 h=U)(e:aQ d9 a3=U):aQ d9 h=false:=by grind[aQ,AUH]
theorem AUO:∀(a b:List UInt8),Op.bytesLess a b=decide (a<b)|[],[]=>by simp[Op.bytesLess]|[],_::_=>by simp[Op.bytesLess]|_::_,[]=>by simp[Op.bytesLess]|a::x,b::c=>by simp[Op.bytesLess,AUO x c,A0Y];grind
theorem pv(a b:E):aQ a b=decide (a.data.toList<b.data.toList):=by simp[aQ,ByteArray.toList_eq,AUO]
def OM:bW E where enc x:=[.string x];w:=1;len _:=rfl;pos:=by{omega};one x v a:=by simp at a;subst a;rfl
def JV:bW Int where enc x:=[.int D x];w:=1;len _:=rfl;pos:=by{omega};one x v a:=by simp at a;subst a;rfl
theorem Cells.str{x:E}(b:Cells a a4 (OM.enc x)):ah a a4=Z (.string x):=by have c:=b 0 _ rfl;rwa[add_zero]at c
theorem Cells.int{x:Int}(b:Cells a a4 (JV.enc x)):ah a a4=Z (.int D x):=by have c:=b 0 _ rfl;rwa[add_zero]at c
theorem Own.lt{c:bW ao}{d:List ao}(e:Own c x a j d)(f:j.ae=Z b):b<a.size:=by rcases e.row with⟨rfl,_⟩|⟨g,i,k,l,_⟩;{simp[Sl.ae]at f};simp_all[Sl.ae,Ao]
def SE(a:E)(b:J0):List (E×J0)->List (E×J0)|[]=>[(a,b)]|p::m=>if p.1=a then(a,b)::m else p::SE a b m
def KJ(a:E)(m:List (E×J0)):Option J0:=(m.find? λp=>decide (p.1=a)).map (·.2)
def jE(a:E)(m:List (E×J0)):List (E×J0):=m.filter λp=>!decide (p.1=a)
theorem Jg(a:E)(p:E×J0)(m:List (E×J0)):KJ a (p::m)=if p.1=a then Z p.2 else KJ a m:=by unfold KJ;grind
theorem YD(b:E)(c:J0)(a:E):∀m,KJ a (SE b c m)=if b=a then Z c else KJ a m|[]=>by unfold SE;rw[Jg]|p::m=>by unfold SE;split;{simp_all[Jg]};rename_i d;rw[Jg,Jg,YD b c a m];grind
structure eQ (es:Array MapEntry) (clock:Nat) (m:List (E×J0)):Prop where
 same:es.toList.map (λe=>(e.key,e.val))=m.map λp=>(Value.string p.1,p.2)
 stamped:MapKept.Stamped es clock
 size:es.size<=maxLen
 keys: ∀p∈m,p.1.size<=maxLen
def Qo(b:W)(c:Nat)(m:List (E×J0)):Prop:=∃a clock,b[c]?=Z (.map a clock)/\eQ a clock m
theorem Qo.mod{m:List (E×J0)}(c:Qo a b m)(x:L p a k)(d:¬p b):Qo k b m:=by have⟨e,clock,f,g⟩:=c;exact⟨e,clock,x.ae f d,g⟩
theorem Qo.lt{m:List (E×J0)}(c:Qo a b m):b<a.size:=by have⟨e,clock,d,f⟩:=c;exact Ao d
theorem Qo.empty{c:Nat}(d:a[b]?=Z (.map #[] c)):Qo a b []:=⟨#[],c,d,rfl,MapKept.stamped_empty c,by simp,by simp⟩
theorem eQ.len{m:List (E×J0)}(a:eQ el b m):el.size=J m:=by rw[<-OS];have:=congrArg List.length a.same;simpa using this
theorem eQ.keysOf{m:List (E×J0)}(a:eQ el b m):el.toList.map (·.key)=m.map λp=>Value.string p.1:=by have:=congrArg (List.map Prod.fst) a.same;simpa[E0,It]using this
theorem eQ.nodup{m:List (E×J0)}(c:eQ el b m):(m.map (·.1)).Nodup:=by
 have a:=c.stamped.2.2;rw[c.keysOf]at a;have d:(m.map λp=>Value.string p.1)=(m.map (·.1)).map Value.string:=by simp
 rw[d]at a;exact(GB.1 a).imp λe f=>e (congrArg _ f)
theorem Yb(a:E)(g:J0):∀(b:List MapEntry)(m:List (E×J0))(i:Nat),(b.map λe=>(e.key,e.val))=(m.map λp=>(Value.string p.1,p.2))->(Instr.findNow .string (.string a) b i=Z V/\KJ a m=V/\SE a g m=m++[(a,g)]/\jE a m=m/\∀e∈b,e.key≠.string a)\/∃c u,Instr.findNow .string (.string a) b i=Z (Z (i+c,u))/\KJ a m=Z u/\(∃e,b[c]?=Z e/\e.key=.string a)/\((b.modify c λe=>{e with key:=.string a,val:=g}).map λe=>(e.key,e.val))=(SE a g m).map (λp=>(Value.string p.1,p.2))/\((m.map (·.1)).Nodup->((b.eraseIdx c).map λe=>(e.key,e.val))=(jE a m).map λp=>(Value.string p.1,p.2))|[],[],i,_=>.inl ⟨rfl,rfl,rfl,rfl,by simp⟩|[],_::_,_,d=>by simp at d|_::_,[],_,d=>by simp at d|e::b,p::m,i,d=>by simp[DH,LS,Ys]at d;obtain⟨⟨k,n⟩,l⟩:=d;have t:Instr.sameNow .string (.string a) e.key=Z (decide (a=p.1)):=by{rw[k];show Z (a==p.1)=_;congr 1;rw[Ft,MapKept.bytes_beq];simp};by_cases f:p.1=a;{refine .inr ⟨0,e.val,by simp_all[Instr.findNow,Bs],by rw[Jg,A1 f,n],⟨e,rfl,by rw[k,f]⟩,by simp_all[SE,A1],?_⟩;intro v;simp[List.eraseIdx_zero,T3];rw[l];congr 1;unfold jE;rw[Cl];simp[f,decide_true,R0,BY,Cd];refine(Is.2 λw x=>?_).symm;grind};rcases Yb a g b m (i+1) l with⟨o,h,j,q,y⟩|⟨c,u,o,h,⟨r,j,s⟩,z,q⟩;{refine .inl ⟨?_,?_,?_,?_,?_⟩;{grind[Instr.findNow,decide_eq_false]};{rw[Jg,A0 f];exact h};{unfold SE;rw[A0 f,j];rfl};{simp_all[jE,Cl];omega};simp_all};refine .inr ⟨c+1,u,?_,?_,⟨r,j,s⟩,?_,?_⟩;{grind[Instr.findNow,decide_eq_false]};{rw[Jg,A0 f];exact h};{simp_all[SE,A0]};simp_all[Kx,jE,Cl]
theorem Lt(b:T.underlying x=Z .string)(c:Bool)(d:Nat)(e:E)(a:World):(Instr.checkKey c (d+1) x (.string e)).run T a=.ok () a:=by simp[Instr.checkKey,CB b]
theorem IW{P:Q1}(i:P.underlying x=Z (.map bd bs))(c:P.underlying bd=Z .string)(l:(zeroValue bs).calc P=Z bt){m:List (E×J0)}(o:Qo a b m)(p:e ((KJ h m).getD bt) a):Eo d P (Instr.lookup x (.map (Z b)) (.string h) U) a e:=by intro n;refine⟨_,a,n,?_,p⟩;obtain⟨q,clock,r,s⟩:=o;have j:=MapKept.run_getObj_map (P:=P) (w:=d.at a n) r;rcases Yb h bt q.toList m 0 s.same with⟨f,g,_⟩|⟨v,u,f,g,_,_⟩;{simp[Instr.lookup,CB i,j,Lt c,Instr.findKey,CB c,f,g,Result.andThen,EM l]};simp[Instr.lookup,CB i,j,Lt c,Instr.findKey,CB c,f,g,Result.andThen]
theorem AIp:∀{m:List (E×J0)}{p:E×J0},p∈SE h u m->p.1=h\/p∈m|[],p,a=>by simp_all[SE]|q::m,p,a=>by unfold SE at a;split at a;{grind};rcases AT.1 a with rfl|a;{simp_all};exact(AIp a).imp id (CN _)
theorem YO{P:Q1}(B:P.underlying bd=Z (.map bs e8))(o:P.underlying bs=Z .string){m:List (E×J0)}(C:Qo a b m)(F:h.size<=maxLen)(af:J m<maxLen)(q:∀f,Qo f b (SE h bt m)->L (λc=>c=b) a f->f.size=a.size->bf f):iW d P (Instr.mapUpdate bd (.map (Z b)) (.string h) bt) a bf:=by
 intro n;obtain⟨g,clock,j,e⟩:=C;have r:=Ao j;have H:=MapKept.run_getObj_map (P:=P) (w:=d.at a n) j;have I:∀i,(setObj b i).run P (d.at a n)=.ok () (d.at (a.setIfInBounds b i) n):=λi=>MapKept.run_setObj_map i j;have s:∀p∈SE h bt m,p.1.size<=maxLen:=λp R=>(AIp R).elim (λa=>by rw[a];exact F) (e.keys p);have ag:=e.len;rcases Yb h bt g.toList m 0 e.same with⟨y,S,l,_,X⟩|⟨z,u,y,S,⟨W,l,T⟩,ah,_⟩;{refine⟨a.setIfInBounds b (.map (g.push {key:=.string h,val:=bt,born:=clock}) (clock+1)),n,by simp_all[Instr.mapUpdate,CB,Lt,Instr.findKey,Result.andThen],q _ ⟨_,_,Dh r,?_,MapKept.stamped_push e.stamped X,by simp;omega,s⟩ (BA rfl) (by simp)⟩;rw[l];simp[e.same]};have O:g[z]?=Z W:=by simpa using l
 refine⟨a.setIfInBounds b (.map (g.modify z λe=>{e with key:=.string h,val:=bt}) clock),n,?_,q _ ⟨_,_,Dh r,?_,MapKept.stamped_modify e.stamped _ _ (λ_ _=>rfl) (λx _ ai=>?_),by simpa using e.size,s⟩ (BA rfl) (by simp)⟩;{have ae:∀w,(Instr.keyThatStays (.string h) (.string h)).run P w=.ok (.string h) w:=λw=>by{simp[Instr.keyThatStays,Instr.sameBits,(MapKept.bytes_beq h h).2 rfl]};simp[Instr.mapUpdate,CB B,H,Lt o,Instr.findKey,CB o,y,O,T,ae,Result.andThen,I]};{simp_all};simp_all
theorem AQM{P:Q1}(R:P.underlying x=Z (.map bd bs))(S:P.underlying bd=Z .string){m:List (E×J0)}(y:Qo a b m)(r:∀i,Qo i b (jE h m)->L (λc=>c=b) a i->i.size=a.size->e (.tuple #[]) i):Eo d P (Builtin.delete_ #[x,bd] e8 #[.map (Z b),.string h]) a e:=by
 intro n;obtain⟨g,clock,l,f⟩:=y;have s:=Ao l;have X:=MapKept.run_getObj_map (P:=P) (w:=d.at a n) l;have W:∀j,(setObj b j).run P (d.at a n)=.ok () (d.at (a.setIfInBounds b j) n):=λj=>MapKept.run_setObj_map j l;have v:∀p∈jE h m,p.1.size<=maxLen:=λp z=>f.keys p (Fm.1 z).1;rcases Yb h (.bool Y) g.toList m 0 f.same with⟨B,C,_,o,_⟩|⟨q,u,B,C,⟨F,H,T⟩,_,o⟩;{refine⟨_,a.setIfInBounds b (.map g clock),n,?_,r _ ⟨_,_,Dh s,by rw[o];exact f.same,f.stamped,f.size,v⟩ (BA rfl) (by simp)⟩;simp_all[Builtin.delete_,CB,Lt,Instr.findKey,Result.andThen]};have I:g[q]?=Z F:=by simpa using H
 refine⟨_,a.setIfInBounds b (.map (g.eraseIdxIfInBounds q) clock),n,by simp_all[Builtin.delete_,CB,Lt,Instr.findKey,Result.andThen],r _ ⟨_,_,Dh s,?_,MapKept.stamped_erase f.stamped _,?_,v⟩ (BA rfl) (by simp)⟩;{rw[Array.eraseIdxIfInBounds,dif_pos (IS.1 I).1,A10];exact o f.nodup};have:(g.eraseIdxIfInBounds q).size<=g.size:=by grind
 have:=f.size;omega
def py(_:J0):Option (DataW Unit×List MemPlace):=Z (.nil,[])
theorem ALI(x:Lit×DataW ao):∀l:List (Lit×DataW ao),(DataW.insert x l).Perm (x::l)|[]=>by simp[DataW.insert]|y::r=>by unfold DataW.insert;split;{exact N3 _};exact((ALI x r).cons y).trans (List.Perm.swap x y r)
theorem sorted_perm:∀l:List (Lit×DataW ao),(l.foldr DataW.insert []).Perm l|[]=>N3 _|x::r=>(ALI x _).trans ((sorted_perm r).cons x)
theorem AN3{P:Q1}{kt:Q7}(h:P.underlying kt=Z .string){w:World}{m:List (E×J0)}(i:Qo w.heap b m):∃d:DataW Unit,w.ownsMap P kt py b (J m) d/\(strKeys d).Perm (m.map λp=>p.1.data.toList)/\Maps.size d=J m:=by
 obtain⟨c,clock,j,a⟩:=i;have k:∀x∈c.toList,∃s:E,x.key=.string s/\WideElems.rd P kt py x=Z (.string s.data.toList,.nil):=by intro x e;have:x.key∈m.map λp=>Value.string p.1:=by{rw[<-a.keysOf];grind};obtain⟨p,l,g⟩:=Bk.1 this;refine⟨p.1,g.symm,?_⟩;simp[WideElems.rd,<-g,Go.WideMaps.keyOf_string_mk h (a.keys p l),py]
 refine⟨_,⟨c,clock,j,⟨a.size,a.stamped,λx e=>by grind⟩,by rw[a.len];exact A2 _,rfl⟩,?_,?_⟩;{refine((sorted_perm _).map _).trans ?_;have f:(c.toList.map (WideElems.rg P kt py)).map (λp=>strOf p.1)=(c.toList.map (·.key)).map λv=>match v with|.string s=>s.data.toList|_=>[]:=by{rw[E0,E0];refine HM λx e=>?_;obtain⟨s,f,n⟩:=k x e;simp[Function.comp,WideElems.rg,n,f,strOf]};rw[f,a.keysOf,E0];exact List.Perm.of_eq (HM λx _=>rfl)};show(J ((c.toList.map (WideElems.rg P kt py)).foldr DataW.insert []))=_;rw[(sorted_perm _).length_eq];simp[a.len]
def rn(c:List E):Prop:=c.Pairwise λa b=>aQ a b=Y
theorem AM9{c:List (List UInt8)}(d:rn cw)(e:c.Perm (cw.map λx=>x.data.toList)):(c.mergeSort λx f=>decide (x<=f))=cw.map λx=>x.data.toList:=by
 have g:(cw.map λx=>x.data.toList).mergeSort leB=cw.map λx=>x.data.toList:=by refine List.mergeSort_of_pairwise (GB.2 (d.imp λ{a b}h=>?_));simp_all[pv,B8,List.le_of_lt]
 exact(mergeSort_of_perm e).trans g
theorem AQc(a:List E):(a.map λx=>x.data.toList).map Proofs.encStr=a.flatMap OM.enc:=by induction a with|nil=>rfl|cons x r b=>rw[DH,DH,b,CC];rfl
theorem wrap_u32(a:Nat):J8 .u32 (a:Int)=((a%4294967296:Nat):Int):=by simp[J8,IntKind.bits,IntKind.signed]
theorem wrap_u64(a:Nat):J8 .u64 (a:Int)=((a%18446744073709551616:Nat):Int):=by simp[J8,IntKind.bits,IntKind.signed]
theorem YK(c:b<4294967296)(d:f<4294967296):gX .u32 (b:Int) (f:Int)=((b^^^f:Nat):Int):=by
 have e:b^^^f<2^32:=PJ (c) (d);unfold gX;have g:(BitVec.ofInt (IntKind.bits .u32) (b:Int)^^^BitVec.ofInt (IntKind.bits .u32) (f:Int)).toNat=b^^^f:=by show(BitVec.ofInt 32 (b:Int)^^^BitVec.ofInt 32 (f:Int)).toNat=b^^^f;grind
 rw[g,wrap_u32,BW (e)]
theorem AXQ{b:Nat}(c:f<4294967296)(d:b<4294967296):eN .u32 (f:Int) (b:Int)=((f|||b:Nat):Int):=by
 have e:f|||b<2^32:=Sf (c) (d);unfold eN;have g:(BitVec.ofInt (IntKind.bits .u32) (f:Int)|||BitVec.ofInt (IntKind.bits .u32) (b:Int)).toNat=f|||b:=by show(BitVec.ofInt 32 (f:Int)|||BitVec.ofInt 32 (b:Int)).toNat=f|||b;grind
 rw[g,wrap_u32,BW (e)]
theorem AUz(c:b<18446744073709551616)(d:f<18446744073709551616):eN .u64 (b:Int) (f:Int)=((b|||f:Nat):Int):=by
 have e:b|||f<2^64:=Sf (c) (d);unfold eN;have g:(BitVec.ofInt (IntKind.bits .u64) (b:Int)|||BitVec.ofInt (IntKind.bits .u64) (f:Int)).toNat=b|||f:=by show(BitVec.ofInt 64 (b:Int)|||BitVec.ofInt 64 (f:Int)).toNat=b|||f;grind
 rw[g,wrap_u64,BW (e)]
def wN(a b:Nat):(a:Int)*(b:Int)=((a*b:Nat):Int):=(Int.natCast_mul a b).symm
def hA(a b:Nat):Nat:=((a^^^b)*16777619)%4294967296
def hX(a b:Nat):Nat:=((a+b)%4294967296*2246822507)%4294967296
def hB(a b:Nat):Nat:=hX a b^^^(hX a b/8192)
def Xf(a:List UInt8):Nat×Nat:=a.foldl (λs c=>(hA s.1 c.toNat,hB s.2 c.toNat)) (2166136261,2538058380)
def pJ(a:E):Nat:=(Xf a.data.toList).1
def sq(a:E):Nat:=(Xf a.data.toList).2|||1
theorem AYz(a b:Nat):hA a b<4294967296:=DB _ (by decide)
theorem AXB(a b:Nat):hX a b<4294967296:=DB _ (by decide)
theorem AYb(a b:Nat):hB a b<4294967296:=by have c:=AXB a b;have:hB a b<2^32:=PJ (c) (by omega);simpa using this
theorem AEz(a:List UInt8)(b:UInt8):Xf (a++[b])=(hA (Xf a).1 b.toNat,hB (Xf a).2 b.toNat):=by simp[Xf]
theorem AL2(a:List UInt8):(Xf a).1<4294967296/\(Xf a).2<4294967296:=by rw[<-List.reverse_reverse a];cases a.reverse with|nil=>decide|cons c r=>simp_all[A0e,AEz,AYz,AYb]
def AKQ(a:E):pJ a<4294967296:=(AL2 _).1
theorem AZA(d:b<4294967296)(e:f<256):J8 .u32 ((gX .u32 (b:Int) (J8 .u32 (f:Int)))*(16777619:Int))=((hA b f:Nat):Int):=by rw[wrap_u32,BW (by omega),YK d (by omega),show((b^^^f:Nat):Int)*(16777619:Int)=(((b^^^f)*16777619:Nat):Int)from wN _ 16777619,wrap_u32];rfl
theorem AYX(a:b<4294967296)(d:f<256):J8 .u32 ((J8 .u32 ((b:Int)+(J8 .u32 (f:Int))))*(2246822507:Int))=((hX b f:Nat):Int):=by rw[wrap_u32 f,BW (by omega),show((b:Int)+(f:Int))=((b+f:Nat):Int)by push_cast;rfl,wrap_u32,show(((b+f)%4294967296:Nat):Int)*(2246822507:Int)=(((b+f)%4294967296*2246822507:Nat):Int)from wN _ 2246822507,wrap_u32];rfl
theorem XF(a b:Nat):(a:Int).fdiv ((2:Int)^b)=((a/2^b:Nat):Int):=by grind
theorem AYs(a:b<4294967296)(d:f<256):gX .u32 (J8 .u32 ((J8 .u32 ((b:Int)+(J8 .u32 (f:Int))))*(2246822507:Int))) ((J8 .u32 ((J8 .u32 ((b:Int)+(J8 .u32 (f:Int))))*(2246822507:Int))).fdiv ((2:Int)^(13:Nat)))=((hB b f:Nat):Int):=by have e:=AXB b f;have g:hX b f/2^13<=hX b f:=Nat.div_le_self _ _;rw[AYX a d,XF,YK e (by omega)];rfl
theorem TG{i:Nat}{c:UInt8}(a:h.data.toList[i]?=Z c):dK h (i:Int)=(c.toNat:Int):=by
 have hi:i<J h.data.toList:=(Ax.1 a).1;have b:i<h.size:=hi;unfold dK;have d:(i:Int).toNat=i:=by omega
 rw[d];have e:h[i]?=Z c:=by rw[getElem?_pos h i b];congr 1;have f:=(Ax.1 a).2;rw[<-f];rw[Array.getElem_toList];rfl
 rw[e];rfl
def px(a:Nat):Int:=if a<1024 then 1024-(a:Int)else if a<2048 then 1024-(a:Int)else if a<3072 then(a:Int)-3072 else(a:Int)-3072
def Am(a:List UInt8):E:=⟨a.toArray⟩
theorem Dx(a:List UInt8):(Am a).data.toList=a:=by simp[Am]
theorem Et(a:E):Am a.data.toList=a:=by simp[Am]
theorem AX(a:List UInt8):(Am a).size=J a:=by simp[Am,ByteArray.size]
theorem LF{a b:List UInt8}:Am a=Am b↔a=b:=⟨λc=>by simp_all[Am,congrArg],λc=>by rw[c]⟩
def DU(a:Nat):UInt8:=UInt8.ofNat a
theorem Dy(a:b<256):(DU b).toNat=b:=by simp[DU,ZD];omega
theorem ALq(a:UInt8):DU a.toNat=a:=by simp[DU]
def Br(a:Nat):List UInt8:=if a<128 then[DU a]else DU (a%128+128)::Br (a/128)termination_by a decreasing_by omega
theorem Ff{n:Nat}(a:n<128):Br n=[DU n]:=by rw[Br,A1 a]
theorem Rm{n:Nat}(a:¬n<128):Br n=DU (n%128+128)::Br (n/128):=by rw[Br,A0 a]
def Ow:Nat->Nat->List UInt8->Option (Nat×List UInt8)|_,_,[]=>V|i,a,c::t=>if 10<=i\/(i=9/\1<c.toNat)\/(0<i/\c.toNat=0)then V else if c.toNat<128 then Z (a+c.toNat*128^i,t)else Ow (i+1) (a+c.toNat%128*128^i) t
theorem OC{i:Nat}(a:i<=b):128^i<=128^b:=ZS (by decide) a
theorem jJ(f:List UInt8):∀(n i a:Nat),n*128^i<18446744073709551616->(i=0\/0<n)->Ow i a (Br n++f)=Z (a+n*128^i,f):=by intro n;induction n using Nat.strongRecOn with|ind n h=>intro i a k l;by_cases c:n<128;{rw[Ff c];simp only[DO,Ds,Ow,Dy (show n<256 by omega)];rw[A0,A1 c];rintro(b|⟨b,d⟩|⟨b,d⟩);{have e:=OC b;have g:1*128^i<=n*128^i:=DG _ (by omega);omega};{grind};omega};rw[Rm c];have hd:n/128<n:=by{omega};simp only[DO,Ow,Dy (show n%128+128<256 by omega)];rw[A0,A0 (by omega),h (n/128) hd];{have j:(n%128+128)%128=n%128:=by{omega};rw[j,GO,KK,show n%128*128^i+n/128*(128^i*128)=(n%128+128*(n/128))*128^i by grind,Nat.mod_add_div]};{have e:n/128*128<=n:=Nat.div_mul_le_self _ _;have g:n/128*128*128^i<=n*128^i:=DG _ e;rw[GO,Jx (128^i) 128,<-Mn];omega};{omega};rintro(b|⟨b,d⟩|⟨b,d⟩);{have e:=OC b;have g:128*128^i<=n*128^i:=DG _ (by omega);omega};{grind};omega
theorem ALj:∀(l:List UInt8)(i a n:Nat)(t:List UInt8),Ow i a l=Z (n,t)->∃m,n=a+m*128^i/\l=Br m++t/\m*128^i<18446744073709551616/\(i=0\/0<m)|[],i,a,n,t,b=>by simp[Ow]at b|c::l,i,a,n,t,b=>by simp only[Ow]at b;split at b;{cases b};rename_i k;have o:=c.toNat_lt;split at b;{rename_i d;obtain⟨rfl,rfl⟩:=b;refine⟨c.toNat,rfl,by rw[Ff d,ALq];rfl,?_,by omega⟩;by_cases p:i=9;{grind};have q:=OC (show i<=8 by omega);have r:c.toNat*128^i<=127*128^i:=DG _ (by omega);omega};rename_i d;obtain⟨m,s,rfl,e,u⟩:=ALj l (i+1) _ n t b;have v:0<m:=by{omega};refine⟨c.toNat%128+128*m,?_,?_,?_,by omega⟩;{grind};{rw[Rm (n:=c.toNat%128+128*m) (by omega),show(c.toNat%128+128*m)%128+128=c.toNat by omega,show(c.toNat%128+128*m)/128=m by omega,ALq];rfl};rw[GO,Jx (128^i) 128,<-Mn]at e;have w:(18446744073709551616:Nat)=144115188075855872*128:=by{decide};have x:i<=8:=by{omega};have f:(18446744073709551616:Nat)=128^(i+1)*(18446744073709551616/128^(i+1)):=by{have:i=0\/i=1\/i=2\/i=3\/i=4\/i=5\/i=6\/i=7\/i=8:=by{omega};rcases this with rfl|rfl|rfl|rfl|rfl|rfl|rfl|rfl|rfl<;>decide};have g:0<128^i:=Nat.pos_of_ne_zero (Nat.pos_iff_ne_zero.1 (Nat.pow_pos (by decide)));have h:m<18446744073709551616/128^(i+1):=by{refine Nat.lt_of_mul_lt_mul_left (a:=128^(i+1)) ?_;grind};have j:128^(i+1)*(m+1)<=128^(i+1)*(18446744073709551616/128^(i+1)):=Nat.mul_le_mul_left _ h;rw[<-f,GO]at j;have y:(c.toNat%128+128*m)*128^i<128*(m+1)*128^i:=A1n (by omega) g;have z:128*(m+1)*128^i=128^i*128*(m+1):=by{grind};omega
theorem AGj:∀n:Nat,∃a x,Br n=a++[x]/\(∀c∈a,128<=c.toNat)/\x.toNat<128:=by intro n;induction n using Nat.strongRecOn with|ind n e=>by_cases d:n<128;{exact⟨[],DU n,by rw[Ff d];rfl,by simp,by grind[Dy]⟩};have⟨a,x,f,g,h⟩:=e (n/128) (by omega);refine⟨DU (n%128+128)::a,x,by rw[Rm d,f];rfl,λc b=>?_,h⟩;rcases AT.1 b with rfl|b;{grind[Dy]};exact g c b
theorem ALQ:∀(a n:Nat),n<128^(a+1)->J (Br n)<=a+1:=by intro a;induction a with|zero=>simp_all[Ff]|succ a b=>grind[Ff,Rm,Nat.div_lt_iff_lt_mul,Nat.pow_succ]
theorem Aj{n:Nat}(a:n<18446744073709551616):J (Br n)<=10:=by refine ALQ 9 n (CI a ?_);decide
def Sm:List UInt8->Nat|[]=>0|c::t=>c.toNat%128+128*Sm t
theorem ARu:∀n:Nat,Sm (Br n)=n:=by intro n;induction n using Nat.strongRecOn with|ind n a=>grind[Ff,Sm,Dy,Rm]
theorem AId(a:UInt8):∀l:List UInt8,Sm (l++[a])=Sm l+a.toNat%128*128^J l|[]=>by simp[Sm]|x::l=>by simp[DO,Sm,AId a l,AW,GO,Nat.mul_add];grind
theorem APd:∀l:List UInt8,Sm l<128^J l|[]=>by simp[Sm]|c::l=>by have:=APd l;simp[Sm,AW,GO];omega
theorem pK(a:Ow 0 0 a5=Z (b,ch)):a5=Br b++ch/\b<18446744073709551616:=by grind[ALj]
theorem YV(c:b<18446744073709551616)(a:List UInt8):Ow 0 0 (Br b++a)=Z (b,a):=by rw[jJ a b 0 0 (by simpa using c) (.inl rfl)];simp
theorem sr{m:Nat}(a:b<18446744073709551616)(c:m<18446744073709551616)(d:Br b++a5=Br m++ch):b=m/\a5=ch:=by grind[YV]
theorem ASs{i:Nat}(j:a5[i]?=Z dl)(k:dl.toNat<128)(d:∀x∈a5.take i,128<=x.toNat)(hi:i<10):Ow 0 0 a5=if Br (Sm (a5.take (i+1))%18446744073709551616)=a5.take (i+1)then Z (Sm (a5.take (i+1))%18446744073709551616,a5.drop (i+1))else none:=by by_cases a:Br (Sm (a5.take (i+1))%18446744073709551616)=a5.take (i+1);{rw[A1 a];grind[YV,Sm,Nat.mod_lt,List.take_append_drop]};rw[A0 a];cases e:Ow 0 0 a5 with|none=>rfl|some p=>obtain⟨n,t⟩:=p;obtain⟨m,f⟩:=pK e;exfalso;obtain⟨b,x,o,q,r⟩:=AGj n;have s:J b=i:=by{rcases LN (J b) i with u|g|v;{have:x∈a5.take i:=by{have:(a5.take i)[J b]?=Z x:=by{simp_all};exact AI this};have:=d x this;omega};{exact g};grind};have h:a5.take (i+1)=Br n:=by{grind};rw[h,ARu,BW f]at a;exact a rfl
theorem AMn(a:∀x∈a5.take 10,128<=x.toNat):Ow 0 0 a5=none:=by cases b:Ow 0 0 a5 with|none=>rfl|some p=>obtain⟨n,t⟩:=p;obtain⟨e,c⟩:=pK b;have⟨d,x,f,g,h⟩:=AGj n;have i:=Aj c;have:x∈a5.take 10:=by{have:(a5.take 10)[J d]?=Z x:=by{grind};exact AI this};have:=a x this;omega
def pL(a:Nat):Nat:=if a%2=1 then a/2^^^3988292384 else a/2
def su:Nat->Nat->Nat|0,c=>c|k+1,c=>pL (su k c)
def sv(a:Nat)(b:UInt8):Nat:=su 8 (a^^^b.toNat)
def kH(a:List UInt8):Nat:=a.foldl sv 4294967295
def mg(a:List UInt8):Nat:=4294967295-kH a
theorem AQe(a:b<4294967296):pL b<4294967296:=by unfold pL;split;{exact PJ (n:=32) (by omega) (by decide)};omega
theorem wO(a:b<4294967296):∀k,su k b<4294967296|0=>a|k+1=>AQe (wO a k)
theorem AWU(d:b<4294967296)(a:UInt8):sv b a<4294967296:=by have e:=a.toNat_lt;exact wO (PJ (n:=32) d (by omega)) 8
theorem ARa(a:List UInt8)(b:UInt8):kH (a++[b])=sv (kH a) b:=by simp[kH]
theorem APS(a:List UInt8):kH a<4294967296:=by suffices  ∀(a:List UInt8)(c:Nat),c<4294967296->a.foldl sv c<4294967296 from this a _ (by decide);intro a;induction a with|nil=>exactλc b=>b|cons x a d=>simp_all[AWU]
def Vw(a:Nat):List UInt8:=[DU (a/16777216%256),DU (a/65536%256),DU (a/256%256),DU (a%256)]
theorem Pd(a:Nat):J (Vw a)=4:=rfl
def KP(a:List UInt8):List UInt8:=Br (J a)++Vw (mg a)++a
def Sv(a:List UInt8):Nat×List UInt8×List UInt8:=match Ow 0 0 a with|none=>if J a<10/\∀c∈a,128<=c.toNat then(20,[],[])else(21,[],[])|some (n,r)=>if 1048576<n then(21,[],[])else if J r<4+n then(20,[],[])else if r.take 4=Vw (mg ((r.drop 4).take n))then(0,(r.drop 4).take n,r.drop (4+n))else(21,[],[])
theorem AQd(e:J a5<=1048576)(a:List UInt8):Sv (KP a5++a)=(0,a5,a):=by
 unfold Sv KP;rw[AG,AG,YV (by omega)];dsimp only;rw[A0 (by omega),A0 (by simp[Pd])];have c:(Vw (mg a5)++(a5++a)).take 4=Vw (mg a5):=by rw[A1s (by simp[Pd])];exact Bm (by simp[Pd])
 have b:(Vw (mg a5)++(a5++a)).drop 4=a5++a:=by rw[A1h (by simp[Pd])];simp[Vw]
 have d:(a5++a).take (J a5)=a5:=by simp
 rw[c,b,d,A1 rfl,<-ID,b];simp
structure Rd where
 rest:List UInt8
 bad:Bool
def Gs:Rd:=⟨[],Y⟩
def Rd.dk(a:Rd):Prop:=a.bad=Y->a.rest=[]
def F3(a:Rd):Nat×Rd:=if a.bad then(0,a)else match Ow 0 0 a.rest with|none=>(0,Gs)|some (n,t)=>(n,⟨t,U⟩)
def Bh(b:Nat)(a:Rd):Nat×Rd:=if(F3 a).2.bad then(0,(F3 a).2)else if b<(F3 a).1 then(0,Gs)else F3 a
def IY(b:Nat)(a:Rd):List UInt8×Rd:=if a.bad then([],a)else if J a.rest<b then([],Gs)else(a.rest.take b,⟨a.rest.drop b,U⟩)
def EX(a:Rd):List UInt8×Rd:=if(F3 a).2.bad then([],(F3 a).2)else IY (F3 a).1 (F3 a).2
def Xd(a:Rd):Bool:=!a.bad&&a.rest.isEmpty
def Bj(a:List UInt8):List UInt8:=Br (J a)++a
theorem ALA(c:b<18446744073709551616)(a:List UInt8):F3 ⟨Br b++a,U⟩=(b,⟨a,U⟩):=by simp[F3,YV c]
theorem FE{n most:Nat}(b:n<18446744073709551616)(c:n<=most)(a:List UInt8):Bh most ⟨Br n++a,U⟩=(n,⟨a,U⟩):=by grind[Bh,ALA]
theorem AHo(a b:List UInt8):IY (J a) ⟨a++b,U⟩=(a,⟨b,U⟩):=by simp[IY];omega
theorem Lu{l:List UInt8}(b:J l<18446744073709551616)(a:List UInt8):EX ⟨Bj l++a,U⟩=(l,⟨a,U⟩):=by simp only[EX,Bj,AG,ALA b,AHo];simp
variable{bg:Rd}
theorem AKj(a:bg.bad=Y):F3 bg=(0,bg):=by simp[F3,a]
theorem Pf(a:bg.dk):(F3 bg).2.dk:=by unfold F3;split;{exact a};split;{exactλ_=>rfl};exactλa=>by cases a
theorem Nq{m:Nat}(a:bg.dk):(Bh m bg).2.dk:=by unfold Bh;split;{exact Pf a};split;{exactλ_=>rfl};exact Pf a
theorem AN1(a:bg.dk):(IY b bg).2.dk:=by unfold IY;split;{exact a};split;{exactλ_=>rfl};exactλa=>by cases a
theorem Rv(a:bg.dk):(EX bg).2.dk:=by unfold EX;split;{exact Pf a};exact AN1 (Pf a)
theorem AHq(a:(F3 bg).2.bad=U):bg.bad=U/\bg.rest=Br (F3 bg).1++(F3 bg).2.rest/\(F3 bg).1<18446744073709551616:=by unfold F3 at a⊢;split at a;{simp_all};rename_i c;cases b:Ow 0 0 bg.rest with|none=>rw[b]at a;cases a|some p=>grind[pK]
theorem Hr{m:Nat}(a:(Bh m bg).2.bad=U):bg.bad=U/\bg.rest=Br (Bh m bg).1++(Bh m bg).2.rest/\(Bh m bg).1<=m:=by unfold Bh at a⊢;split at a;{simp_all};split at a;{cases a};simp_all[A0,AHq]
theorem AOK(a:(IY b bg).2.bad=U):bg.bad=U/\bg.rest=(IY b bg).1++(IY b bg).2.rest/\J (IY b bg).1=b:=by unfold IY at a⊢;split at a;{simp_all};split at a;{cases a};simp_all[A0]
theorem VF(a:(EX bg).2.bad=U):bg.bad=U/\bg.rest=Bj (EX bg).1++(EX bg).2.rest:=by unfold EX at a⊢;split at a;{simp_all};rename_i b;rw[A0 b];grind[AHq,AOK,Bj,List.append_assoc]
theorem sw(a:Rd):J (F3 a).2.rest<=J a.rest:=by unfold F3;split;{exact A2 _};split;{simp[Gs]};rename_i n t b;obtain⟨c,_⟩:=pK b;rw[c];simp
theorem F9(m:Nat)(a:Rd):J (Bh m a).2.rest<=J a.rest:=by grind[Bh,sw,Gs]
theorem AQl(b:Nat)(a:Rd):J (IY b a).2.rest<=J a.rest/\J (IY b a).1<=J a.rest:=by grind[IY,Gs]
theorem Lx(a:Rd):J (EX a).2.rest<=J a.rest/\J (EX a).1<=J a.rest:=by grind[EX,sw,AQl,F3]
def Ie:bW UInt8 where enc x:=[.int .u8 (x.toNat:Int)];w:=1;len _:=rfl;pos:=by{omega};one x v a:=by simp at a;subst a;rfl
theorem Cells.byte{x:UInt8}(b:Cells a a4 (Ie.enc x)):ah a a4=Z (.int .u8 (x.toNat:Int)):=by have c:=b 0 _ rfl;rwa[add_zero]at c
theorem AHz:∀(l:List UInt8)(s:E),(l.map λc=>(c.toNat:Int)).foldl (λr n=>r.push (UInt8.ofNat n.toNat)) s=⟨s.data++l.toArray⟩|[],s=>by simp|c::l,s=>by simp only[DH,LR];rw[AHz l];simp_all
theorem Np{P:Q1}(j:P.underlying x=Z (.slice bs))(m:P.underlying bs=Z (.int .u8))(o:P.underlying bd=Z .string){s:Sl}{l:List UInt8}(f:View Ie k s l)(p:e (.string (Am l)) k):Eo d P (convert x bd (.slice s.p s.len s.cap)) k e:=by have q:=f.len;refineλn=>⟨_,k,n,?_,p⟩;rw[run_convert_bytes_string _ x bd bs _ s.len s.cap j m o];cases g:s.p with|none=>have r:l=[]:=by{cases l with|nil=>rfl|cons c l=>obtain⟨a,b,_⟩:=f.cells 0 c rfl;rw[g]at b;cases b};subst r;simp[Conv.bytesToString,Am];rfl|some a=>have t:(loadCells a s.len).run P (d.at k n)=.ok ((l.map λc=>(c.toNat:Int)).map (Value.int .u8)).toArray (d.at k n):=by{have:=run_loadCells_list (P:=P) (w:=d.at k n) a ((l.map λc=>(c.toNat:Int)).map (Value.int .u8)) (λv u i=>by simp only[HJ,Option.map_map,Hk]at i;obtain⟨c,y,rfl⟩:=i;obtain⟨B,b,z⟩:=f.cells v c y;rw[g]at b;cases b;have:=Cells.byte z;simp only[Ie,CT]at this;exact this);simpa[q]using this};rw[run_bytesToString _ a s.len s.cap _ t,AHz];simp[Am,ByteArray.empty,ByteArray.emptyWithCapacity];rfl
theorem eS(a:E)(i b:Nat):a.extract i b=Am ((a.data.toList.take b).drop i):=by apply A0f;grind[ByteArray.data_extract,Am,Array.toList_inj,Array.toList_extract,List.extract_eq_take_drop,List.drop_take]
theorem ARl(a:E):J a.data.toList=a.size:=by simp_all
theorem ALP(a:E)(i:Nat):a.extract i a.size=Am (a.data.toList.drop i):=by rw[eS,Bm (by simp_all)]
theorem AR8(a:E)(i:Nat):a.extract 0 i=Am (a.data.toList.take i):=by rw[eS];simp
theorem wrap_u8(a:Nat):J8 .u8 (a:Int)=((a%256:Nat):Int):=by simp[J8,IntKind.bits,IntKind.signed]
theorem AWw{a b:Nat}(c:a<256)(d:b<256):eN .u8 (a:Int) (b:Int)=((a|||b:Nat):Int):=by
 have e:a|||b<2^8:=Sf (c) (d);unfold eN;have f:(BitVec.ofInt (IntKind.bits .u8) (a:Int)|||BitVec.ofInt (IntKind.bits .u8) (b:Int)).toNat=a|||b:=by show(BitVec.ofInt 8 (a:Int)|||BitVec.ofInt 8 (b:Int)).toNat=a|||b;grind
 rw[f,wrap_u8,BW (e)]
theorem ATl(c:b<256)(g:f<256):Iu .u8 (b:Int) (f:Int)=((b&&&f:Nat):Int):=by
 have d:b&&&f<2^8:=A02 Nat.and_le_left (c);unfold Iu;have e:(BitVec.ofInt (IntKind.bits .u8) (b:Int)&&&BitVec.ofInt (IntKind.bits .u8) (f:Int)).toNat=b&&&f:=by show(BitVec.ofInt 8 (b:Int)&&&BitVec.ofInt 8 (f:Int)).toNat=b&&&f;grind
 rw[e,wrap_u8,BW (d)]
theorem AV1(c:b<4294967296)(g:f<4294967296):Iu .u32 (b:Int) (f:Int)=((b&&&f:Nat):Int):=by
 have d:b&&&f<2^32:=A02 Nat.and_le_left (c);unfold Iu;have e:(BitVec.ofInt (IntKind.bits .u32) (b:Int)&&&BitVec.ofInt (IntKind.bits .u32) (f:Int)).toNat=b&&&f:=by show(BitVec.ofInt 32 (b:Int)&&&BitVec.ofInt 32 (f:Int)).toNat=b&&&f;grind
 rw[e,wrap_u32,BW (d)]
theorem AZH:∀x,x<256->x|||128=x%128+128:=by decide+kernel
theorem AXz:∀x,x<256->x&&&127=x%128:=by decide+kernel
theorem AUy(c:Nat):eN .u8 (J8 .u8 (c:Int)) (128:Int)=(((DU (c%128+128)).toNat:Nat):Int):=by have d:=AWw (a:=c%256) (b:=128) (DB _ (by decide)) (by decide);rw[wrap_u8];rw[show(128:Int)=((128:Nat):Int)from rfl,d,AZH _ (DB _ (by decide)),Dy (by omega)];congr 1;omega
theorem wP(i:Nat):2^(7*i)=128^i:=by rw[Nat.pow_mul]
theorem APH{x i:Nat}(hi:i<=9)(e:b<128^i)(f:x<128):eN .u64 (b:Int) (((x*128^i%18446744073709551616:Nat)):Int)=((b+x*128^i%18446744073709551616:Nat):Int):=by
 have g:0<128^i:=Nat.pow_pos (by decide);have h:=OC hi;have j:(128:Nat)^9=9223372036854775808:=by decide
 rw[AUz (by omega) (DB _ (by decide))];congr 1;have c:∃d,(18446744073709551616:Nat)=128^i*d:=by have:i=0\/i=1\/i=2\/i=3\/i=4\/i=5\/i=6\/i=7\/i=8\/i=9:=by{omega};refine⟨18446744073709551616/128^i,?_⟩;grind
 obtain⟨d,c⟩:=c;rw[c,Jx x,Nat.mul_mod_mul_left,<-wP,Nat.or_comm,Nat.add_comm];exact(A1w (by rw[wP];exact e) _).symm
theorem AUd{x i:Nat}(hi:i<=9)(b:x<128):J8 .u64 ((x:Int)*((2:Int)^(min ((7*i:Nat):Int).toNat (IntKind.bits .u64))))=((x*128^i%18446744073709551616:Nat):Int):=by
 have a:min ((7*i:Nat):Int).toNat (IntKind.bits .u64)=7*i:=by have:IntKind.bits .u64=64:=rfl;omega
 rw[a,show((2:Int)^(7*i))=((2^(7*i):Nat):Int)by simp,wN,wrap_u64,wP]
def L.ajJ(x:G a k)(m:L p k a1)(d:∀b,p b->a.size<=b):G a a1:=L.then x (m.af λc _ e=>.inr (d c e))
abbrev bl(a:E):List UInt8:=a.data.toList
theorem BV(a:E):J (bl a)=a.size:=ARl a
theorem GX(a:List UInt8):bl (Am a)=a:=Dx a
theorem Pz(a:E):Am (bl a)=a:=Et a
def Aq(a:E):Bool:=decide (1<=a.size/\a.size<=16/\∀c∈bl a,33<=c.toNat/\c.toNat<=126)
theorem GK:Aq h=Y↔1<=h.size/\h.size<=16/\∀c∈bl h,33<=c.toNat/\c.toNat<=126:=by simp[Aq]
structure bN where
 ajF:Int
 name:E
 ak:E
 ajT:Int
 aA:Int
 ajU:Int
def bN.cells(x:bN):Array J0:=#[D x.ajF,J7 x.name,J7 x.ak,D x.ajT,D x.aA,D x.ajU]
def Hm:bW bN where enc x:=[D x.ajF,J7 x.name,J7 x.ak,D x.ajT,D x.aA,D x.ajU];w:=6;len _:=rfl;pos:=by{omega};one x v a:=by simp at a;rcases a with rfl|rfl|rfl|rfl|rfl|rfl<;>rfl
abbrev Ex:E:=⟨#[]⟩
def bO(a lo hi:Int):Bool:=decide (lo<=a/\a<=hi)
theorem Bd{lo hi:Int}:bO i lo hi=Y↔lo<=i/\i<=hi:=by simp[bO]
def MO(x:bN):Bool:=if x.ajF=1 then((decide (x.ak=Ex)&&decide (x.aA=0))||(Aq x.ak&&bO x.aA 1 5))&&Aq x.name&&bO x.ajT 1 5&&decide (x.ajU=0)else if x.ajF=2 then decide (x.name=Ex)&&decide (x.ak=Ex)&&decide (x.ajT=0)&&decide (x.aA=0)&&bO x.ajU 1 1000 else if x.ajF=3 then decide (x.ak=Ex)&&decide (x.ajT=0)&&decide (x.aA=0)&&decide (x.ajU=0)&&Aq x.name else U
structure aS where
 ajG:List bN
 aw:Int
def Ed(p:aS):Bool:=decide (J p.ajG<=16)&&bO p.aw 0 16000&&p.ajG.all MO
def GL(x:bN):List UInt8:=Br x.ajF.toNat++(if x.ajF=1 then Bj (bl x.name)++Br x.ajT.toNat++Bj (bl x.ak)++Br x.aA.toNat else if x.ajF=2 then Br x.ajU.toNat else Bj (bl x.name))
def Bz(p:aS):List UInt8:=Br p.aw.toNat++Br (J p.ajG)++p.ajG.flatMap GL
def Ja(g e h:Nat)(i:Bool)(j:Rd):bN×Rd:=let d:=Bh g j;if d.1=1 then let a:=EX d.2;let b:=Bh e a.2;let c:=EX b.2;let f:=Bh e c.2;(⟨1,Am a.1,Am c.1,b.1,f.1,0⟩,f.2)else if d.1=2 then let a:=Bh h d.2;(⟨2,Ex,Ex,0,0,a.1⟩,a.2)else if d.1=3\/i=Y then let a:=EX d.2;(⟨d.1,Am a.1,Ex,0,0,0⟩,a.2)else(⟨d.1,Ex,Ex,0,0,0⟩,d.2)
def F7(a b c:Nat)(d:Bool):Nat->Rd->List bN×Rd|0,r=>([],r)|n+1,r=>let x:=Ja a b c d r;let e:=F7 a b c d n x.2;(x.1::e.1,e.2)
def Qj(b c d e:Nat)(f:Bool)(g:List UInt8):aS×Rd:=let a:=Bh b ⟨g,U⟩;let n:=Bh 16 a.2;let s:=F7 c d e f n.1 n.2;(⟨s.1,a.1⟩,s.2)
def Fp(a:List UInt8):Option aS:=let x:=Qj 16000 3 5 1000 U a;if Xd x.2&&Ed x.1 then Z x.1 else V
theorem AMZ:Xd bg=Y↔bg=⟨[],U⟩:=by obtain⟨l,b⟩:=bg;grind[Xd]
theorem ATa{lo hi:Int}(a:bO i lo hi=Y)(b:0<=lo):(i.toNat:Int)=i:=by rw[Bd]at a;omega
theorem ARb(a:Aq h=Y):h≠Ex:=by rintro rfl;rw[GK]at a;have:Ex.size=0:=rfl;omega
theorem AQk(l:3<=b)(z:5<=f)(A:1000<=o){x:bN}(a:MO x=Y)(j:List UInt8):Ja b f o ap ⟨GL x++j,U⟩=(x,⟨j,U⟩):=by
 obtain⟨B,name,m,p,d,C⟩:=x;have e:∀{s:E},s.size<=16->J (bl s)<18446744073709551616:=λg=>by rw[BV];omega
 have k:∀{s:E},Aq s=Y->s.size<=16:=λg=>(GK.1 g).2.1;unfold MO at a;split at a;{rename_i c;subst c;simp[As,Gk,B8]at a;obtain⟨⟨⟨q,h⟩,r⟩,rfl⟩:=a;have t:m.size<=16/\0<=d/\d<=5:=by{rcases q with⟨rfl,rfl⟩|⟨g,F⟩;{exact⟨by decide,by omega,by omega⟩};grind[Bd]};rw[Bd]at r;have i:=FE (n:=(1:Int).toNat) (most:=b) (by decide) (by omega);have u:=Lu (e (k h));have v:=FE (n:=p.toNat) (most:=f) (by omega) (by omega);simp only[Ja,GL,AS,AG,i,u,v,Lu (e t.1),FE (n:=d.toNat) (most:=f) (by omega) (by omega)];rw[A1 (by decide)];simp[Et];omega};split at a;{rename_i w c;subst c;simp[As,B8]at a;obtain⟨⟨⟨⟨rfl,rfl⟩,rfl⟩,rfl⟩,y⟩:=a;rw[Bd]at y;simp only[Ja,GL,AS,AG,FE (n:=(2:Int).toNat) (most:=b) (by decide) (by omega)];rw[A0 (by decide),A1 (by decide),A0 (by decide),FE (by omega) (by omega)];simp;omega};split at a;{rename_i w H c;subst c;simp[As,B8]at a;obtain⟨⟨⟨⟨rfl,rfl⟩,rfl⟩,rfl⟩,h⟩:=a;have i:=FE (n:=(3:Int).toNat) (by decide) (l);simp only[Ja,GL,AS,AG,i];rw[A0 (by decide),A0 (by decide),A1 (.inl rfl),A0 (by decide),A0 (by decide),Lu (e (k h))];simp[Et]};cases a
theorem AGX{all:Bool}(d:3<=b)(e:5<=f)(g:1000<=o)(a:List UInt8):∀{l:List bN},l.all MO=Y->F7 b f o all (J l) ⟨l.flatMap GL++a,U⟩=(l,⟨a,U⟩)|[],_=>rfl|x::l,c=>by simp only[RW,As]at c;simp[AW,F7,CC,AG,AQk d e g c.1,AGX d e g a c.2]
theorem AHs{all:Bool}(m:16000<=b)(e:3<=f)(g:5<=o)(h:1000<=y){p:aS}(a:Ed p=Y):Qj b f o y all (Bz p)=(p,⟨[],U⟩):=by obtain⟨l,i⟩:=p;simp only[Ed,As,B8]at a;obtain⟨⟨j,c⟩,k⟩:=a;have q:=Bd.1 c;have d:=AGX (all:=all) e g h [] k;rw[AK]at d;simp[Qj,Bz,AG,FE (n:=i.toNat) (most:=b) (by omega) (by omega),FE (by omega) j,d,ATa c (by decide)]
theorem vX{p:aS}(a:Ed p=Y):Fp (Bz p)=Z p:=by simp[Fp,AHs (A2 _) (A2 _) (A2 _) (A2 _) a,a];rfl
theorem AOB(a:(Ja b f o ap bg).2.bad=U):bg.bad=U/\(MO (Ja b f o ap bg).1=Y->bg.rest=GL (Ja b f o ap bg).1++(Ja b f o ap bg).2.rest):=by unfold Ja at a⊢;simp only at a⊢;split at a;{rename_i c;obtain⟨l,p,_⟩:=Hr a;obtain⟨m,q⟩:=VF l;obtain⟨n,s,_⟩:=Hr m;obtain⟨d,k⟩:=VF n;obtain⟨e,i,_⟩:=Hr d;simp_all[A1,GL,AS,GX,AD,AG]};split at a;{rename_i g c;obtain⟨d,k,_⟩:=Hr a;obtain⟨e,i,_⟩:=Hr d;simp_all[A0,A1,GL,AD,trivial,AG]};split at a;{rename_i g j c;obtain⟨d,k⟩:=VF a;have⟨e,i,_⟩:=Hr d;refine⟨e,λh=>?_⟩;rw[A0 g,A0 j,A1 c]at h⊢;simp[GL,GX,AD];grind};rename_i g j c;have⟨e,i,_⟩:=Hr a;refine⟨e,λh=>?_⟩;rw[A0 g,A0 j,A0 c]at h;exfalso;unfold MO at h;grind
theorem ADc:∀(n:Nat){r:Rd},(F7 b f o ap n r).2.bad=U->r.bad=U/\J (F7 b f o ap n r).1=n/\((F7 b f o ap n r).1.all MO=Y->r.rest=(F7 b f o ap n r).1.flatMap GL++(F7 b f o ap n r).2.rest)|0,r,a=>⟨a,rfl,λ_=>rfl⟩|n+1,r,a=>by simp[F7]at a⊢;obtain⟨c,d,e⟩:=ADc n a;obtain⟨g,h⟩:=AOB c;simp_all
theorem Sw{p:aS}(a:Fp a5=Z p):Ed p=Y/\Bz p=a5:=by unfold Fp at a;simp only at a;split at a;{rename_i e;simp[As]at e;obtain⟨d,b⟩:=e;obtain rfl:=CD a;refine⟨b,?_⟩;rw[AMZ]at d;have f:(Qj 16000 3 5 1000 U a5).2.bad=false:=by{rw[d]};have g:(Qj 16000 3 5 1000 U a5).2.rest=[]:=by{rw[d]};simp[Qj]at f g b⊢;obtain⟨h,i,c⟩:=ADc _ f;obtain⟨j,k,_⟩:=Hr h;have⟨n,m,_⟩:=Hr j;simp only[Ed,As]at b;have c:=c b.2;rw[g,AK]at c;simp only[Bz,AD,i];rw[<-c,AG,<-k,<-m]};cases a
theorem ANV{p:aS}:Fp a5=Z p↔Ed p=Y/\Bz p=a5:=⟨Sw,λ⟨a,b⟩=>by grind[vX]⟩
theorem ALM{b0 bk bt bw:Nat}{all:Bool}(d:16000<=b0)(e:3<=bk)(f:5<=bt)(g:1000<=bw)(a:List UInt8):Fp a=if Ed (Qj b0 bk bt bw all a).1=Y/\Xd (Qj b0 bk bt bw all a).2=Y/\Bz (Qj b0 bk bt bw all a).1=a then Z (Qj b0 bk bt bw all a).1 else none:=by split;{simp_all[ANV]};rename_i b;cases hd:Fp a with|none=>rfl|some p=>exfalso;obtain⟨c,h⟩:=Sw hd;subst h;rw[AHs d e f g c]at b;exact b ⟨c,rfl,rfl⟩
inductive Fv where
 |i (n:Int)
 |s (x:E)
 |b (x:Bool)
 deriving DecidableEq
def Fv.v:Fv->J0|.i n=>D n|.s x=>J7 x|.b x=>J3 x
def Fv.ok(a:Q1)(b:Q7):Fv->Bool|.i _=>(match a.underlying b with|some (.int D)=>Y|_=>U)|.s _=>(match a.underlying b with|some .string=>Y|_=>U)|.b _=>match a.underlying b with|some .bool=>Y|_=>U
def vY:Fv->Fv->Bool|.i _,.i _=>Y|.s _,.s _=>Y|.b _,.b _=>Y|_,_=>U
def mY(a:Q1):Nat->List Field->List Fv->Bool|_,[],[]=>Y|i,f::b,x::c=>!(f.name==String.ofList [Char.ofNat 95])&&Nat.beq f.offset i&&x.ok a f.type&&mY a (i+1) b c|_,_,_=>U
def da:List Fv->List Fv->Bool|[],[]=>Y|x::a,b::c=>vY x b&&da a c|_,_=>U
theorem AVz{x a:Fv}(c:x.ok T bd=Y)(f:vY x a=Y)(e:World):(Op.equalIn (b+1) bd x.v a.v).run T e=.ok (decide (x=a)) e:=by cases x<;>cases a<;>simp only[vY,BY]at f<;>simp only[Fv.ok]at c<;>split at c<;>(try cases c);{grind[Fv.v,run_equalIn_int,Fv.i.injEq]};{simp_all[Fv.v,run_equalIn_string,toList_inj,Fv.s.injEq]};grind[Fv.v,run_equalIn_bool',Fv.b.injEq]
theorem Fv.plain{x:Fv}(a:x.ok T bd=Y):T.plainKey bd=true:=by cases x<;>simp only[Fv.ok]at a<;>split at a<;>(try cases a)<;>(grind[Program.plainKey])
theorem APK (h j:List Fv)(e:World): ∀(k:List Field) (a c:List Fv) (i:Nat),h.drop i=a->j.drop i=c->mY T i k a=Y->da a c=Y->
  (Op.eqFields (b+1) (h.map Fv.v).toArray (j.map Fv.v).toArray k).run T e= .ok (decide (a=c)) e:=by
 intro k
 induction k with
 |nil=>
  intro a c i o p m g;cases a with
  |nil=>
   cases c with
   |nil=>simp[Op.eqFields]
   |cons n c=>simp[da] at g
  |cons x a=>simp[mY] at m
 |cons f k v=>
  intro a c i o p m g;cases a with
  |nil=>simp[mY] at m
  |cons x a=>
   cases c with
   |nil=>simp[da] at g
   |cons n c=>
    simp only[mY,da,As,Nat.beq_eq] at m g;have⟨⟨⟨r,s⟩,q⟩,w⟩:=m;have y:h[i]? =Z x:=by have:=congrArg (λl:List Fv=>l[0]?) o;simpa [Fl] using this
    have z:j[i]? =Z n:=by have:=congrArg (λl:List Fv=>l[0]?) p;simpa [Fl] using this
    have A:h.drop (i+1)=a:=by rw[<- ID,o];rfl
    have B:j.drop (i+1)=c:=by rw[<- ID,p];rfl
    have C:(part f.type (h.map Fv.v).toArray f.offset).run T e= .ok x.v e:=run_part_plain e (Fv.plain q) (by rw[s];simp[y]);have F:(part f.type (j.map Fv.v).toArray f.offset).run T e= .ok n.v e:=run_part_plain e (Fv.plain q) (by rw[s];simp[z])
    have H : String.ofList [Char.ofNat 95] = "_" := by decide
    rw[H] at r
    have t : (f.name == "_") =U := by simpa using r
    simp[Op.eqFields,t,Sem.run_bind,Sem.run_ite,C,F,Result.andThen_ok,AVz q g.1];by_cases u:x=n
    ·simp[u,v a c (i+1) A B w g.2,Result.andThen]
    ·have I : f.name ≠ "_" := CV t
     simp[u,Result.andThen,I]
def lT(a:Q1)(b:Q7)(c:List Fv):Bool:=!a.stoodInHeld b&&!a.eqGuardType a.depth b&&mY a 0 (a.fieldsOf b).toList c
theorem AOb{b ys:List Fv}(g:T.underlying x=Z (.struct (T.fieldsOf x)))(c:lT T x b=Y)(i:da b ys=Y){f:Array J0}(j:bi=(b.map Fv.v).toArray)(k:f=(ys.map Fv.v).toArray)(l:e (J3 (decide (b=ys))) a):Eo d T (do eqGuard .eql x cq c7 (.agg bi) (.agg f);binOp .eql x (.agg bi) (.agg f)) a e:=by simp[lT,As,GS]at c;subst j;subst k;refineλn=>⟨_,a,n,?_,l⟩;rw[Sem.run_bind,run_eqGuard_agg _ _ _ _ _ _ _ c.1.2,Result.andThen_ok,run_eql_struct,run_equalIn_agg _ _ _ _ _ g c.1.1,APK b ys _ _ b ys 0 rfl rfl c.2 i];rfl
theorem APz{xs ys:List Fv}(f:T.underlying x=Z (.struct (T.fieldsOf x)))(b:lT T x xs=Y)(g:da xs ys=Y){c:Array J0}(i:bi=(xs.map Fv.v).toArray)(j:c=(ys.map Fv.v).toArray)(k:e (J3 (!decide (xs=ys))) a):Eo d T (do eqGuard .neq x cq c7 (.agg bi) (.agg c);binOp .neq x (.agg bi) (.agg c)) a e:=by simp[lT,As,GS]at b;subst i;subst j;refineλn=>⟨_,a,n,?_,k⟩;rw[Sem.run_bind,run_eqGuard_agg _ _ _ _ _ _ _ b.1.2,Result.andThen_ok,run_neq_struct,run_equalIn_agg _ _ _ _ _ f b.1.1,APK xs ys _ _ xs ys 0 rfl rfl b.2 g];rfl
theorem Cj{d:J0}(f:a[b]?=Z (J2 #[u,bt] x (0,0)))(g:∀c,c[b]?=Z (J2 #[eq,d] x (0,0))->L (· =b) a c->c.size=a.size->bf c):aj a ⟨b,0,V⟩ eq λe=>aj e ((⟨b,0,V⟩:Q6) 1) d bf:=by refine Ab f (by simp) λe i j n=>?_;rw[CR];refine Ab i (by simp) λk l m o=>g k (l) (j.trans m) (by omega)
theorem TN{p q r d e f g i j:J0}(s:a[b]?=Z (J2 #[u,bt,eq,p,q,r] x (0,0)))(t:∀c,c[b]?=Z (J2 #[d,e,f,g,i,j] x (0,0))->L (· =b) a c->c.size=a.size->bf c):aj a ⟨b,0,V⟩ d λk=>aj k ((⟨b,0,V⟩:Q6) 1) e λl=>aj l ((⟨b,0,V⟩:Q6) 2) f λm=>aj m ((⟨b,0,V⟩:Q6) 3) g λn=>aj n ((⟨b,0,V⟩:Q6) 4) i λo=>aj o ((⟨b,0,V⟩:Q6) 5) j bf:=by refine Ab s ?_ λk v w X=>?_;simp;rw[CR,CR,CR,CR,CR];refine Ab v ?_ λl y z W=>?_;simp;refine Ab y ?_ λm A B T=>?_;simp;refine Ab A ?_ λn C F O=>?_;simp;refine Ab C ?_ λo H I ae=>?_;simp;refine Ab H (by simp) λP R S af=>t P (R) (((((w.trans z).trans B).trans F).trans I).trans S) (by omega)
theorem NB{t v w y z d e f g i j k l:J0}(A:a[b]?=Z (J2 #[u,bt,eq,t,v,w,y,z] x (0,0)))(B:∀c,c[b]?=Z (J2 #[d,e,f,g,i,j,k,l] x (0,0))->L (· =b) a c->c.size=a.size->bf c):aj a ⟨b,0,V⟩ d λm=>aj m ((⟨b,0,V⟩:Q6) 1) e λn=>aj n ((⟨b,0,V⟩:Q6) 2) f λo=>aj o ((⟨b,0,V⟩:Q6) 3) g λp=>aj p ((⟨b,0,V⟩:Q6) 4) i λq=>aj q ((⟨b,0,V⟩:Q6) 5) j λr=>aj r ((⟨b,0,V⟩:Q6) 6) k λs=>aj s ((⟨b,0,V⟩:Q6) 7) l bf:=by refine Ab A ?_ λm C F al=>?_;simp;rw[CR,CR,CR,CR,CR,CR,CR];refine Ab C ?_ λn H I N=>?_;simp;refine Ab H ?_ λo P R Q=>?_;simp;refine Ab P ?_ λp S X ao=>?_;simp;refine Ab S ?_ λq W T ap=>?_;simp;refine Ab W ?_ λr O ae aq=>?_;simp;refine Ab O ?_ λs af ag ar=>?_;simp;refine Ab af (by simp) λah ai ak au=>B ah (by simpa using ai) (((((((F.trans I).trans R).trans X).trans T).trans ae).trans ag).trans ak) (by omega)
theorem aj.br{j:Nat}{dv:Array J0}(d:a[b]?=Z (J2 bi x (0,0)))(e:j<bi.size)(f:bi.setIfInBounds j u=dv)(g:∀c,c[b]?=Z (J2 dv x (0,0))->L (· =b) a c->c.size=a.size->bf c):aj a ((⟨b,0,V⟩:Q6).add j) u bf:=by rw[CR,B9];exact Ab d e λi k=>g i (by rw[<-f];exact k)
structure Ev where
 id:Int
 ajF:Int
 ajS:Int
 ajO:Int
 ajM:Int
 ajK:Int
 ak:Bool
 data:E
def bD:bW Ev where enc x:=[D x.id,D x.ajF,D x.ajS,D x.ajO,D x.ajM,D x.ajK,J3 x.ak,J7 x.data];w:=8;len _:=rfl;pos:=by{omega};one x v a:=by simp at a;rcases a with rfl|rfl|rfl|rfl|rfl|rfl|rfl|rfl<;>rfl
def Ev.fv(x:Ev):List Fv:=[.i x.id,.i x.ajF,.i x.ajS,.i x.ajO,.i x.ajM,.i x.ajK,.b x.ak,.s x.data]
variable{r:Ev}{q b1:List Ev}
theorem ADO{x:Ev}:x.fv=r.fv↔x=r:=by cases x;cases r;simp[Ev.fv]
instance:DecidableEq Ev:=λx y=>decidable_of_iff (x.fv=y.fv) ADO
def cJ(a:Int):Bool:=decide (a=3\/a=4\/a=5\/a=11\/a=7\/a=8\/a=9)
def cW(a:Int):Bool:=decide (a=6\/a=10)
def dy(a:Int):Bool:=decide (a=7\/a=8\/a=9)
def dA(a:Int):Bool:=decide (a=6)
def dZ(a:Int):Bool:=decide (a=1\/a=12)
def cF(b:Bool)(a lo hi:Int):Bool:=if b then bO a lo hi else decide (a=0)
def Dn(a:Ev):Bool:=bO a.ajF 1 18&&bO a.id 1 500&&bO a.ajS 0 1099511627776&&cF (cJ a.ajF) a.ajO 1 (a.id-1)&&cF (cW a.ajF) a.ajM 0 15&&cF (dy a.ajF) a.ajK 1 5&&(!a.ak||dA a.ajF)&&(decide (a.data=Ex)||dZ a.ajF)
def Kz(a:Ev):Bool:=if a.ajF=1 then(Fp (bl a.data)).isSome else if a.ajF=12 then Aq a.data else Y
def Eb(a:Ev):Bool:=Dn a&&Kz a
def WJ(a:Bool)(b:Int):List UInt8:=if a then Br b.toNat else[]
def iJ(a:Bool)(b:E):List UInt8:=if a then Bj (bl b)else[]
def Qi(a:Ev):List UInt8:=Br a.id.toNat++(Br a.ajF.toNat++(Br a.ajS.toNat++(WJ (cJ a.ajF) a.ajO++(WJ (cW a.ajF) a.ajM++(WJ (dy a.ajF) a.ajK++(WJ (dA a.ajF) (if a.ak then 1 else 0)++iJ (dZ a.ajF) a.data))))))
structure lU where
 id:Nat
 ajF:Nat
 ajS:Nat
 ajO:Nat
 ajM:Nat
 ajK:Nat
def lU.wide(a:lU):Prop:=500<=a.id/\18<=a.ajF/\1099511627776<=a.ajS/\500<=a.ajO/\15<=a.ajM/\5<=a.ajK
def gG:lU:=⟨500,18,1099511627776,500,15,5⟩
def GJ(b:Bool)(m:Nat)(a:Rd):Nat×Rd:=if b then Bh m a else(0,a)
def XD(b:Bool)(a:Rd):List UInt8×Rd:=if b then EX a else([],a)
def Ta(c:lU)(e:Rd):Ev×Rd:=let i:=Bh c.id e;let b:=Bh c.ajF i.2;let t:=Bh c.ajS b.2;let a:=GJ (cJ b.1) c.ajO t.2;let s:=GJ (cW b.1) c.ajM a.2;let n:=GJ (dy b.1) c.ajK s.2;let u:=GJ (dA b.1) 1 n.2;let d:=XD (dZ b.1) u.2;(⟨i.1,b.1,t.1,a.1,s.1,n.1,decide (u.1=1),Am d.1⟩,d.2)
def lW(a:List UInt8):Option Ev:=let x:=Ta gG ⟨a,U⟩;if Xd x.2&&Eb x.1 then Z x.1 else V
theorem ru{f:Bool}{n:Int}{m:Nat}(a:cF f n 0 m=Y)(c:m<18446744073709551616)(b:List UInt8):GJ f m ⟨WJ f n++b,U⟩=(n.toNat,⟨b,U⟩):=by cases f with|false=>simp[cF]at a;subst a;rfl|true=>simp[cF,AS,Bd]at a;simp[GJ,WJ,AS];grind[FE]
theorem vZ{lo hi:Int}(a:cF ap i lo hi=Y)(b:ar<=lo)(c:hi<=bo):cF ap i ar bo=true:=by cases ap with|false=>exact a|true=>simp[cF,AS,Bd]at a⊢;omega
theorem w6{lo hi:Int}(a:cF ap i lo hi=Y)(b:0<=lo):(i.toNat:Int)=i:=by cases ap with|false=>simp_all[cF]|true=>simp[cF,AS,Bd]at a;omega
theorem AT7(a:(decide (h=Ex)||ap)=Y)(c:h.size<18446744073709551616)(b:List UInt8):XD ap ⟨iJ ap h++b,U⟩=(bl h,⟨b,U⟩):=by cases ap with|false=>simp at a;subst a;rfl|true=>simp_all[XD,iJ,AS,Lu,BV]
theorem Nn(a:Eb r=Y):Dn r=true:=by simp_all[Eb,As]
theorem AUk{a:lU}(l:a.wide)(hi:a.ajO<18446744073709551616/\a.ajM<18446744073709551616/\a.ajK<18446744073709551616)(g:Dn r=Y)(o:r.data.size<18446744073709551616)(h:List UInt8):Ta a ⟨Qi r++h,U⟩=(r,⟨h,U⟩):=by
 obtain⟨id,b,d,P,step,R,c,S⟩:=r;simp only[Dn,As]at g;obtain⟨⟨⟨⟨⟨⟨⟨p,hid⟩,q⟩,i⟩,j⟩,k⟩,X⟩,s⟩:=g;have⟨W,T,O,ae,af,ag⟩:=l;have ah:=Bd.1 p;have ai:=Bd.1 hid;have aj:=Bd.1 q;have t:=FE (n:=id.toNat) (most:=a.id) (by omega) (by omega);have u:=FE (n:=b.toNat) (most:=a.ajF) (by omega) (by omega);have v:=FE (n:=d.toNat) (most:=a.ajS) (by omega) (by omega);have w:b.toNat=b:=by omega
 have x:=ru (vZ i (by omega) (by omega)) hi.1;have y:=ru (vZ j (by omega) (by omega)) hi.2.1;have z:=ru (vZ k (by omega) (by omega)) hi.2.2;have A:=ru (f:=dA b) (n:=if c then 1 else 0) (m:=1) (by cases ak:dA b with|true=>simp[cF,AS,Bd];split<;>omega|false=>simp_all[cF]) (by decide);simp only[Ta,Qi,AG,t,u,v,w,x,y,z,A,AT7 s o];have B:decide ((if c=Y then(1:Int)else 0).toNat=1)=c:=by cases c<;>rfl
 have C:=w6 i (by decide);have F:=w6 j (by decide);have H:=w6 k (by decide);have I:id.toNat=id:=by omega
 have K:d.toNat=d:=by omega
 rw[B,C,F,H,I,K,Et]
theorem YJ{m:Nat}(a:(GJ ap m bg).2.bad=U):bg.bad=U/\bg.rest=WJ ap (GJ ap m bg).1++(GJ ap m bg).2.rest/\(GJ ap m bg).1<=m:=by cases ap with|false=>exact⟨a,rfl,AE _⟩|true=>simp[GJ,WJ,AS,AD]at a⊢;exact Hr a
theorem ARd(a:(XD ap bg).2.bad=U):bg.bad=U/\bg.rest=iJ ap (Am (XD ap bg).1)++(XD ap bg).2.rest:=by cases ap with|false=>exact⟨a,rfl⟩|true=>simp_all[XD,iJ,AS,GX,VF]
theorem AQP{a:lU}(b:(Ta a bg).2.bad=U):bg.bad=U/\bg.rest=Qi (Ta a bg).1++(Ta a bg).2.rest:=by
 simp[Ta]at b⊢;obtain⟨c,d⟩:=ARd b;obtain⟨e,f,g⟩:=YJ c;obtain⟨h,i,_⟩:=YJ e;obtain⟨j,k,_⟩:=YJ h;obtain⟨l,m,_⟩:=YJ j;obtain⟨o,p,_⟩:=Hr l;obtain⟨q,s,_⟩:=Hr o;have⟨t,u,_⟩:=Hr q;refine⟨t,?_⟩;simp only[Qi,AG,AD];rw[<-d];have v:∀n:Nat,n<=1->(if decide (n=1)=Y then(1:Int)else 0)=n:=λn w=>by have:n=0\/n=1:=by{omega};rcases this with rfl|rfl<;>rfl
 rw[v _ g,<-f,<-i,<-k,<-m,<-p,<-s,<-u]
theorem AM3(a:lW a5=Z r):Eb r=Y/\Qi r=a5:=by unfold lW at a;simp only at a;split at a;{rename_i b;simp[As]at b;obtain⟨c,d⟩:=b;obtain rfl:=CD a;refine⟨d,?_⟩;rw[AMZ]at c;obtain⟨_,f⟩:=AQP (by rw[c]);grind};cases a
def ASI:gG.wide:=⟨A2 _,A2 _,A2 _,A2 _,A2 _,A2 _⟩
theorem ANl(b:Dn r=Y):r.data.size<=J (Qi r):=by simp[Dn,As]at b;have a:=b.2;cases c:dZ r.ajF with|false=>rw[c]at a;simp at a;rw[a];exact AE _|true=>simp[Qi,iJ,c,AS,Bj,A6,BV];omega
theorem AQi(d:J a5<18446744073709551616):lW a5=Z r↔Eb r=Y/\Qi r=a5:=by refine⟨AM3,λ⟨a,b⟩=>?_⟩;have c:=ANl (Nn a);have:=AUk ASI ⟨by decide,by decide,by decide⟩ (Nn a) (by rw[b]at c;omega) [];rw[AK,b]at this;unfold lW;simp[this,a];rfl
structure Jb where
 id:Int
 ajM:Int
 ak:Bool
 ajK:Int
def fQ:bW Jb where enc x:=[D x.id,D x.ajM,J3 x.ak,D x.ajK];w:=4;len _:=rfl;pos:=by{omega};one x v a:=by simp at a;rcases a with rfl|rfl|rfl|rfl<;>rfl
structure Ck where
 id:Int
 ajM:Int
 ajS:Int
def hG:bW Ck where enc x:=[D x.id,D x.ajM,D x.ajS];w:=3;len _:=rfl;pos:=by{omega};one x v a:=by simp at a;rcases a with rfl|rfl|rfl<;>rfl
structure aH where
 prog:aS
 ajI:Int
 next:Int
 ba:Int
 ajR:Int
 ajQ:Int
 ajL:Bool
 au:List Jb
 ag:List Ck
 ajP:Bool
 aC:Bool
def GI:aH:=⟨⟨[],0⟩,0,0,0,0,0,U,[],[],U,U⟩
def stepOf(p:aS)(a b:Int):Option bN:=if 0<=a then(p.ajG[a.toNat]?).bind λx=>if x.ajF=b then Z x else V else V
def CU(p:aS)(a:Jb):Int:=match stepOf p a.ajM 1 with|none=>0|some x=>if a.ak then x.aA else x.ajT
def ML(b:aH)(c d:Int):Option Nat:=b.au.findIdx? λa=>decide (a.id=c)&&decide (a.ajK=d)
def DZ(a:aH)(b:Ev):Option aH:=if b.ajF=2 then(if a.ajR=0/\a.ajQ=0/\a.ajL=Y then Z {a with ajR:=b.id}else V)else if b.ajF=3 then(if a.ajR=b.ajO then Z {a with ajR:=0,ajQ:=b.id,ajL:=U}else V)else if b.ajF=4 then(if a.ajQ=b.ajO then Z {a with ajQ:=0}else V)else(if a.ajQ=b.ajO then Z {a with ajQ:=0,ajL:=Y}else V)
def MM(b:aH)(a:Ev):Option aH:=if a.ajF=6 then(stepOf b.prog a.ajM 1).bind λx=>if a.ak=Y/\x.ak=Ex then V else Z {b with au:=b.au++[⟨a.id,a.ajM,a.ak,1⟩]}else(ML b a.ajO a.ajK).bind λi=>(b.au[i]?).bind λc=>if a.ajF=8 then(if a.ajK=CU b.prog c then V else Z {b with au:=b.au.set i {c with ajK:=c.ajK+1}})else if a.ajF=7\/a.ajK=CU b.prog c then Z {b with au:=b.au.eraseIdx i,ajL:=Y}else V
def Jd(b:aH)(a:Ev):Option aH:=if a.ajF=10 then(stepOf b.prog a.ajM 2).map λx=>{b with ag:=b.ag++[⟨a.id,a.ajM,a.ajS+x.ajU⟩]}else(b.ag.findIdx? λc=>decide (c.id=a.ajO)&&decide (c.ajS<=a.ajS)).map λi=>{b with ag:=b.ag.eraseIdx i,ajL:=Y}
def iM(a:aH)(b:Int):aH:={a with ajI:=b,ajR:=0,ajQ:=0,ajL:=U,au:=[],ag:=[]}
def Oi(a:aH):Prop:=a.ajR=0/\a.ajQ=0/\a.au=[]
instance(s:aH):Decidable (Oi s):=decidable_of_iff (s.ajR=0/\s.ajQ=0/\J s.au=0) (by simp[Oi])
def K9(a:aH)(b:Ev):Option aH:=if b.ajF=12 then Z {a with ajL:=Y}else if b.ajF=13 then(if a.ajP=Y then V else Z {a with ajP:=Y,ajL:=Y})else if b.ajF=14 then(if a.aC=Y\/a.prog.aw=0\/b.ajS<a.ba+a.prog.aw then V else Z {a with aC:=Y,ajL:=Y})else if b.ajF=18 then Z (iM a 4)else if b.ajF=15 then(if Oi a then Z (iM a 1)else V)else if b.ajF=16 then(if Oi a then Z (iM a 2)else V)else if b.ajF=17 then(if Oi a then Z (iM a 3)else V)else V
def Ob(b:aH)(a:Ev):Option aH:=(if 2<=a.ajF/\a.ajF<=5 then DZ b a else if 6<=a.ajF/\a.ajF<=9 then MM b a else if a.ajF=10\/a.ajF=11 then Jd b a else K9 b a).map λt=>{t with next:=b.next+1}
def Xe(a:Ev):aH:=⟨(Fp (bl a.data)).getD ⟨[],0⟩,0,2,a.ajS,0,0,Y,[],[],U,U⟩
def BK(b:aH)(a:Ev):Int×aH:=if Eb a=U then(120,GI)else if b.next=0 then(if a.ajF=1/\a.id=1 then(0,Xe a)else(120,GI))else if b.ajI≠0 then(182,GI)else if a.id≠b.next then(120,GI)else match Ob b a with|none=>(120,GI)|some t=>(0,t)
def Bw(a:aH):List Ev->Option aH|[]=>Z a|e::l=>if(BK a e).1=0 then Bw (BK a e).2 l else V
theorem ZP:∀{s:aH},Bw s (q++b1)=(Bw s q).bind λt=>Bw t b1:=by induction q with|nil=>intro s;rfl|cons c l d=>intro s;rw[DO,Bw,Bw];grind
variable{Q c5:aH}
theorem ADK(a:Bw Q q=Z c5)(b:(BK c5 r).1=0):Bw Q (q++[r])=Z (BK c5 r).2:=by simp_all[ZP,Bw,A1]
theorem Ls(a:(BK Q r).1=0):Eb r=true:=by grind[BK]
theorem X8(a:(BK Q r).1=0):(Q.next=0->r.id=1/\(BK Q r).2.next=2)/\(Q.next≠0->r.id=Q.next/\(BK Q r).2.next=Q.next+1):=by unfold BK at a⊢;split at a;{cases a};rename_i g;rw[A0 g];split at a;{rename_i b;rw[A1 b];split at a;{rename_i c;rw[A1 c];exact⟨λ_=>⟨c.2,rfl⟩,λa=>A4 b a⟩};cases a};rename_i b;rw[A0 b];split at a;{cases a};rename_i c;rw[A0 c];split at a;{cases a};rename_i d;rw[A0 d];cases f:Ob Q r with|none=>rw[f]at a;cases a|some t=>refine⟨λa=>A4 a b,λ_=>⟨by simpa using d,?_⟩⟩;obtain⟨h,-,rfl⟩:=Hk.1 f;rfl
theorem ALb:∀{l:List Ev}{s t:aH},Bw s l=Z t->1<=s.next->t.next=s.next+J l/\∀(i:Nat)(b:Ev),l[i]?=Z b->b.id=s.next+i/\Eb b=true:=by intro l;induction l with|nil=>intro s t a c;cases a;simp_all|cons b l d=>intro s t a c;rw[Bw]at a;split at a;{rename_i e;have f:=(X8 e).2 (by omega);obtain⟨g,h⟩:=d a (by omega);refine⟨by grind,λi x j=>?_⟩;grind[Ls]};cases a
theorem Z5(a:Bw GI q=Z Q)(c:q≠[]):Q.next=J q+1/\∀(i:Nat)(b:Ev),q[i]?=Z b->b.id=i+1/\Eb b=true:=by cases q with|nil=>cases c rfl|cons b q=>rw[Bw]at a;split at a;{rename_i d;have e:=(X8 d).1 rfl;obtain⟨f,g⟩:=ALb a (by omega);refine⟨by grind,λi x h=>?_⟩;grind[Ls]};cases a
def fI:List UInt8->Option (List UInt8)|[]=>V|a::p=>match fI p with|some b=>Z (a::b)|none=>if a<255 then Z [a+1]else V
theorem APT{b:UInt8}(c:dl<255):b<dl+1↔¬dl<b:=by
 have e:dl.toNat<255:=I2.1 c;have d:(dl+1).toNat=dl.toNat+1:=by rw[UInt8.toNat_add];show(dl.toNat+1)%256=_;omega
 rw[I2,I2,d];omega
theorem AYD{b:UInt8}(c:¬dl<255):¬dl<b:=λd=>by rw[I2]at c d;have:b.toNat<256:=b.toNat_lt;have e:(255:UInt8).toNat=255:=rfl;omega
theorem APX:∀(p j:List UInt8),(¬j<p/\(∀h,fI p=Z h->j<h))↔p<+:j|[],j=>by simp[fI]|a::p,[]=>by constructor;{rintro⟨c,_⟩;exact A4 (List.nil_lt_cons a p) c};intro c;exact A4 (List.prefix_nil.1 c) (by simp)|a::p,b::j=>by have s:=APX p j;have e:∀{x q:UInt8}{l m:List UInt8},x::l<q::m↔x<q\/x=q/\l<m:=A0Y;rw[List.cons_prefix_cons,<-s];constructor;{rintro⟨o,f⟩;have r:¬b<a:=λc=>o (e.2 (.inl c));have t:¬a<b:=λc=>by{unfold fI at f;cases k:fI p with|some h=>rw[k]at f;rcases e.1 (f _ rfl)with d|⟨d,_⟩;{exact r d};subst d;exact Sp _ c|none=>rw[k]at f;by_cases i:a<255;{have:=f [a+1] (by simp[i]);rcases e.1 this with d|⟨_,d⟩;{exact(APT i).1 d c};exact A4 d (by simp)};exact AYD i c};have n:a=b:=by{by_cases n:a=b;{exact n};rcases UInt8.lt_or_lt_of_ne n with c|c;{exact A4 c t};exact A4 c r};subst n;refine⟨rfl,λc=>o (e.2 (.inr ⟨rfl,c⟩)),λh g=>?_⟩;have:=f (a::h) (by unfold fI;rw[g]);rcases e.1 this with d|⟨_,d⟩;{exact A4 d (Sp _)};exact d};rintro⟨rfl,o,f⟩;refine⟨λc=>?_,λh g=>?_⟩;{rcases e.1 c with d|⟨_,d⟩;{exact A4 d (Sp _)};exact o d};unfold fI at g;cases k:fI p with|some u=>rw[k]at g;obtain rfl:=CD g;exact e.2 (.inr ⟨rfl,f u k⟩)|none=>rw[k]at g;by_cases i:a<255;{have n:h=[a+1]:=by{simpa[i]using g.symm};subst n;exact e.2 (.inl ((APT i).2 (Sp _)))};simp[i]at g
theorem wz:∀{p:List UInt8},(∀x∈p,¬x<255)->fI p=V|[],_=>rfl|a::p,b=>by unfold fI;rw[wz λx c=>b x (CN _ c)];simp[b a FG]
theorem AXF:∀{p:List UInt8}{i:Nat}{a:UInt8},p[i]?=Z a->a<255->(∀x∈p.drop (i+1),¬x<255)->fI p=Z (p.take i++[a+1])|[],i,a,c,_,_=>by simp at c|b::p,0,a,c,d,hd=>by simp at c;subst c;unfold fI;rw[wz (by simpa using hd)];simp[d]|b::p,i+1,a,c,d,hd=>by unfold fI;rw[AXF (p:=p) (i:=i) (a:=a) (by simpa using c) d (by simpa using hd)];simp
def j8(p a:E):Bool:=(p.data.toList).isPrefixOf a.data.toList
theorem rN(p a:E):j8 p a=Y↔p.data.toList<+:a.data.toList:=by unfold j8;rw[A03]
def QK:Nat->Nat->List UInt8|0,_=>[]|k+1,n=>QK k (n/256)++[DU n]
theorem Rh:∀(k n:Nat),J (QK k n)=k|0,_=>rfl|k+1,n=>by rw[QK,A6,Rh k];rfl
theorem wA(a:Nat):DU a=DU (a%256):=by apply UInt8.toNat_inj.1;simp[DU,ZD]
theorem AQj(c:b<256)(d:f<256)(e:DU b=DU f):b=f:=by have:=congrArg UInt8.toNat e;rwa[Dy c,Dy d]at this
def AY9(a:Nat):QK 4 a=[DU (a/256/256/256),DU (a/256/256),DU (a/256),DU a]:=rfl
theorem AVL(j:f<65536)(k:b<f):QK 4 b<QK 4 f:=by
 rw[AY9,AY9];have d:b/256/256=0:=by omega
 have e:f/256/256=0:=by omega
 rw[d,e];have lt:∀{x c:Nat},c<256->x<c->DU x<DU c:=λ{x c}g h=>by rw[I2,Dy g,Dy (by omega)];exact h
 refine List.Lex.cons (List.Lex.cons ?_);by_cases i:b/256=f/256;{rw[i];refine List.Lex.cons (List.Lex.rel ?_);rw[wA b,wA f];refine lt ?_ ?_<;>omega};refine List.Lex.rel (lt ?_ ?_)<;>omega
theorem AYO(p:List UInt8)(d:a5<ch):p++a5<p++ch:=by induction p with|nil=>exact d|cons c p e=>exact List.Lex.cons e
def kE:UInt8:=104
def na(a:E):List UInt8:=kE::Bj (bl a)
def Zw(a:E):E:=Am (na a)
def eY(a:E)(b:Nat):E:=Am (na a++QK 4 b)
def Oo(a:E):E:=Am (119::bl a)
def QZ(a:E):E:=Am (114::bl a)
def ng(a b:Nat):E:=Am (116::DU a::QK 8 b)
def nh(a b c:Nat):E:=Am (109::DU a::(QK 8 b++QK 8 c))
theorem ADP(a:h.size<=16):Bj (bl h)=DU h.size::bl h:=by unfold Bj;rw[BV,Ff (by omega)];rfl
theorem VE(a:h.size<=16):na h=104::DU h.size::bl h:=by unfold na;rw[ADP a];rfl
theorem ATP(a:h.size<=16)(b:Nat):(eY h b).size<=22:=by unfold eY;rw[AX,A6,Rh,VE a];simp[AW,BV];omega
theorem AQx(a:h.size<=16):(Zw h).size<=18:=by unfold Zw;rw[AX,VE a];simp[AW,BV];omega
theorem wB(a:E):(Oo a).size=a.size+1:=by unfold Oo;rw[AX,AW,BV]
theorem Ya(a:E):(QZ a).size=a.size+1:=by unfold QZ;rw[AX,AW,BV]
theorem ADM(a b:Nat):(ng a b).size=10:=by unfold ng;rw[AX];rfl
theorem ADC(a b c:Nat):(nh a b c).size=18:=by unfold nh;rw[AX];rfl
theorem pD{i:Nat}(a:b<65536)(c:i<b):aQ (eY h i) (eY h b)=true:=by rw[pv,B8];unfold eY;rw[Dx,Dx];exact AYO _ (AVL a c)
theorem AOt(a:E)(b:Nat):j8 (Zw a) (eY a b)=true:=by rw[rN];unfold Zw eY;rw[Dx,Dx];exact List.prefix_append _ _
theorem AP5(d:h.size<=16)(e:a3.size<=16)(a:j8 (Zw h) (eY a3 b)=Y):h=a3:=by rw[rN]at a;unfold Zw eY at a;rw[Dx,Dx,VE d,VE e]at a;obtain⟨t,c⟩:=a;simp[DO,LS,SD]at c;have f:=AQj (by omega) (by omega) c.1;have:=(List.append_inj c.2 (by rw[BV,BV];exact f)).1;rw[<-Et h,<-Et a3];exact congrArg Am this
theorem AVC(d:h.size<=16)(e:a3.size<=16){i:Nat}(hi:i<65536)(f:b<65536)(c:eY h i=eY a3 b):h=a3/\i=b:=by have g:=AP5 d e (by rw[<-c];exact AOt h i);subst g;refine⟨rfl,?_⟩;rcases LN i b with a|a|a;{cases(TC (pD f a)) c};{exact a};cases(TC (pD hi a)) c.symm
theorem ARW(c:Oo h=Oo a3):h=a3:=by have:=LF.1 c;simp only[LS,SD]at this;rw[<-Et h,<-Et a3];exact congrArg Am this
theorem AL0(c:QZ h=QZ a3):h=a3:=by have:=LF.1 c;simp only[LS,SD]at this;rw[<-Et h,<-Et a3];exact congrArg Am this
def Dg(a:E):UInt8:=(bl a).headD 0
theorem rQ(a:E)(b:Nat):Dg (eY a b)=104:=by unfold Dg eY;rw[GX];rfl
theorem JO(a:E):Dg (Oo a)=119:=by unfold Dg Oo;rw[GX];rfl
theorem QN(a:E):Dg (QZ a)=114:=by unfold Dg QZ;rw[GX];rfl
theorem AOH(a b:Nat):Dg (ng a b)=116:=by unfold Dg ng;rw[GX];rfl
theorem ANL(a b c:Nat):Dg (nh a b c)=109:=by unfold Dg nh;rw[GX];rfl
theorem wC(a:j8 (Zw h) a3=Y):Dg a3=104:=by rw[rN]at a;obtain⟨t,b⟩:=a;show(a3.data.toList).headD 0=104;rw[<-b];unfold Zw;rw[Dx];rfl
def Tz(a next:Nat)(b:Bool):E:=Am (Br a++(Br next++Br (if b then 1 else 0)))
def kB(a:List UInt8)(b next:Nat):E:=Am (Bj a++(Br b++Br next))
def wE(a:Nat)(b:E)(c d:Nat):E:=Am (Br a++(Bj (bl b)++(Br c++Br d)))
theorem Il{n:Nat}(a:n<16384):J (Br n)<=2:=ALQ 1 n (by omega)
theorem ANR{kind ref turn:Nat}{wid:E}(a:kind<128)(b:wid.size<=16)(c:ref<=500)(d:turn<=5):(wE kind wid ref turn).size<=22:=by unfold wE;have:=Il (n:=ref) (by omega);rw[AX,Ff a,ADP b,Ff (n:=turn) (by omega)];simp[A6,AW,BV,IN];omega
theorem ANq{next:Nat}(a:b<128)(c:next<=501):(Tz b next ap).size<=4:=by unfold Tz;have:=Il (n:=next) (by omega);rw[AX,Ff a,Ff (n:=if ap then 1 else 0) (by split<;>omega)];simp[A6,AW,IN];omega
structure aP where
 ajH:E
 aq:Nat
 cy:Int
 bX:Int
 kept:Bool
 st:aH
 ajJ:List Ev
 az:List Pr
 conds:List Pr
 err:Int
 now:Int
def ZR(a:aH):Bool:=decide (a.next<=497)
def FR(b:E)(c:Nat)(cy bX:Int)(d:Bool)(st:aH)(a:Int):aP:=⟨b,c,cy,bX,d,st,[],[],[],if a<0\/1099511611776<a then 1 else 0,a⟩
def Dk(a:aP)(b:Ev):Ev:={b with id:=if 1>a.st.next then 1 else a.st.next,ajS:=a.now}
def DW(a:aP)(b:Ev):aP:=if a.err≠0 then a else if a.ajJ=[]/\ZR a.st=U/\b.ajF≠18 then{a with err:=2}else if(BK a.st (Dk a b)).1≠0 then{a with err:=(BK a.st (Dk a b)).1}else{a with st:=(BK a.st (Dk a b)).2,ajJ:=a.ajJ++[Dk a b]}
def kC(a:aP):Int:=a.st.next-1
structure gJ where
 ajF:Int
 ajO:Int
 ajK:Int
def KD(a:gJ)(b:E):Bool:=bO a.ajF 1 7&&Aq b&&bO a.ajO 0 500&&bO a.ajK 0 5
def lY(a:gJ)(b:E):E:=wE a.ajF.toNat b a.ajO.toNat a.ajK.toNat
def Rz(a:Nat)(b:Int)(c:Nat):E:=if b<0 then ng a c else nh a b.toNat c
def Fu(a:aP)(b:gJ)(c:Int)(d:Nat):aP:=if a.err≠0 then a else if KD b a.ajH=U then{a with err:=1}else{a with az:=a.az++[⟨Rz a.aq c d,lY b a.ajH,U⟩]}
def pE(a:aP)(b val:E):aP:={a with conds:=a.conds++[⟨b,⟨#[]⟩,Y⟩],az:=a.az++[⟨b,val,U⟩]}
def GG(a:aP):Bool:=decide (a.ajJ≠[])&&(decide (a.st.ajI=0)&&(a.st.ajL&&(decide (a.st.ajR=0)&&decide (a.st.ajQ=0))))
def EB(a:aP):Int×Int:=(a.st.ajI,if GG a then a.st.next+1 else a.st.next)
def bE(a:aP):Pr:=if 0<a.bX then⟨Oo a.ajH,Tz a.cy.toNat a.bX.toNat a.kept,U⟩else⟨Oo a.ajH,⟨#[]⟩,Y⟩
def Sj(b:E)(a:Ev):Pr:=⟨eY b a.id.toNat,Am (Qi a),U⟩
def Fq(a:aP):List Pr:=a.ajJ.map (Sj a.ajH)++(if a.ajJ=[]then[]else[⟨Oo a.ajH,Tz a.st.ajI.toNat a.st.next.toNat U,U⟩])
structure aP.fZ (C:aP):Prop where
 pos:C.err=0-> ∀e∈C.ajJ,Eb e=Y
 err0:0<=C.err
theorem PW(a:aP)(b:Ev):(DW a b).ajH=a.ajH/\(DW a b).aq=a.aq/\(DW a b).cy=a.cy/\(DW a b).bX=a.bX/\(DW a b).kept=a.kept/\(DW a b).az=a.az/\(DW a b).conds=a.conds/\(DW a b).now=a.now:=by unfold DW;split;{simp};split;{simp};split<;>simp
variable{aq:aP}
theorem wF{e:Ev}(c:aq.err=0)(d:aq.ajJ≠[]\/aq.st.next<=497\/e.ajF=18)(f:(BK aq.st (Dk aq e)).1=0):DW aq e={aq with st:=(BK aq.st (Dk aq e)).2,ajJ:=aq.ajJ++[Dk aq e]}:=by unfold DW;rw[A0 (by simp[c]),A0 (by rintro⟨g,b,h⟩;rcases d with a|a|a;{exact a g};{unfold ZR at b;simp at b;omega};exact h a),A0 (by simp[f])]
def wG(a:Q6):W->Nat->List J0->(W->Prop)->Prop|h,_,[],K=>K h|h,i,v::b,K=>aj h (a.add i) v λc=>wG a c (i+1) b K
def cD(a:W)(b:Q6)(c:List J0)(d:W->Prop):Prop:=wG b a 0 c d
def gK(a:Array J0)(b:Nat)(c:List J0):Array J0:=⟨a.toList.take b++(c++a.toList.drop (b+J c))⟩
theorem ARQ(a:b<bi.size):gK (bi.setIfInBounds b u) (b+1) b3=gK bi b (u::b3):=by
 obtain⟨l⟩:=bi;have a:b<J l:=a;apply congrArg Array.mk;simp[A0B,AW];have c:l.set b u=l.take b++u::l.drop (b+1):=by rw[A0P,A1 a]
 rw[c,PB,Wf,BT,Hh (by omega)];rw[show b+1-b=1 from by omega,On,Tl (by omega),show b+1+J b3-b=J b3+1 from by omega];rw[PC (l:=l.take b) (by grind)];simp[LO,SJ,Ds,LI,ID,AG,DO];rw[show b+1+J b3=b+(J b3+1)from by omega]
theorem AUY:gK bi b []=bi:=by simp_all[gK]
theorem AUJ:∀(c:List J0)(i:Nat){a:W}{d:Array J0},a[b]?=Z (J2 d x (0,0))->f+i+J c<=d.size->(∀e,e[b]?=Z (J2 (gK d (f+i) c) x (0,0))->L (· =b) a e->e.size=a.size->bf e)->wG ⟨b,f,V⟩ a i c bf|[],i,a,d,g,_,h=>h a (by rw[AUY];exact g) ⟨A2 _,λ_ _ _=>rfl⟩ rfl|v::c,i,a,d,g,j,h=>by rw[AW]at j;show aj a (Addr.add ⟨b,f,V⟩ i) v _;rw[CR];refine Ab g (by omega) λp k l q=>AUJ c (i+1) k (by simp;omega) λm r n s=>h m ?_ (l.trans n) (by omega);grind[ARQ]
def Ap{vs:List J0}(d:a[b]?=Z (J2 bi x (0,0)))(e:f+J vs<=bi.size)(g:∀c,c[b]?=Z (J2 (gK bi f vs) x (0,0))->L (· =b) a c->c.size=a.size->bf c):cD a ⟨b,f,V⟩ vs bf:=AUJ vs 0 d e g
theorem Dw(c:a[b]?=Z (J2 bi x bu))(d:(bi.toList.drop f).take (J b3)=b3):Cells a ⟨b,f,V⟩ b3:=λe v g=>by rw[CR];refine AL c ?_;grind
def kD:(l:List Sc)->(iE l->Prop)->Prop|[],K=>K ()|s::l,K=>∃x:s.Ty,kD l λa=>K (x,a)
theorem Zu:∀{l:List Sc}{K:iE l->Prop}(x:iE l),K x->kD l K|[],_,_,a=>a|_::_,_,x,a=>⟨x.1,Zu x.2 a⟩
def gL(a:W)(b:Q6):Nat->(l:List Sc)->(iE l->Prop)->Prop|_,[],K=>K ()|i,s::l,K=>s.load a (b.add i) λx=>gL a b (i+1) l λc=>K (x,c)
theorem Qd:∀{l:List Sc}{i:Nat}{K:iE l->Prop}(x:iE l),(∀b v,(jA l x)[b]?=Z v->ah a (a4.add (i+b))=Z v)->K x->gL a a4 i l K|[],_,_,_,_,c=>c|s::l,i,K,x,d,c=>by have e:gL a a4 (i+1) l λf=>K (x.1,f):=Qd x.2 (λb v g=>by have:=d (b+1) v g;rwa[<-KK,Nat.add_right_comm]at this) c;cases s<;>exact⟨_,d 0 _ rfl,e⟩
abbrev Ev.l(x:Ev):List J0:=[D x.id,D x.ajF,D x.ajS,D x.ajO,D x.ajM,D x.ajK,J3 x.ak,J7 x.data]
abbrev Ev.c(x:Ev):Array J0:=x.l.toArray
abbrev Ev.v(x:Ev):J0:=.agg x.l.toArray
abbrev LA:Ev:=⟨0,0,0,0,0,0,U,⟨#[]⟩⟩
abbrev Ev.s:List Sc:=[.int D,.int D,.int D,.int D,.int D,.int D,.bool,.str]
abbrev AR3:Type:=Int×Int×Int×Int×Int×Int×Bool×E×Unit
abbrev Ev.t(x:Ev):AR3:=(x.id,x.ajF,x.ajS,x.ajO,x.ajM,x.ajK,x.ak,x.data,())
abbrev AS8(p:AR3):Ev:=⟨p.1,p.2.1,p.2.2.1,p.2.2.2.1,p.2.2.2.2.1,p.2.2.2.2.2.1,p.2.2.2.2.2.2.1,p.2.2.2.2.2.2.2.1⟩
def rR(a:Ev->Prop):Prop:=kD Ev.s λp=>a (AS8 p)
def UZ{a:Ev->Prop}(x:Ev)(b:a x):rR a:=Zu x.t b
def pF(a:W)(b:Q6)(c:Ev->Prop):Prop:=gL a b 0 Ev.s λp=>c (AS8 p)
theorem Cy{b:Ev->Prop}(x:Ev)(c:Cells a a4 x.l)(d:b x):pF a a4 b:=Qd x.t (λe v f=>by rw[B9];exact c e v f) d
abbrev Jb.l(x:Jb):List J0:=[D x.id,D x.ajM,J3 x.ak,D x.ajK]
abbrev Jb.c(x:Jb):Array J0:=x.l.toArray
abbrev Jb.v(x:Jb):J0:=.agg x.l.toArray
abbrev AXn:Jb:=⟨0,0,U,0⟩
abbrev Jb.s:List Sc:=[.int D,.int D,.bool,.int D]
abbrev AUv:Type:=Int×Int×Bool×Int×Unit
abbrev Jb.t(x:Jb):AUv:=(x.id,x.ajM,x.ak,x.ajK,())
abbrev AXt(p:AUv):Jb:=⟨p.1,p.2.1,p.2.2.1,p.2.2.2.1⟩
def AZK(a:W)(b:Q6)(c:Jb->Prop):Prop:=gL a b 0 Jb.s λp=>c (AXt p)
theorem UC{b:Jb->Prop}(x:Jb)(c:Cells a a4 x.l)(d:b x):AZK a a4 b:=Qd x.t (λe v f=>by rw[B9];exact c e v f) d
abbrev Ck.l(x:Ck):List J0:=[D x.id,D x.ajM,D x.ajS]
abbrev Ck.c(x:Ck):Array J0:=x.l.toArray
abbrev Ck.v(x:Ck):J0:=.agg x.l.toArray
abbrev AXg:Ck:=⟨0,0,0⟩
abbrev Ck.s:List Sc:=[.int D,.int D,.int D]
abbrev ATy:Type:=Int×Int×Int×Unit
abbrev Ck.t(x:Ck):ATy:=(x.id,x.ajM,x.ajS,())
abbrev AXG(p:ATy):Ck:=⟨p.1,p.2.1,p.2.2.1⟩
def AYw(a:W)(b:Q6)(c:Ck->Prop):Prop:=gL a b 0 Ck.s λp=>c (AXG p)
theorem ARV{b:Ck->Prop}(x:Ck)(c:Cells a a4 x.l)(d:b x):AYw a a4 b:=Qd x.t (λe v f=>by rw[B9];exact c e v f) d
abbrev bN.l(x:bN):List J0:=[D x.ajF,J7 x.name,J7 x.ak,D x.ajT,D x.aA,D x.ajU]
abbrev bN.c(x:bN):Array J0:=x.l.toArray
abbrev bN.v(x:bN):J0:=.agg x.l.toArray
abbrev TD:bN:=⟨0,⟨#[]⟩,⟨#[]⟩,0,0,0⟩
abbrev bN.s:List Sc:=[.int D,.str,.str,.int D,.int D,.int D]
abbrev AOr:Type:=Int×E×E×Int×Int×Int×Unit
abbrev bN.t(x:bN):AOr:=(x.ajF,x.name,x.ak,x.ajT,x.aA,x.ajU,())
abbrev AO1(p:AOr):bN:=⟨p.1,p.2.1,p.2.2.1,p.2.2.2.1,p.2.2.2.2.1,p.2.2.2.2.2.1⟩
def AXC(a:bN->Prop):Prop:=kD bN.s λp=>a (AO1 p)
def wH{a:bN->Prop}(x:bN)(b:a x):AXC a:=Zu x.t b
def AWo(a:W)(b:Q6)(c:bN->Prop):Prop:=gL a b 0 bN.s λp=>c (AO1 p)
theorem SG{b:bN->Prop}(x:bN)(c:Cells a a4 x.l)(d:b x):AWo a a4 b:=Qd x.t (λe v f=>by rw[B9];exact c e v f) d
structure bP where
 ajG:Sl
 aw:Int
 ajI:Int
 next:Int
 ba:Int
 ajR:Int
 ajQ:Int
 ajL:Bool
 au:Sl
 ag:Sl
 ajP:Bool
 aC:Bool
abbrev bP.l(x:bP):List J0:=[J4 x.ajG.p x.ajG.len x.ajG.cap,D x.aw,D x.ajI,D x.next,D x.ba,D x.ajR,D x.ajQ,J3 x.ajL,J4 x.au.p x.au.len x.au.cap,J4 x.ag.p x.ag.len x.ag.cap,J3 x.ajP,J3 x.aC]
abbrev bP.c(x:bP):Array J0:=x.l.toArray
abbrev bP.v(x:bP):J0:=.agg x.l.toArray
abbrev CZ:bP:=⟨⟨V,0,0⟩,0,0,0,0,0,0,U,⟨V,0,0⟩,⟨V,0,0⟩,U,U⟩
abbrev bP.s:List Sc:=[.sl,.int D,.int D,.int D,.int D,.int D,.int D,.bool,.sl,.sl,.bool,.bool]
abbrev APg:Type:=Sl×Int×Int×Int×Int×Int×Int×Bool×Sl×Sl×Bool×Bool×Unit
abbrev bP.t(x:bP):APg:=(x.ajG,x.aw,x.ajI,x.next,x.ba,x.ajR,x.ajQ,x.ajL,x.au,x.ag,x.ajP,x.aC,())
abbrev APY(p:APg):bP:=⟨p.1,p.2.1,p.2.2.1,p.2.2.2.1,p.2.2.2.2.1,p.2.2.2.2.2.1,p.2.2.2.2.2.2.1,p.2.2.2.2.2.2.2.1,p.2.2.2.2.2.2.2.2.1,p.2.2.2.2.2.2.2.2.2.1,p.2.2.2.2.2.2.2.2.2.2.1,p.2.2.2.2.2.2.2.2.2.2.2.1⟩
def pG(a:bP->Prop):Prop:=kD bP.s λp=>a (APY p)
def EK{a:bP->Prop}(x:bP)(b:a x):pG a:=Zu x.t b
def PK(a:W)(b:Q6)(c:bP->Prop):Prop:=gL a b 0 bP.s λp=>c (APY p)
theorem Ce{b:bP->Prop}(x:bP)(c:Cells a a4 x.l)(d:b x):PK a a4 b:=Qd x.t (λe v f=>by rw[B9];exact c e v f) d
structure dI where
 ajI:Int
 next:Int
 kept:Bool
abbrev dI.l(x:dI):List J0:=[D x.ajI,D x.next,J3 x.kept]
abbrev dI.c(x:dI):Array J0:=x.l.toArray
abbrev dI.v(x:dI):J0:=.agg x.l.toArray
abbrev VL:dI:=⟨0,0,U⟩
abbrev dI.s:List Sc:=[.int D,.int D,.bool]
abbrev AOs:Type:=Int×Int×Bool×Unit
abbrev dI.t(x:dI):AOs:=(x.ajI,x.next,x.kept,())
abbrev AOl(p:AOs):dI:=⟨p.1,p.2.1,p.2.2.1⟩
def AW8(a:dI->Prop):Prop:=kD dI.s λp=>a (AOl p)
def ANs{a:dI->Prop}(x:dI)(b:a x):AW8 a:=Zu x.t b
def rT(a:W)(b:Q6)(c:dI->Prop):Prop:=gL a b 0 dI.s λp=>c (AOl p)
theorem SC{b:dI->Prop}(x:dI)(c:Cells a a4 x.l)(d:b x):rT a a4 b:=Qd x.t (λe v f=>by rw[B9];exact c e v f) d
structure cM where
 ajH:E
 aq:Int
 me:dI
 aG:Sl
 st:bP
abbrev cM.l(x:cM):List J0:=[J7 x.ajH,D x.aq,D x.me.ajI,D x.me.next,J3 x.me.kept,J4 x.aG.p x.aG.len x.aG.cap,J4 x.st.ajG.p x.st.ajG.len x.st.ajG.cap,D x.st.aw,D x.st.ajI,D x.st.next,D x.st.ba,D x.st.ajR,D x.st.ajQ,J3 x.st.ajL,J4 x.st.au.p x.st.au.len x.st.au.cap,J4 x.st.ag.p x.st.ag.len x.st.ag.cap,J3 x.st.ajP,J3 x.st.aC]
abbrev cM.c(x:cM):Array J0:=x.l.toArray
abbrev cM.v(x:cM):J0:=.agg x.l.toArray
abbrev Dc:cM:=⟨⟨#[]⟩,0,⟨0,0,U⟩,⟨V,0,0⟩,⟨⟨V,0,0⟩,0,0,0,0,0,0,U,⟨V,0,0⟩,⟨V,0,0⟩,U,U⟩⟩
abbrev cM.s:List Sc:=[.str,.int D,.int D,.int D,.bool,.sl,.sl,.int D,.int D,.int D,.int D,.int D,.int D,.bool,.sl,.sl,.bool,.bool]
abbrev APG:Type:=E×Int×Int×Int×Bool×Sl×Sl×Int×Int×Int×Int×Int×Int×Bool×Sl×Sl×Bool×Bool×Unit
abbrev cM.t(x:cM):APG:=(x.ajH,x.aq,x.me.ajI,x.me.next,x.me.kept,x.aG,x.st.ajG,x.st.aw,x.st.ajI,x.st.next,x.st.ba,x.st.ajR,x.st.ajQ,x.st.ajL,x.st.au,x.st.ag,x.st.ajP,x.st.aC,())
abbrev APu(p:APG):cM:=⟨p.1,p.2.1,⟨p.2.2.1,p.2.2.2.1,p.2.2.2.2.1⟩,p.2.2.2.2.2.1,⟨p.2.2.2.2.2.2.1,p.2.2.2.2.2.2.2.1,p.2.2.2.2.2.2.2.2.1,p.2.2.2.2.2.2.2.2.2.1,p.2.2.2.2.2.2.2.2.2.2.1,p.2.2.2.2.2.2.2.2.2.2.2.1,p.2.2.2.2.2.2.2.2.2.2.2.2.1,p.2.2.2.2.2.2.2.2.2.2.2.2.2.1,p.2.2.2.2.2.2.2.2.2.2.2.2.2.2.1,p.2.2.2.2.2.2.2.2.2.2.2.2.2.2.2.1,p.2.2.2.2.2.2.2.2.2.2.2.2.2.2.2.2.1,p.2.2.2.2.2.2.2.2.2.2.2.2.2.2.2.2.2.1⟩⟩
def AWl(a:cM->Prop):Prop:=kD cM.s λp=>a (APu p)
def Dp{a:cM->Prop}(x:cM)(b:a x):AWl a:=Zu x.t b
def rV(a:W)(b:Q6)(c:cM->Prop):Prop:=gL a b 0 cM.s λp=>c (APu p)
theorem I7{b:cM->Prop}(x:cM)(c:Cells a a4 x.l)(d:b x):rV a a4 b:=Qd x.t (λe v f=>by rw[B9];exact c e v f) d
structure dB where
 ajF:Int
 ajH:E
 ajO:Int
 ajK:Int
abbrev dB.l(x:dB):List J0:=[D x.ajF,J7 x.ajH,D x.ajO,D x.ajK]
abbrev dB.c(x:dB):Array J0:=x.l.toArray
abbrev dB.v(x:dB):J0:=.agg x.l.toArray
abbrev YQ:dB:=⟨0,⟨#[]⟩,0,0⟩
abbrev dB.s:List Sc:=[.int D,.str,.int D,.int D]
abbrev AP3:Type:=Int×E×Int×Int×Unit
abbrev dB.t(x:dB):AP3:=(x.ajF,x.ajH,x.ajO,x.ajK,())
abbrev AWd(p:AP3):dB:=⟨p.1,p.2.1,p.2.2.1,p.2.2.2.1⟩
def AW9(a:W)(b:Q6)(c:dB->Prop):Prop:=gL a b 0 dB.s λp=>c (AWd p)
theorem SS{b:dB->Prop}(x:dB)(c:Cells a a4 x.l)(d:b x):AW9 a a4 b:=Qd x.t (λe v f=>by rw[B9];exact c e v f) d
structure bq where
 ajF:Int
 aI:E
 ajH:E
 name:E
 ajG:Sl
 aw:Int
 cq:Sl
 ajO:Int
 ajK:Int
 bA:Int
 aq:Int
 aE:Bool
abbrev bq.l(x:bq):List J0:=[D x.ajF,J7 x.aI,J7 x.ajH,J7 x.name,J4 x.ajG.p x.ajG.len x.ajG.cap,D x.aw,J4 x.cq.p x.cq.len x.cq.cap,D x.ajO,D x.ajK,D x.bA,D x.aq,J3 x.aE]
abbrev bq.c(x:bq):Array J0:=x.l.toArray
abbrev bq.v(x:bq):J0:=.agg x.l.toArray
abbrev wI:bq:=⟨0,⟨#[]⟩,⟨#[]⟩,⟨#[]⟩,⟨V,0,0⟩,0,⟨V,0,0⟩,0,0,0,0,U⟩
abbrev bq.s:List Sc:=[.int D,.str,.str,.str,.sl,.int D,.sl,.int D,.int D,.int D,.int D,.bool]
abbrev APm:Type:=Int×E×E×E×Sl×Int×Sl×Int×Int×Int×Int×Bool×Unit
abbrev bq.t(x:bq):APm:=(x.ajF,x.aI,x.ajH,x.name,x.ajG,x.aw,x.cq,x.ajO,x.ajK,x.bA,x.aq,x.aE,())
abbrev AVN(p:APm):bq:=⟨p.1,p.2.1,p.2.2.1,p.2.2.2.1,p.2.2.2.2.1,p.2.2.2.2.2.1,p.2.2.2.2.2.2.1,p.2.2.2.2.2.2.2.1,p.2.2.2.2.2.2.2.2.1,p.2.2.2.2.2.2.2.2.2.1,p.2.2.2.2.2.2.2.2.2.2.1,p.2.2.2.2.2.2.2.2.2.2.2.1⟩
def AWi(a:W)(b:Q6)(c:bq->Prop):Prop:=gL a b 0 bq.s λp=>c (AVN p)
theorem Gu{b:bq->Prop}(x:bq)(c:Cells a a4 x.l)(d:b x):AWi a a4 b:=Qd x.t (λe v f=>by rw[B9];exact c e v f) d
structure bF where
 err:Int
 ajI:Int
 next:Int
 task:dB
 name:E
 aG:Sl
abbrev bF.l(x:bF):List J0:=[D x.err,D x.ajI,D x.next,D x.task.ajF,J7 x.task.ajH,D x.task.ajO,D x.task.ajK,J7 x.name,J4 x.aG.p x.aG.len x.aG.cap]
abbrev bF.c(x:bF):Array J0:=x.l.toArray
abbrev bF.v(x:bF):J0:=.agg x.l.toArray
abbrev Bb:bF:=⟨0,0,0,⟨0,⟨#[]⟩,0,0⟩,⟨#[]⟩,⟨V,0,0⟩⟩
abbrev bF.s:List Sc:=[.int D,.int D,.int D,.int D,.str,.int D,.int D,.str,.sl]
abbrev AO0:Type:=Int×Int×Int×Int×E×Int×Int×E×Sl×Unit
abbrev bF.t(x:bF):AO0:=(x.err,x.ajI,x.next,x.task.ajF,x.task.ajH,x.task.ajO,x.task.ajK,x.name,x.aG,())
abbrev APy(p:AO0):bF:=⟨p.1,p.2.1,p.2.2.1,⟨p.2.2.2.1,p.2.2.2.2.1,p.2.2.2.2.2.1,p.2.2.2.2.2.2.1⟩,p.2.2.2.2.2.2.2.1,p.2.2.2.2.2.2.2.2.1⟩
def Xu(a:bF->Prop):Prop:=kD bF.s λp=>a (APy p)
def BM{a:bF->Prop}(x:bF)(b:a x):Xu a:=Zu x.t b
def PH(a:W)(b:Q6)(c:bF->Prop):Prop:=gL a b 0 bF.s λp=>c (APy p)
theorem DY{b:bF->Prop}(x:bF)(c:Cells a a4 x.l)(d:b x):PH a a4 b:=Qd x.t (λe v f=>by rw[B9];exact c e v f) d
structure eI where
 ajU:Int
 q:bq
 take:Bool
 kP:Bool
abbrev eI.l(x:eI):List J0:=[D x.ajU,D x.q.ajF,J7 x.q.aI,J7 x.q.ajH,J7 x.q.name,J4 x.q.ajG.p x.q.ajG.len x.q.ajG.cap,D x.q.aw,J4 x.q.cq.p x.q.cq.len x.q.cq.cap,D x.q.ajO,D x.q.ajK,D x.q.bA,D x.q.aq,J3 x.q.aE,J3 x.take,J3 x.kP]
abbrev eI.c(x:eI):Array J0:=x.l.toArray
abbrev eI.v(x:eI):J0:=.agg x.l.toArray
abbrev AVD:eI:=⟨0,⟨0,⟨#[]⟩,⟨#[]⟩,⟨#[]⟩,⟨V,0,0⟩,0,⟨V,0,0⟩,0,0,0,0,U⟩,U,U⟩
abbrev eI.s:List Sc:=[.int D,.int D,.str,.str,.str,.sl,.int D,.sl,.int D,.int D,.int D,.int D,.bool,.bool,.bool]
abbrev APk:Type:=Int×Int×E×E×E×Sl×Int×Sl×Int×Int×Int×Int×Bool×Bool×Bool×Unit
abbrev eI.t(x:eI):APk:=(x.ajU,x.q.ajF,x.q.aI,x.q.ajH,x.q.name,x.q.ajG,x.q.aw,x.q.cq,x.q.ajO,x.q.ajK,x.q.bA,x.q.aq,x.q.aE,x.take,x.kP,())
abbrev AVc(p:APk):eI:=⟨p.1,⟨p.2.1,p.2.2.1,p.2.2.2.1,p.2.2.2.2.1,p.2.2.2.2.2.1,p.2.2.2.2.2.2.1,p.2.2.2.2.2.2.2.1,p.2.2.2.2.2.2.2.2.1,p.2.2.2.2.2.2.2.2.2.1,p.2.2.2.2.2.2.2.2.2.2.1,p.2.2.2.2.2.2.2.2.2.2.2.1,p.2.2.2.2.2.2.2.2.2.2.2.2.1⟩,p.2.2.2.2.2.2.2.2.2.2.2.2.2.1,p.2.2.2.2.2.2.2.2.2.2.2.2.2.2.1⟩
def AWr(a:W)(b:Q6)(c:eI->Prop):Prop:=gL a b 0 eI.s λp=>c (AVc p)
theorem AFE{b:eI->Prop}(x:eI)(c:Cells a a4 x.l)(d:b x):AWr a a4 b:=Qd x.t (λe v f=>by rw[B9];exact c e v f) d
structure iN where
 key:E
 val:E
 ajO:Int
 ajK:Int
 aE:Bool
abbrev iN.l(x:iN):List J0:=[J7 x.key,J7 x.val,D x.ajO,D x.ajK,J3 x.aE]
abbrev iN.c(x:iN):Array J0:=x.l.toArray
abbrev iN.v(x:iN):J0:=.agg x.l.toArray
abbrev AZP:iN:=⟨⟨#[]⟩,⟨#[]⟩,0,0,U⟩
abbrev iN.s:List Sc:=[.str,.str,.int D,.int D,.bool]
abbrev AO5:Type:=E×E×Int×Int×Bool×Unit
abbrev iN.t(x:iN):AO5:=(x.key,x.val,x.ajO,x.ajK,x.aE,())
abbrev AZN(p:AO5):iN:=⟨p.1,p.2.1,p.2.2.1,p.2.2.2.1,p.2.2.2.2.1⟩
abbrev ad(a:Nat):Q6:=⟨a,0,V⟩
def Dq{a:ao->er}{b:ao}{c:ao->Prop}(d:c b):∃x,a b=a x/\c x:=⟨_,rfl,d⟩
def kF{a:Sl->Prop}(b:a j):∃x:Sl,Value.slice j.p j.len j.cap=J4 x.p x.len x.cap/\a x:=⟨_,rfl,b⟩
abbrev HP:=W->Prop
abbrev aM(x:HP):HP:=x
abbrev jN{a:Type}(b:a->HP)(c:(a->HP)->HP):HP:=aM λd=>fO b λK=>c K d
abbrev M(b:Bool)(c d:HP):HP:=aM λa=>cY b (c a) (d a)
abbrev aT(p:Q2)(b:Q6->HP):HP:=aM λc=>At p λa=>b a c
abbrev iX(p:Q2)(b:Nat)(i:Int)(c:Q6->HP):HP:=aM λd=>iT p b i λa=>c a d
abbrev cK(a:Prop)(b:HP):HP:=aM λc=>dw a (b c)
abbrev aN(b c:HP):HP:=aM λa=>And (b a) (c a)
abbrev oK(a:Bool)(b:HP):HP:=aM λc=>qk a (b c)
abbrev nW(a:Obj)(c:Q6->HP):HP:=aM λd=>bU d a λb=>c (ad b)
abbrev nM(a:Nat->HP):HP:=aM λb=>bU b (.map #[] 0) a
abbrev sT(a:Q6)(b:J0)(c:HP):HP:=aM λd=>aj d a b c
abbrev sA(a:Q6)(b:List J0)(c:HP):HP:=aM λd=>cD d a b c
abbrev rU(a:ai)(m:Sem Unit)(b:HP):HP:=aM λc=>iW a P m c b
abbrev dF(a:Nat)(c:HP):HP:=aM λb=>b[a]?=Z (.deferred (Z []))/\c (b.setIfInBounds a (.deferred V))
def gA:List (Q6×J0)->HP|[],_=>True|[x],a=>ah a x.1=Z x.2|x::l,a=>ah a x.1=Z x.2/\gA l a
abbrev gT(b:List (Q6×J0))(c:HP):HP:=aM λa=>And (gA b a) (c a)
abbrev cB(b:ai)(c:Q8)(d:Array J0)(e:Bool->HP):HP:=aM λf=>AJ b P c d f λv g=>∃a:Bool,v=J3 a/\e a g
abbrev cEv(b:ai)(c:Q8)(d:Array J0)(e:Ev->HP):HP:=aM λf=>AJ b P c d f λv g=>rR λa=>v=a.v/\e a g
abbrev cI(b:ai)(c:Q8)(d:Array J0)(e:Int->HP):HP:=aM λf=>AJ b P c d f λv g=>∃a:Int,v=D a/\e a g
abbrev cL(b:ai)(c:Q8)(d:Array J0)(e:Sl->HP):HP:=aM λf=>AJ b P c d f λv g=>∃a:Sl,v=J4 a.p a.len a.cap/\e a g
abbrev cP(b:ai)(c:Q8)(d:Array J0)(e:(Q2)->HP):HP:=aM λf=>AJ b P c d f λv g=>∃a:Q2,v=J5 a/\e a g
abbrev Ka(b:ai)(c:Q8)(d:Array J0)(e:bF->HP):HP:=aM λf=>AJ b P c d f λv g=>Xu λa=>v=a.v/\e a g
abbrev cS(b:ai)(c:Q8)(d:Array J0)(e:E->HP):HP:=aM λf=>AJ b P c d f λv g=>∃a:E,v=J7 a/\e a g
abbrev ko(b:ai)(c:Q8)(d:Array J0)(e:bP->HP):HP:=aM λf=>AJ b P c d f λv g=>pG λa=>v=a.v/\e a g
abbrev cV(b:ai)(c:Q8)(d:Array J0)(e:J0->HP):HP:=aM λf=>AJ b P c d f λv g=>∃a:J0,v=a/\e a g
abbrev ALo(i:ai)(j:Q8)(k:Array J0)(l:Int->Int->Int->Int->Int->Int->Bool->E->HP):HP:=aM λm=>AJ i P j k m λv n=>∃a:Int,∃b:Int,∃c:Int,∃d:Int,∃e:Int,∃f:Int,∃g:Bool,∃h:E,v=.agg #[D a,D b,D c,D d,D e,D f,J3 g,J7 h]/\l a b c d e f g h n
abbrev mO(c:ai)(d:Q8)(e:Array J0)(f:Sl->Int->HP):HP:=aM λg=>AJ c P d e g λv h=>∃a:Sl,∃b:Int,v=.agg #[J4 a.p a.len a.cap,D b]/\f a b h
abbrev AYk(c:ai)(d:Q8)(e:Array J0)(f:Sl->Sl->HP):HP:=aM λg=>AJ c P d e g λv h=>∃a:Sl,∃b:Sl,v=.agg #[J4 a.p a.len a.cap,J4 b.p b.len b.cap]/\f a b h
abbrev KF(m:ai)(n:Q8)(o:Array J0)(p:(Q2)->(Q2)->(Q2)->(Q2)->(Q2)->(Q2)->(Q2)->(Q2)->(Q2)->(Q2)->(Q2)->(Q2)->HP):HP:=aM λq=>AJ m P n o q λv r=>∃a:Q2,∃b:Q2,∃c:Q2,∃d:Q2,∃e:Q2,∃f:Q2,∃g:Q2,∃h:Q2,∃i:Q2,∃j:Q2,∃k:Q2,∃l:Q2,v=.agg #[J5 a,J5 b,J5 c,J5 d,J5 e,J5 f,J5 g,J5 h,J5 i,J5 j,J5 k,J5 l]/\p a b c d e f g h i j k l r
abbrev ct(a:ai)(b:Q8)(c:Array J0)(d:HP):HP:=aM λe=>AJ a P b c e λv f=>v=J1 #[]/\d f
abbrev qO(c:ai)(d:Q8)(e:Array J0)(f:Ev->Bool->HP):HP:=aM λg=>AJ c P d e g λv h=>rR λa=>∃b:Bool,v=J1 #[a.v,J3 b]/\f a b h
abbrev AWs(c:ai)(d:Q8)(e:Array J0)(f:Ev->Int->HP):HP:=aM λg=>AJ c P d e g λv h=>rR λa=>∃b:Int,v=J1 #[a.v,D b]/\f a b h
abbrev NV(c:ai)(d:Q8)(e:Array J0)(f:cM->Int->HP):HP:=aM λg=>AJ c P d e g λv h=>AWl λa=>∃b:Int,v=J1 #[a.v,D b]/\f a b h
abbrev qP(c:ai)(d:Q8)(e:Array J0)(f:Int->Bool->HP):HP:=aM λg=>AJ c P d e g λv h=>∃a:Int,∃b:Bool,v=J1 #[D a,J3 b]/\f a b h
abbrev iD(c:ai)(d:Q8)(e:Array J0)(f:Int->Int->HP):HP:=aM λg=>AJ c P d e g λv h=>∃a:Int,∃b:Int,v=J1 #[D a,D b]/\f a b h
abbrev AYf(d:ai)(e:Q8)(f:Array J0)(g:Int->Sl->Bool->HP):HP:=aM λh=>AJ d P e f h λv i=>∃b:Int,∃a:Sl,∃c:Bool,v=J1 #[D b,J4 a.p a.len a.cap,J3 c]/\g b a c i
abbrev AXD(d:ai)(e:Q8)(f:Array J0)(g:Int->E->Int->HP):HP:=aM λh=>AJ d P e f h λv i=>∃a:Int,∃b:E,∃c:Int,v=J1 #[D a,J7 b,D c]/\g a b c i
abbrev oQ(c:ai)(d:Q8)(e:Array J0)(f:Int->J0->HP):HP:=aM λg=>AJ c P d e g λv h=>∃a:Int,∃b:J0,v=J1 #[D a,b]/\f a b h
abbrev qQ(c:ai)(d:Q8)(e:Array J0)(f:Sl->Bool->HP):HP:=aM λg=>AJ c P d e g λv h=>∃a:Sl,∃b:Bool,v=J1 #[J4 a.p a.len a.cap,J3 b]/\f a b h
abbrev AYc(d:ai)(e:Q8)(f:Array J0)(g:Sl->Bool->Bool->HP):HP:=aM λh=>AJ d P e f h λv i=>∃a:Sl,∃b:Bool,∃c:Bool,v=J1 #[J4 a.p a.len a.cap,J3 b,J3 c]/\g a b c i
abbrev V9(c:ai)(d:Q8)(e:Array J0)(f:Sl->Int->HP):HP:=aM λg=>AJ c P d e g λv h=>∃a:Sl,∃b:Int,v=J1 #[J4 a.p a.len a.cap,D b]/\f a b h
abbrev AXb(c:ai)(d:Q8)(e:Array J0)(f:dI->Int->HP):HP:=aM λg=>AJ c P d e g λv h=>AW8 λa=>∃b:Int,v=J1 #[a.v,D b]/\f a b h
abbrev lF(c:ai)(d:Q8)(e:Array J0)(f:(Q2)->Int->HP):HP:=aM λg=>AJ c P d e g λv h=>∃a:Q2,∃b:Int,v=J1 #[J5 a,D b]/\f a b h
abbrev AWh(d:ai)(e:Q8)(f:Array J0)(g:(Q2)->Sl->Int->HP):HP:=aM λh=>AJ d P e f h λv i=>∃b:Q2,∃a:Sl,∃c:Int,v=J1 #[J5 b,J4 a.p a.len a.cap,D c]/\g b a c i
abbrev uN(d:ai)(e:Q8)(f:Array J0)(g:(Q2)->(Q2)->Bool->HP):HP:=aM λh=>AJ d P e f h λv i=>∃a:Q2,∃b:Q2,∃c:Bool,v=J1 #[J5 a,J5 b,J3 c]/\g a b c i
abbrev uO(c:ai)(d:Q8)(e:Array J0)(f:E->Bool->HP):HP:=aM λg=>AJ c P d e g λv h=>∃a:E,∃b:Bool,v=J1 #[J7 a,J3 b]/\f a b h
abbrev lG(d:ai)(e:Q8)(f:Array J0)(g:E->Bool->Int->HP):HP:=aM λh=>AJ d P e f h λv i=>∃a:E,∃b:Bool,∃c:Int,v=J1 #[J7 a,J3 b,D c]/\g a b c i
abbrev PZ(c:ai)(d:Q8)(e:Array J0)(f:E->Int->HP):HP:=aM λg=>AJ c P d e g λv h=>∃a:E,∃b:Int,v=J1 #[J7 a,D b]/\f a b h
abbrev AKS(e:ai)(f:Q8)(g:Array J0)(h:E->bF->Bool->Int->HP):HP:=aM λi=>AJ e P f g i λv j=>∃a:E,Xu λb=>∃c:Bool,∃d:Int,v=J1 #[J7 a,b.v,J3 c,D d]/\h a b c d j
abbrev AZE(d:ai)(e:Q8)(f:Array J0)(g:E->E->Int->HP):HP:=aM λh=>AJ d P e f h λv i=>∃a:E,∃b:E,∃c:Int,v=J1 #[J7 a,J7 b,D c]/\g a b c i
abbrev oR(c:ai)(d:Q8)(e:Array J0)(f:bP->Bool->HP):HP:=aM λg=>AJ c P d e g λv h=>pG λa=>∃b:Bool,v=J1 #[a.v,J3 b]/\f a b h
abbrev uP(c:ai)(d:Q8)(e:Array J0)(f:bP->Int->HP):HP:=aM λg=>AJ c P d e g λv h=>pG λa=>∃b:Int,v=J1 #[a.v,D b]/\f a b h
abbrev YX(d:ai)(e:Q8)(f:Array J0)(g:bP->Int->Int->HP):HP:=aM λh=>AJ d P e f h λv i=>pG λa=>∃b:Int,∃c:Int,v=J1 #[a.v,D b,D c]/\g a b c i
abbrev qR(c:ai)(d:Q8)(e:Array J0)(f:bN->Bool->HP):HP:=aM λg=>AJ c P d e g λv h=>AXC λa=>∃b:Bool,v=J1 #[a.v,J3 b]/\f a b h
abbrev AMR(e:ai)(f:Q8)(g:Array J0)(h:Int->Int->Bool->Bool->HP):HP:=aM λi=>AJ e P f g i λv j=>∃a:Int,∃b:Int,∃c:Bool,∃d:Bool,v=J1 #[.agg #[D a,D b,J3 c],J3 d]/\h a b c d j
abbrev Uj(d:ai)(e:Q8)(f:Array J0)(g:Sl->Int->Int->HP):HP:=aM λh=>AJ d P e f h λv i=>∃a:Sl,∃b:Int,∃c:Int,v=J1 #[.agg #[J4 a.p a.len a.cap,D b],D c]/\g a b c i
abbrev Em(d:ai)(e:Q8)(f:Array J0)(g:Sl->Sl->bF->HP):HP:=aM λh=>AJ d P e f h λv i=>∃a:Sl,∃b:Sl,Xu λc=>v=J1 #[.agg #[J4 a.p a.len a.cap,J4 b.p b.len b.cap],c.v]/\g a b c i
abbrev ALC(e:ai)(f:Q8)(g:Array J0)(h:E->E->Bool->Bool->HP):HP:=aM λi=>AJ e P f g i λv j=>∃a:E,∃b:E,∃c:Bool,∃d:Bool,v=J1 #[.agg #[J7 a,J7 b,J3 c],J3 d]/\h a b c d j
abbrev Tw(m:ai)(n:Q8)(o:Array J0)(p:E->E->Int->Int->Int->Int->E->Int->Int->E->Sl->Bool->HP):HP:=aM λq=>AJ m P n o q λv r=>∃b:E,∃c:E,∃d:Int,∃e:Int,∃f:Int,∃g:Int,∃h:E,∃i:Int,∃j:Int,∃k:E,∃a:Sl,∃l:Bool,v=J1 #[.agg #[J7 b,J7 c,D d,D e,D f,D g,J7 h,D i,D j,J7 k,J4 a.p a.len a.cap],J3 l]/\p b c d e f g h i j k a l r
abbrev qS(c:ai)(d:Q8)(e:Array J0)(f:Int->Int->HP):HP:=aM λg=>AJ c P d e g λv h=>∃a:Int,∃b:Int,v=J1 #[.int .u32 a,.int .u32 b]/\f a b h
abbrev AXH(c:ai)(d:Q8)(e:Array J0)(f:Int->Int->HP):HP:=aM λg=>AJ c P d e g λv h=>∃a:Int,∃b:Int,v=J1 #[.int .u64 a,D b]/\f a b h
abbrev uQ(d:ai)(e:Q8)(f:Array J0)(g:Int->E->Bool->HP):HP:=aM λh=>AJ d P e f h λv i=>∃a:Int,∃b:E,∃c:Bool,v=J1 #[.int .u64 a,J7 b,J3 c]/\g a b c i
abbrev AYC(c:ai)(d:Q8)(e:Array J0)(f:Int->J0->HP):HP:=aM λg=>AJ c P d e g λv h=>∃a:Int,∃b:J0,v=J1 #[.int .u64 a,b]/\f a b h
abbrev uR(b:ai)(c:Q8)(d:Array J0)(e:Int->HP):HP:=aM λf=>AJ b P c d f λv g=>∃a:Int,v=.int .u32 a/\e a g
abbrev oS(b:ai)(c:Q8)(d:Array J0)(e:Int->HP):HP:=aM λf=>AJ b P c d f λv g=>∃a:Int,v=.int .u64 a/\e a g
abbrev eB(b:ai)(c:Q8)(d:Array J0)(e:Bool->HP):HP:=aM λf=>uF b P c d f λv g=>∃a:Bool,v=J3 a/\e a g
abbrev lB(b:Q6)(c:Bool->HP):HP:=aM λa=>jW a b λx=>c x a
abbrev lI(b:Q6)(c:Int->HP):HP:=aM λa=>JX D a b λx=>c x a
abbrev AYl(b:Q6)(c:Int->HP):HP:=aM λa=>JX .u8 a b λx=>c x a
abbrev lL(b:Q6)(c:Sl->HP):HP:=aM λa=>JM a b λx=>c x a
abbrev lM(b:Q6)(c:(Option Nat)->HP):HP:=aM λa=>tr a b λx=>c x a
abbrev lP(b:Q6)(c:(Q2)->HP):HP:=aM λa=>jX a b λx=>c x a
abbrev lS(b:Q6)(c:E->HP):HP:=aM λa=>KI a b λx=>c x a
abbrev lV(b:Q6)(c:J0->HP):HP:=aM λa=>qg a b λx=>c x a
abbrev AZT(b:Q6)(c:Ck->HP):HP:=aM λa=>AYw a b λx=>c x a
abbrev uS(b:Q6)(c:eI->HP):HP:=aM λa=>AWr a b λx=>c x a
abbrev Ik(b:Q6)(c:Ev->HP):HP:=aM λa=>pF a b λx=>c x a
abbrev JA(b:Q6)(c:cM->HP):HP:=aM λa=>rV a b λx=>c x a
abbrev mP(b:Q6)(c:Jb->HP):HP:=aM λa=>AZK a b λx=>c x a
abbrev lH(b:Q6)(c:dI->HP):HP:=aM λa=>rT a b λx=>c x a
abbrev CP(b:Q6)(c:bF->HP):HP:=aM λa=>PH a b λx=>c x a
abbrev TP(b:Q6)(c:bq->HP):HP:=aM λa=>AWi a b λx=>c x a
abbrev CE(b:Q6)(c:bP->HP):HP:=aM λa=>PK a b λx=>c x a
abbrev lJ(b:Q6)(c:bN->HP):HP:=aM λa=>AWo a b λx=>c x a
abbrev mQ(b:Q6)(c:dB->HP):HP:=aM λa=>AW9 a b λx=>c x a
abbrev AY1(c:ai)(d:J0)(e:String)(f:Array J0)(g:Sl->Int->HP):HP:=aM λh=>yu c P d e f h λv i=>∃a:Sl,∃b:Int,v=J1 #[J4 a.p a.len a.cap,D b]/\g a b i
abbrev rB(b:ai)(m:Sem J0)(c:Bool->HP):HP:=aM λd=>Eo b P m d λv e=>∃a:Bool,v=J3 a/\c a e
abbrev rI(b:ai)(m:Sem J0)(c:Int->HP):HP:=aM λd=>Eo b P m d λv e=>∃a:Int,v=D a/\c a e
abbrev rL(b:ai)(m:Sem J0)(c:Sl->HP):HP:=aM λd=>Eo b P m d λv e=>∃a:Sl,v=J4 a.p a.len a.cap/\c a e
abbrev rP(b:ai)(m:Sem J0)(c:(Q2)->HP):HP:=aM λd=>Eo b P m d λv e=>∃a:Q2,v=J5 a/\c a e
abbrev rS(b:ai)(m:Sem J0)(c:E->HP):HP:=aM λd=>Eo b P m d λv e=>∃a:E,v=J7 a/\c a e
abbrev AY0(c:ai)(m:Sem J0)(d:Int->Int->HP):HP:=aM λe=>Eo c P m e λv f=>∃a:Int,∃b:Int,v=.agg #[D a,D b]/\d a b f
abbrev rt(a:ai)(m:Sem J0)(b:HP):HP:=aM λc=>Eo a P m c λv d=>v=J1 #[]/\b d
abbrev qT(b:ai)(m:Sem J0)(c:Int->HP):HP:=aM λd=>Eo b P m d λv e=>∃a:Int,v=.int .u64 a/\c a e
abbrev vB(b:ai)(c:J0)(d:Array J0)(e:Bool->HP):HP:=aM λf=>I9 b P c d f λv g=>∃a:Bool,v=J3 a/\e a g
abbrev aV:Lv:=.one (.int D)
abbrev aL:Lv:=.one .bool
abbrev eX:Lv:=.one .str
abbrev dQ:Lv:=.one .sl
abbrev jz:Lv:=.one .ptr
instance:Coe Int J0:=⟨.int D⟩
instance:Coe Nat J0:=⟨λn=>D (n:Int)⟩
instance:Coe Bool J0:=⟨.bool⟩
instance:Coe E J0:=⟨.string⟩
instance:Coe (Q2) J0:=⟨.pointer⟩
instance:Coe Sl J0:=⟨λs=>J4 s.p s.len s.cap⟩
def Ag(m:List (Nat×Live))(b:c6=semAt d P c1 m b3 a e)(c:c6):AJ d P c1 b3.toArray a e:=AMh mixed (b▸c)
end Go.Lf
