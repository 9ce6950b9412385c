/-
 LIFT, part A: worlds as heaps beside a fixed rest; one operation's outcome at the level of values; a region that draws its order, walked in the text's order.
-/
import Derived.WalkKit
import Derived.OrdersIn
import Derived.RangeFuncIn
import Derived.RangeFuncLeaves
import Derived.RangeFuncCalls
import Derived.TacticsInMore
import Derived.RangeFuncRecord
import Derived.Test.YtebeggcpmdegnaaGreatDoorProg
import Derived.Laws.FloatArith
import Derived.MapKept
import Derived.Maps.Own
import Derived.Lib.Bytealg
import Derived.Sort.KeysCollected
import Derived.StringKeys
import Derived.Laws.BytesString
import Derived.Laws.BytesArg
import Derived.Laws.StructEq
import Derived.ChangeKeysEq
set_option maxRecDepth 100000
set_option linter.unusedVariables false
set_option linter.unusedSimpArgs false
set_option linter.defProp false
set_option linter.unnecessarySimpa false
open Go.IntKind renaming i64→D,wrap→J8
open Go.Value renaming string→J7,int→J6,pointer→J5,slice→J4,bool→J3,tuple→J1
open Go.Obj renaming cells→J2
open Go renaming Value→J0,Addr→Q6,TypeId→Q7,FuncId→Q8,Program→Q1
open Go.Addr renaming add→Q9,mk→Q5
open Option renaming some→Z,none→V
open Bool renaming true→Y,false→U
open List renaming length→J
namespace Go.Lf
abbrev Q2:=Option Q6
instance:CoeFun Q6 λ_=>Nat->Q6:=⟨Q9⟩
instance:CoeFun IntKind λ_=>Int->J0:=⟨J6⟩
abbrev E:=ByteArray
abbrev A0:=@if_neg
abbrev A1:=@if_pos
abbrev A2:=@Nat.le_refl
abbrev A3:=@List.getElem?_eq_getElem
abbrev A4:=@absurd
abbrev A5:=@of_decide_eq_true
abbrev A6:=@List.length_append
abbrev An:=@decide_eq_false
abbrev As:=@Bool.and_eq_true
abbrev Ax:=@Nat.zero_le
abbrev AD:=@List.getElem?_eq_some_iff
abbrev AE:=@of_decide_eq_false
abbrev AF:=@Nat.le_trans
abbrev AG:=@Int.toNat_natCast
abbrev AH:=@List.mem_of_getElem?
abbrev AI:=@List.append_assoc
abbrev AK:=@List.mem_singleton
abbrev AM:=@List.append_nil
abbrev AN:=@List.mem_cons
abbrev AS:=@List.mem_append
abbrev AT:=@if_true
abbrev AW:=@decide_eq_true_eq
abbrev B8:=@Nat.zero_add
abbrev B9:=@List.mem_map
abbrev Bk:=@List.length_cons
abbrev Bm:=@List.take_of_length_le
abbrev Bs:=@decide_eq_true
abbrev By:=@List.pairwise_cons
abbrev BE:=@List.take_add_one
abbrev BT:=@Nat.mod_eq_of_lt
abbrev BW:=@Bool.false_eq_true
abbrev BY:=@if_false
abbrev Cd:=@List.length_take
abbrev Cl:=@Decidable.byContradiction
abbrev Cp:=@List.filter_cons
abbrev CA:=@List.take_length
abbrev CC:=@Option.some.inj
abbrev CD:=@List.getElem_mem
abbrev CH:=@Nat.mod_lt
abbrev CI:=@List.flatMap_cons
abbrev CM:=@List.nil_append
abbrev CN:=@Nat.lt_of_lt_of_le
abbrev CT:=@List.mem_cons_of_mem
abbrev Dd:=@List.getElem?_of_mem
abbrev Ds:=@Nat.mul_one
abbrev DA:=@Option.some.injEq
abbrev DB:=@Bool.true_and
abbrev DE:=@Nat.add_mul
abbrev DG:=@Nat.mul_le_mul_right
abbrev DH:=@List.cons_append
abbrev DM:=@List.map_cons
abbrev DO:=@List.drop_eq_getElem_cons
abbrev DP:=@List.all_eq_true
abbrev DQ:=@Option.toList_some
abbrev DS:=@List.find?_cons
abbrev E0:=@List.map_map
abbrev Ek:=@Iff.rfl
abbrev F0:=@List.mem_of_mem_take
abbrev Fc:=@List.getElem?_drop
abbrev Fk:=@List.mem_filter
abbrev Fl:=@List.getElem_of_mem
abbrev Fm:=@List.drop_length
abbrev Fo:=@Bool.eq_iff_iff
abbrev Ft:=@decide_eq_decide
abbrev FA:=@List.take_append_drop
abbrev FF:=@List.mem_cons_self
abbrev FG:=@List.map_append
abbrev G0:=@Option.getD_some
abbrev G3:=@Bool.false_and
abbrev G4:=@List.mem_append_left
abbrev Ge:=@List.length_map
abbrev Gk:=@Bool.or_eq_true
abbrev GB:=@List.pairwise_map
abbrev GC:=@Nat.add_zero
abbrev GF:=@Nat.pow_succ
abbrev GO:=@Array.toList_setIfInBounds
abbrev GP:=@Bool.not_eq_true'
abbrev GS:=@Bool.false_or
abbrev GW:=@List.findIdx?_eq_some_iff_getElem
abbrev Hb:=@Option.bind_some
abbrev Hc:=@List.filterMap_cons
abbrev Hh:=@Option.bind_eq_some_iff
abbrev Hi:=@List.find?_eq_none
abbrev Hj:=@Option.map_eq_some_iff
abbrev Hk:=@List.drop_zero
abbrev Hn:=@List.length_singleton
abbrev Hv:=@List.filterMap_append
abbrev HA:=@List.getElem?_take
abbrev HC:=@Array.toList_inj
abbrev HD:=@List.eq_nil_of_length_eq_zero
abbrev HE:=@Array.getElem?_eq_getElem
abbrev HG:=@List.getElem?_map
abbrev HI:=@List.mem_range
abbrev HJ:=@List.map_congr_left
abbrev HK:=@Array.getElem?_setIfInBounds_ne
abbrev HL:=@List.length_pos_iff
abbrev HM:=@List.findIdx?_eq_none_iff
abbrev HN:=@List.length_eq_zero_iff
abbrev HQ:=@Nat.min_eq_left
abbrev HS:=@Bool.eq_false_iff
abbrev HT:=@Nat.le_add_right
abbrev HU:=@List.mem_append_right
abbrev HW:=@Nat.le_succ
abbrev HX:=@Bool.or_true
abbrev I0:=@UInt8.lt_iff_toNat_lt
abbrev I2:=@Nat.pow_add
abbrev I3:=@List.filter_eq_self
abbrev Is:=@Function.comp_def
abbrev It:=@List.length_filterMap_le
abbrev Iv:=@List.take_succ_eq_append_getElem
abbrev Ix:=@List.drop_drop
abbrev ID:=@Nat.zero_mul
abbrev IF:=@List.getElem?_set_self
abbrev IH:=@Array.getElem?_eq_some_iff
abbrev IN:=@List.length_set
abbrev IS:=@Nat.mul_comm
abbrev IT:=@List.getElem?_append_left
abbrev Jx:=@Int.le_refl
abbrev JT:=@List.getElem?_cons_zero
abbrev Kd:=@List.filter_append
abbrev Kp:=@List.nodup_cons
abbrev Ks:=@List.length_drop
abbrev Kx:=@List.length_nil
abbrev KB:=@Nat.add_assoc
abbrev Lk:=@List.set_getElem_self
abbrev Ln:=@List.pairwise_iff_getElem
abbrev Lo:=@List.filter_sublist
abbrev Lq:=@List.set_append_right
abbrev Ly:=@List.flatMap_append
abbrev Lz:=@List.getElem?_append_right
abbrev LL:=@List.drop_succ_cons
abbrev LN:=@Nat.lt_or_ge
abbrev LO:=@Nat.lt_trichotomy
abbrev LR:=@List.take_succ_cons
abbrev LS:=@List.foldl_cons
abbrev Mb:=@List.cons.injEq
abbrev Mn:=@Nat.sub_zero
abbrev My:=@Nat.mul_assoc
abbrev Mz:=@Int.mul_assoc
abbrev MA:=@Int.pow_add
abbrev MD:=@Nat.two_pow_pos
abbrev MT:=@List.nodup_iff_pairwise_ne
abbrev MY:=@List.filter_congr
abbrev N3:=@List.mem_of_find?_eq_some
abbrev N4:=@List.Perm.refl
abbrev N5:=@Nat.eq_of_beq_eq_true
abbrev Nd:=@Bool.true_or
abbrev No:=@List.not_mem_nil
abbrev Nx:=@or_false
abbrev NO:=@List.countP_le_length
abbrev NX:=@List.countP_append
abbrev Of:=@List.countP_singleton
abbrev On:=@List.append_eq_nil_iff
abbrev OF:=@Decidable.not_not
abbrev OK:=@List.getElem?_set_ne
abbrev ON:=@Option.none_or
abbrev OR:=@List.filter_nil
abbrev OS:=@Option.toList_none
abbrev P0:=@Array.getElem?_modify
abbrev P2:=@Array.length_toList
abbrev P3:=@List.mem_of_mem_drop
abbrev P4:=@List.foldl_append
abbrev Pa:=@List.sum_cons
abbrev Pc:=@Option.map_some
abbrev PA:=@Bool.or_eq_false_iff
abbrev PB:=@List.append_cancel_left
abbrev PC:=@Array.toList_modify
abbrev PF:=@List.take_append
abbrev PJ:=@List.drop_of_length_le
abbrev R0:=@Option.isSome_map
abbrev R1:=@Nat.xor_lt_two_pow
abbrev R2:=@Bool.not_true
abbrev Rg:=@List.getElem?_eq_none
abbrev Rr:=@List.find?_nil
abbrev RC:=@List.mem_filterMap
abbrev RE:=@List.takeWhile_cons
abbrev RM:=@List.getElem?_toArray
abbrev RR:=@List.toList_toArray
abbrev RT:=@Nat.lt_or_gt_of_ne
abbrev RW:=@Nat.add_sub_cancel
abbrev S7:=@List.foldl_nil
abbrev Se:=@List.all_cons
abbrev Sf:=@ByteArray.data_append
abbrev Sh:=@ByteArray.size_append
abbrev Sp:=@Nat.or_lt_two_pow
abbrev Ss:=@Nat.one_mul
abbrev SD:=@UInt8.lt_irrefl
abbrev SJ:=@Array.ext'
abbrev SM:=@true_and
abbrev SO:=@List.take_zero
abbrev SP:=@Nat.log2_lt
abbrev SR:=@Nat.shiftLeft_zero
abbrev SU:=@List.getElem_inj
abbrev SZ:=@List.nodup_nil
abbrev T3:=@List.length_replicate
abbrev T4:=@List.any_eq_true
abbrev T6:=@List.singleton_append
abbrev Tl:=@List.tail_cons
abbrev To:=@List.set_set
abbrev Tr:=@List.drop_take
abbrev Ts:=@Nat.min_eq_right
abbrev TO:=@List.ne_nil_of_length_pos
abbrev TX:=@List.length_eq_one_iff
abbrev Up:=@Option.ne_none_iff_exists'
abbrev UP:=@List.getElem?_append
abbrev US:=@List.find?_append
abbrev V0:=@Option.or_none
abbrev Wa:=@List.mem_reverse
abbrev Wb:=@Nat.sub_self
abbrev Wc:=@List.mapM_cons
abbrev Wf:=@Nat.lt_succ_self
abbrev Wk:=@List.mem_flatMap
abbrev Wr:=@List.drop_append
abbrev WD:=@Array.size_setIfInBounds
abbrev Xs:=@List.map_set
abbrev XS:=@List.set_cons_succ
abbrev Ys:=@List.pairwise_append
abbrev Zs:=@List.findSome?_eq_none_iff
abbrev ZD:=@List.length_filter_le
abbrev ZS:=@Array.mem_of_getElem?
abbrev A00:=@List.mem_toArray
abbrev A01:=@ByteArray.ext_iff
abbrev A02:=@Prod.mk.injEq
abbrev A04:=@UInt8.toNat_ofNat'
abbrev A05:=@Nat.pow_le_pow_right
abbrev A06:=@Array.toList_append
abbrev A08:=@Nat.lt_of_le_of_lt
abbrev A09:=@List.isPrefixOf_iff_prefix
abbrev A0a:=@Array.toList_push
abbrev A0b:=@List.take_take
abbrev A0c:=@Option.isSome_iff_exists
abbrev A0d:=@List.any_eq_false
abbrev A0e:=@Int.add_zero
abbrev A0f:=@Bool.or_false
abbrev A0g:=@List.find?_some
abbrev A0h:=@List.append_of_mem
abbrev A0i:=@Nat.shiftLeft_eq
abbrev A0k:=@Int.natAbs_natCast
abbrev A0l:=@List.reverse_cons
abbrev A0m:=@ByteArray.ext
abbrev A0v:=@List.getElem?_replicate
abbrev A0x:=@List.reverse_singleton
abbrev A0z:=@List.exists_cons_of_ne_nil
abbrev A0D:=@List.mem_or_eq_of_mem_set
abbrev A0E:=@Nat.div_div_eq_div_mul
abbrev A0F:=@List.setIfInBounds_toArray
abbrev A0G:=@Array.mapM_eq_mapM_toList
abbrev A0H:=@Nat.le_of_ble_eq_true
abbrev A0J:=@List.takeWhile_sublist
abbrev A0O:=@List.drop_eq_nil_of_le
abbrev A0P:=@List.getElem?_eq_none_iff
abbrev A0T:=@List.set_eq_take_append_cons_drop
abbrev A0U:=@List.getElem?_concat_length
abbrev A0V:=@List.pairwise_singleton
abbrev A0X:=@List.exists_of_findSome?_eq_some
abbrev A0Y:=@Array.getElem?_toList
abbrev A0Z:=@List.mem_of_mem_erase
abbrev A12:=@List.cons_lt_cons_iff
abbrev A14:=@Array.toList_eraseIdx
abbrev A1e:=@Array.getElem?_push_size
abbrev A1j:=@List.length_eraseIdx_le
abbrev A1l:=@List.drop_append_of_le_length
abbrev A1m:=@List.filter_filterMap
abbrev A1r:=@Nat.mul_lt_mul_of_pos_right
abbrev A1w:=@List.take_append_of_le_length
abbrev A1x:=@ByteArray.data_extract
abbrev A1A:=@Nat.two_pow_add_eq_or_of_lt
abbrev A1E:=@Array.getElem?_append_left
abbrev A1G:=@List.getElem?_singleton
structure ai where
 tape:Nat->Question->Nat
 os:Os
 output:Array (Nat×E)
abbrev W:=Array Obj
abbrev A41:=J0->W->Prop
def ai.at(a:ai)(b:W)(c:Nat):World:={heap:=b,tape:=a.tape,drawn:=c,os:=a.os,output:=a.output}
abbrev Fw(a:Option Nat):Fence:={fn:=λ_=>True,depth:=V,alive:=U,round:=a}
theorem yR(a:Option Nat)(b:Nat):(Fw a).room b:=λ_ c=>by simp at c
variable{b2:Option Nat}{b f:Nat}{M:Program}{c3:FuncId}{bn:Array Value}{bc:World}{fo:Ending->World->Prop}{c2 ea:Code}{fa:Value->World->Prop}{ca:Oper}{e0:Operand->Value}{bf:Act}{c4:Exit->Act->World->Prop}{d:ai}{a:W}{e:A41}{u bt:Value}{cc:Value->Prop}{c7:Prop}
def tH:CallsIn (Fw b2) b M c3 bn bc fo↔Calls M c3 bn bc fo:=callsIn_wide
def oF(a:Q1)(b:Nat)(c:Q8)(d:Array J0)(e f:Code)(g:World)(h:J0->World->Prop):Prop:=RoundIn (Fw V) 0 a b c d e f g (λi j=>∃v,i=.returned v/\h v j)
def oF.mono{a:J0->World->Prop}(d:oF M b c3 bn c2 ea bc fa)(e:∀v c,fa v c->a v c):oF M b c3 bn c2 ea bc a:=RoundIn.mono d λ_ _⟨v,g,h⟩=>⟨v,g,e _ _ h⟩
def AOl(a:RoundIn (Fw V) 0 M f c3 bn c2 ea bc fo):RoundIn (Fw b2) b M f c3 bn c2 ea bc fo:=⟨trivial,λc d _=>a.2 c d (yR V _)⟩
def Next.out(c:Q1)(b:J0->World->Prop):Result Next->Prop|.ok (.value v) a=>b v a|.ok .skip a=>b undef a|.ok (.enter f args) a=>Calls c f args a (λd e=>∃v,d=.returned v/\b v e)|.ok (.round l f tmps assign body) a=>oF c l f tmps assign body a b|_=>False
def EV(a:Q1)(b:Oper)(c:Operand->J0)(d:World)(e:J0->World->Prop):Prop:=Next.out a e ((execOp c b).run a d)
theorem NV{c:J0->World->Prop}(b:∀v w,fa v w->c v w){x:Result Next}(a:Next.out M fa x):Next.out M c x:=by cases x with|ok d w=>{cases d<;>simp only[Next.out]at a⊢<;>first|exact b _ _ a|exact Calls.mono a λ_ _⟨v,e,f⟩=>⟨v,e,b _ _ f⟩|exact oF.mono a b}|halt x w=>simp[Next.out]at a
def EV.mono{a:J0->World->Prop}(b:EV M ca e0 bc fa)(c:∀v bc,fa v bc->a v bc):EV M ca e0 bc a:=NV c b
theorem Calls.some(c:Calls M c3 bn bc fo):∃a b,fo a b:=let⟨a,b,_,r,_⟩:=c [];⟨a,b,r⟩
theorem EV.some(a:EV M ca e0 bc fa):∃v b,fa v b:=by unfold EV at a;cases e:(execOp e0 ca).run M bc with|ok g b=>rw[e]at a;cases g<;>simp only[Next.out]at a;(case value v=>exact⟨_,_,a⟩);(case skip=>exact⟨_,_,a⟩);(case enter f args=>obtain⟨h,c,v,_,d⟩:=Calls.some a;exact⟨v,c,d⟩);case round l f tmps assign body=>have⟨h,c,⟨v,_,d⟩,_⟩:=a.2 default [] (yR V _);exact⟨v,c,d⟩|halt g b=>rw[e]at a;simp[Next.out]at a
def NL(a:Oper):Bool:=match a.op with|.defer _=>U|.select ..=>U|_=>Y
theorem EV.wpIn{m:Nat}{h:Act->World->Prop}(j:NL ca=Y)(b:EV M ca bf.eval bc λv d=>h (bf.put ca.dst v) d):ca.wpIn (Fw b2) m M bf bc h c4:=by refine⟨λ_ _=>trivial,?_⟩;rw[Oper.semAt_eq b2 bf.eval ca (λc k=>by simp[NL,k]at j)];unfold EV at b;generalize(execOp bf.eval ca).run M bc=x at b;cases x with|ok i d=>cases i<;>simp only[Next.out]at b<;>simp only[Oper.uponIn];(case value v=>exact b);(case skip=>exact b);(case enter f args=>refine⟨λe=>by simp at e,tH.2 (Calls.mono b ?_)⟩;rintro n p⟨v,rfl,g⟩;exact g);case round l f tmps assign body=>refine⟨λe=>by simp at e,AOl (RoundIn.mono b ?_)⟩;rintro n p⟨v,rfl,g⟩;exact g|halt i d=>simp[Next.out]at b
def jG(c:Q1)(a:ai)(d:Oper)(e:Operand->J0)(f:J0)(b:W):Prop:=∀n,(execOp e d).run c (a.at b n)=.ok (.value f) (a.at b n)
def un(b:Nat->Nat->Bool)(i a:Nat):Bool:=!(b (max i a) (min i a))
def Pt(a:Oper):Prop:=∀c b,a.op≠.select c b
def yS(a:Array Oper):Nat->Nat->Bool:=let b:=Region.before a;λi c=>(b.getD i 0).testBit c
def left(a:Nat)(b:Array Bool):List Nat:=(List.range a).filter λi=>!b.getD i U
theorem mem_left{a:Array Bool}{i:Nat}:i∈left b a↔i<b/\a.getD i U=false:=by simp[left]
theorem range_split{n i:Nat}(c:i<n):List.range n=List.range i++i::(List.range' (i+1) (n-i-1)):=by
 rw[List.range_eq_range',List.range_eq_range'];have a:List.range' 0 n=List.range' 0 i++List.range' i (n-i):=by have:=List.range'_append_1 (s:=0) (m:=i) (n:=n-i);rw[B8]at this;rw[this];congr 1;omega
 rw[a];congr 1;have b:n-i=(n-i-1)+1:=by omega
 rw[b,List.range'_succ];simp
theorem AOz{i:Nat}{a:Array Bool}(hi:i<b)(j:a.size=b)(g:a.getD i U=U):∃e f,left b a=e++i::f/\left b (a.setIfInBounds i Y)=e++f/\∀c∈e,c<i/\a.getD c U=false:=by refine⟨(List.range i).filter λc=>!a.getD c U,(List.range' (i+1) (b-i-1)).filter λc=>!a.getD c U,?_,?_,?_⟩;{unfold left;rw[range_split hi,Kd,Cp];simp only[g,Bool.not_false,AT]};{unfold left;have h:(a.setIfInBounds i Y).getD i U=true:=by{have:i<a.size:=by{omega};simp[this]};rw[range_split hi,Kd,Cp];simp only[h,R2,BW,BY];congr 1;{refine MY λc d=>?_;have:=HI.1 d;rw[getD_set_ne U (by omega)]};refine MY λc d=>?_;have:=(List.mem_range'_1.1 d).1;rw[getD_set_ne U (by omega)]};intro c d;simp only[Fk,HI,GP]at d;exact d
def iI(d:Nat->Nat->Bool)(c:Array Bool):Prop:=∀a b,c.getD a U=Y->b<a->d a b=Y->c.getD b U=Y
theorem yT(a:NL ca=Y):Pt ca:=λd b c=>by simp[NL,c]at a
theorem ATy(a:Nat):left a (Array.replicate a U)=List.range a:=by unfold left;rw[I3];intro i _;by_cases b:i<a<;>simp[b]
def ah(b:W)(a:Q6):Option J0:=match b[a.block]? with|some (.cells c _ _)=>if a.spot.isSome then V else c[a.off]?|_=>V
def hG(b:W)(a:Q6):Bool:=match b[a.block]? with|some (.cells _ _ (lo,hi))=>lo<=a.off&&a.off<hi|_=>U
def cR(b:W)(a:Q6)(d:J0):W:=b.modify a.block λ|.cells c e frozen=>.cells (if a.spot.isSome then c else c.setIfInBounds a.off d) e frozen|o=>o
theorem AWQ(c:ai)(a:W)(d:Nat)(b:Q6):(c.at a d).cell? b=ah a b:=rfl
theorem gg(a:ai)(b:W)(c:Nat)(d:Q6)(e:J0):(a.at b c).setCell d e=a.at (cR b d e) c:=rfl
def At(p:Q2)(b:Q6->Prop):Prop:=match p with|some a=>b a|none=>False
def cZ(a:Bool)(b c:Prop):Prop:=match a with|true=>b|false=>c
def bW(a:W)(b:Obj)(c:Nat->W->Prop):Prop:=c a.size (a.push b)
def qt(a:W)(b:Q6)(c:J0->Prop):Prop:=∃v,ah a b=Z v/\c v
def KY(a:IntKind)(b:W)(c:Q6)(d:Int->Prop):Prop:=∃n,ah b c=Z (.int a n)/\d n
def lH(a:W)(c:Q6)(d:Bool->Prop):Prop:=∃b,ah a c=Z (.bool b)/\d b
def KT(a:W)(b:Q6)(c:E->Prop):Prop:=∃s,ah a b=Z (.string s)/\c s
def kB(a:W)(b:Q6)(c:Q2->Prop):Prop:=∃p,ah a b=Z (.pointer p)/\c p
structure Sl where
 p:Q2
 len:Nat
 cap:Nat
def Sl.v(a:Sl):J0:=.slice a.p a.len a.cap
def JR(a:W)(b:Q6)(c:Sl->Prop):Prop:=∃s:Sl,ah a b=Z (.slice s.p s.len s.cap)/\c s
def tI(a:W)(b:Q6)(c:Option Nat->Prop):Prop:=∃r,ah a b=Z (.map r)/\c r
def aj(a:W)(b:Q6)(c:J0)(d:W->Prop):Prop:=(∃u,ah a b=Z u)/\hG a b=U/\d (cR a b c)
def j5(p:Q2)(b:Nat)(i:Int)(c:Q6->Prop):Prop:=∃a,p=Z a/\(0<=i/\i<b)/\c a
def dx(a b:Prop):Prop:=a/\b
def fQ{a:Type}(c:a->W->Prop)(d:(a->W->Prop)->Prop):Prop:=∀K:a->W->Prop,(∀x b,c x b->K x b)->d K
def Loop{a:Type}(c:(a->W->Prop)->a->W->Prop)(x:a)(b:W):Prop:=∀K:a->W->Prop,(∀x b,c K x b->K x b)->K x b
def Ew(a:ai)(c:Q1)(m:Sem J0)(d:W)(e:A41):Prop:=∀n,∃v b f,m.run c (a.at d n)=.ok v (a.at b f)/\e v b
def AJ(a:ai)(c:Q1)(d:Q8)(e:Array J0)(f:W)(g:A41):Prop:=∀n,Calls c d e (a.at f n) λh i=>∃v,h=.returned v/\∃b j,i=a.at b j/\g v b
def AJ.mono{b:A41}(c:AJ d M c3 bn a e)(g:∀v a,e v a->b v a):AJ d M c3 bn a b:=λn=>Calls.mono (c n) λ_ _⟨v,i,j,k,l,m⟩=>⟨v,i,j,k,l,g _ _ m⟩
def JF(a:ai)(b:Q1)(e:J0)(f:Array J0)(g:W)(h:A41):Prop:=∀n,Next.out b (λv i=>∃c j,i=a.at c j/\h v c) ((do let d<-Deferred.ofValue e f;invoke d.target d.args:Sem Next).run b (a.at g n))
def ze(a:ai)(b:Q1)(d:J0)(e:String)(f:Array J0)(g:W)(h:A41):Prop:=∀n,Next.out b (λv i=>∃c j,i=a.at c j/\h v c) ((callMethod d e f:Sem Next).run b (a.at g n))
def JF.mono{b:A41}(c:JF d M u bn a e)(f:∀v a,e v a->b v a):JF d M u bn a b:=λn=>NV (λ_ _⟨g,i,j,k⟩=>⟨g,i,j,f _ _ k⟩) (c n)
theorem XO(c:b≠f):Nat.beq b f=false:=by grind[Nat.beq,absurd,Nat.eq_of_beq_eq_true]
structure Env where
 get:Nat->Option J0
 ds:List Nat
def mT(a:Nat):Deferred:={target:=.collected a,args:=#[]}
structure Fits (f9:Nat) (a:Act) (e:Env):Prop where
 size:a.tmps.size=f9
 get: ∀t v,e.get t=Z v->a.tmps[t]? =Z v
 ds:a.defers=e.ds.map mT
def Env.set(a:Env)(b:Nat)(c:J0):Env:={get:=λt=>bif Nat.beq t b then Z c else a.get t,ds:=a.ds}
def Env.put(b:Env)(a:Option Tmp)(c:J0):Env:=match a with|none=>b|some a=>b.set a c
def qv(b:Nat)(a:Option Tmp):Bool:=match a with|none=>Y|some a=>Nat.blt a b
variable{bw:Env}
theorem Fits.set(g:Fits b bf bw)(i:f<b):Fits b (bf.put (Z f) bt) (bw.set f bt):=by refine⟨by simp[Act.put,g.size],?_,g.ds⟩;intro t u c;unfold Env.set at c;simp only at c;by_cases h:t=f;{subst h;have:Nat.beq t t=true:=by{simp};rw[this]at c;simp[cond_true,DA]at c;subst c;simp[Act.put,g.size,i]};have:=XO h;rw[this]at c;simp[cond_false]at c;have:=g.get t u c;simp[Act.put];rw[HK (Ne.symm h)];exact this
theorem Fits.put(d:Fits b bf bw){c:Option Tmp}(f:qv b c=Y):Fits b (bf.put c u) (bw.put c u):=by cases c with|none=>exact d|some c=>exact d.set (by simpa[qv]using f)
theorem Fits.tt(g:Fits b bf bw)(i:bf.tmps[f]?=Z bt):Fits b bf (bw.set f bt):=by refine⟨g.size,?_,g.ds⟩;intro t u c;unfold Env.set at c;simp only at c;by_cases h:t=f;{simp_all};have:Nat.beq t f=false:=XO h;rw[this]at c;exact g.get t u c
def rdv(a:Env)(x:Operand):Option J0:=match x with|.tmp t=>a.get t|.const v=>Z v|.global g=>Z (.pointer (Z ⟨g,0,V⟩))|.func f=>Z (.func (.func f) #[] #[])
theorem Fits.rdv(d:Fits b bf bw){x:Operand}(c:rdv bw x=Z bt):bf.eval x=bt:=by cases x with|tmp t=>have:=d.get t bt c;simp[Act.eval];simp[this]|const u=>simpa[Lf.rdv,Act.eval]using c|global g=>simpa[Lf.rdv,Act.eval]using c|func f=>simpa[Lf.rdv,Act.eval]using c
def rd(a:Env)(x:Operand)(b:J0->Prop):Prop:=match rdv a x with|some v=>b v|none=>False
theorem Bz(f:Fits b bf bw){x:Operand}(c:rd bw x cc):cc (bf.eval x):=by unfold rd at c;cases d:rdv bw x with|none=>rw[d]at c;exact c.elim|some v=>rw[d]at c;rw[f.rdv d];exact c
def ρof(a:Env)(x:Operand):J0:=match rdv a x with|some v=>v|none=>undef
def known(a:Env)(c:List Operand)(b:Prop):Prop:=match c with|[]=>b|x::r=>(match rdv a x with|some _=>known a r b|none=>False)
theorem LM(g:Fits b bf bw):∀{l:List Operand},known bw l c7->(∀x∈l,ρof bw x=bf.eval x)/\c7|[],c=>⟨λ_ c=>(by cases c),c⟩|x::r,c=>by unfold known at c;cases d:rdv bw x with|none=>simp_all|some v=>rw[d]at c;obtain⟨h,i⟩:=LM g c;refine⟨λj f=>?_,i⟩;rcases AN.1 f with rfl|f;{unfold ρof;rw[d,g.rdv d]};exact h j f
end Go.Lf
namespace Go
open Lf
def Sem.calc{b:Type}(c:Q1):Sem b->Option b|.pure a=>Z a|.program f=>(f c).calc c|_=>V
end Go
namespace Go.Lf
variable{an:Type}{M:Program}
theorem ER{c:Sem an}:∀{a:an},c.calc M=Z a->∀w,c.run M w=.ok a w:=by induction c with|pure a=>simp_all[Sem.calc,DA]|program f d=>intro b e w;exact d M e w|_=>simp_all[Sem.calc]
def UM{b:Type}(c:Q1)(d:Sem b)(e:b->Prop):Prop:=match d.calc c with|some a=>e a|none=>False
theorem QS{b:Sem an}{c:an->Prop}(d:UM M b c):∃a,(∀w,b.run M w=.ok a w)/\c a:=by grind[UM,ER]
def QT:J0->Bool|.agg _|.tuple _=>U|_=>Y
end Go.Lf
namespace Go
open Lf
def Sem.vc{g:Type}(d:Q1):Sem g->W->(g->W->Prop)->Prop|.pure a,c,K=>K a c|.program f,c,K=>(f d).vc d c K|.new h f,c,K=>bW c h λb e=>(f b).vc d e K|.load _ a f,c,K=>qt c a λv=>(f v).vc d c K|.store _ a v f,c,K=>(match QT v with|true=>aj c a v λe=>f.vc d e K|false=>False)|.mark _ f,c,K=>f.vc d c K|_,_,_=>False
end Go
namespace Go.Lf
variable{an:Type}{d:ai}{M:Program}{a4:Addr}{u bt:Value}{a:W}{b:Nat}
theorem zi{m:Mode}{c:Sem an}(e:QT u=Y)(f:ah a a4=Z bt)(g:hG a a4=U):(Sem.store m a4 u c).run M (d.at a b)=c.run M (d.at (cR a a4 u) b):=by have i:(d.at a b).cell? a4=Z bt:=f;have j:(d.at a b).frozen? a4=false:=g;cases u<;>first|(simp[QT]at e;done)|(simp[Sem.run,i,j,gg])
theorem ATm{h:Sem an}:∀{e:W}{K:an->W->Prop},h.vc M e K->∀n,∃v i j,h.run M (d.at e n)=.ok v (d.at i j)/\K v i:=by induction h with|pure a=>intro e K b n;exact⟨a,e,n,rfl,b⟩|program f g=>intro e K b n;exact g M b n|mark m f g=>intro e K b n;exact g b n|new k f g=>intro e K b n;exact g _ b n|load m a f g=>intro e K b n;obtain⟨v,o,b⟩:=b;simp_all[Sem.run,AWQ]|store m a v f g=>{intro e K b n;unfold Sem.vc at b;cases l:QT v with|false=>simp_all|true=>rw[l]at b;obtain⟨⟨u,p⟩,q,b⟩:=b;simp_all[zi]}|shape r f _=>intro e K b;exact b.elim|freeze a n f _=>intro e K b;exact b.elim|frozen a f _=>intro e K b;exact b.elim|getObj r f _=>intro e K b;exact b.elim|setObj r k f _=>intro e K b;exact b.elim|choose s f _=>intro e K b;exact b.elim|sys c f _=>intro e K b;exact b.elim|halt x=>intro e K b;exact b.elim
inductive Sc where
 |int (k:IntKind)|bool|str|ptr|sl|map|any
def Sc.Ty:Sc->Type|.int _=>Int|.bool=>Bool|.str=>E|.ptr=>Q2|.sl=>Sl|.map=>Option Nat|.any=>J0
def Sc.val:(s:Sc)->s.Ty->J0|.int a,(n:Int)=>.int a n|.bool,(b:Bool)=>.bool b|.str,(s:E)=>.string s|.ptr,(p:Q2)=>.pointer p|.sl,(s:Sl)=>.slice s.p s.len s.cap|.map,(r:Option Nat)=>.map r|.any,(v:J0)=>v
def Sc.load(a:W)(b:Q6):(s:Sc)->(s.Ty->Prop)->Prop|.int c,K=>KY c a b K|.bool,K=>lH a b K|.str,K=>KT a b K|.ptr,K=>kB a b K|.sl,K=>JR a b K|.map,K=>tI a b K|.any,K=>qt a b K
theorem Vy:∀{s:Sc}{K:s.Ty->Prop},s.load a a4 K->∃x,ah a a4=Z (s.val x)/\K x|.int _,_,b=>b|.bool,_,b=>b|.str,_,b=>b|.ptr,_,b=>b|.sl,_,b=>b|.map,_,b=>b|.any,_,b=>b
def tJ(a:W)(b:Q6):Nat->List Sc->(List J0->Prop)->Prop|_,[],K=>K []|i,s::l,K=>s.load a (b.add i) λx=>tJ a b (i+1) l λc=>K (s.val x::c)
def tK:List Sc->(List J0->Prop)->Prop|[],K=>K []|s::l,K=>∃x:s.Ty,tK l λa=>K (s.val x::a)
theorem zj:∀{l:List Sc}{K:List J0->Prop},tK l K->∃b,K b|[],_,a=>⟨[],a⟩|_::_,_,⟨_,a⟩=>let⟨b,c⟩:=zj a;⟨_,c⟩
def lJ(a:Q1):Nat->Q7->List Sc|0,_=>[]|d+1,t=>match a.underlying t with|some .bool=>[.bool]|some (.int b)=>[.int b]|some .string=>[.str]|some (.pointer _)=>[.ptr]|some (.slice _)=>[.sl]|some (.map _ _)=>[.map]|some (.struct c)=>c.toList.flatMap λf=>lJ a d f.type|some (.array n e)=>(List.replicate n (lJ a d e)).flatten|_=>[.any]
def lK(a:Q1)(b:Q7):Bool:=match a.underlying b with|some (.struct _)=>Y|some (.array _ _)=>Y|_=>U
mutual
def qw(a:Q1):Nat->Q7->(J0->Prop)->Prop
 |0,_,K=> ∃v,K v
 |d+1,t,K=>
  match a.underlying t with
  |some (.tuple ts)=>qx a d ts.toList λb=>K (.tuple b.toArray)
  |_=>match lK a t with
   |true=>tK (lJ a 20 t) λb=>K (.agg b.toArray)
   |false=>match lJ a 20 t with
    | [s]=> ∃x:s.Ty,K (s.val x)
    |_=>False
def qx(a:Q1):Nat->List Q7->(List J0->Prop)->Prop
 |_,[],K=>K []
 |0,_::_,_=>False
 |d+1,t::ts,K=>qw a d t λu=>qx a d ts λb=>K (u::b)
end
theorem AUO(c:Q1):∀b,(∀(t:Q7)(K:J0->Prop),qw c b t K->∃v,K v)/\(∀(ts:List Q7)(K:List J0->Prop),qx c b ts K->∃d,K d):=by intro b;induction b with|zero=>{refine⟨λt K a=>a,λts K a=>?_⟩;cases ts with|nil=>exact⟨[],a⟩|cons t ts=>exact a.elim}|succ b f=>refine⟨λt K a=>?_,λts K a=>?_⟩;{unfold qw at a;split at a;{grind};split at a;{exact let⟨g,e⟩:=zj a;⟨_,e⟩};grind};cases ts with|nil=>exact⟨[],a⟩|cons t ts=>grind[qx]
def WL(a:Q1)(b:Q7)(c:J0)(d:J0->Prop):Prop:=qw a 8 b λu=>c=u/\d u
variable{M:Program}{y be bs fb:TypeId}{bt u eu:Value}{cc:Value->Prop}{e6:Addr->Prop}{ew:Sem Value}{bc et:World}{cv c8:Operand}{b f o x:Nat}{bf eb:Act}{bw:Env}{ca:Oper}{ep:BinOp}{ap e5:Bool}{p:Nat->Prop}{ci:IntKind}{i ar bq:Int}{c7 ex:Prop}{ey fc:Option Value}{bn:Array Value}{a k a1:W}{a4:Addr}{b3:List Value}{d:ai}{b8:Array Oper}{cu:Oper->Bool}{cf:Nat->Nat->Bool}{b0 d2:List Nat}{b2:Option Nat}{c4:Exit->Act->World->Prop}{e0:Operand->Value}{e:A41}{bh:W->Prop}{eo:Env->W->Prop}{e7:Act->W->Prop}{e3:Fence}{c2 ea:Code}{c9:Obj}{fm:Func}{fo:Ending->World->Prop}{c3:FuncId}{bu:Nat×Nat}{c5:Nat->W->Prop}{an ev:Type}{j:Sl}{ef:Sl->W->Prop}{h a3 ec:E}{eq:Array MapEntry}{cy:List E}{a6 ch:List UInt8}{d0:UInt8}
theorem QA(a:WL M y bt cc):cc bt:=by obtain⟨u,rfl,a⟩:=(AUO M 8).1 _ _ a;exact a
def bI(a b:E):Bool:=a.toList==b.toList
def aS(a b:E):Bool:=Op.bytesLess a.toList b.toList
def dK(a:E)(i:Int):Int:=((a[i.toNat]?).getD 0).toNat
def Yp(b:Q1)(c:Q7)(a:Operand):Bool:=match b.underlying c with|some (.pointer _)=>(match a with|.const (.pointer V)=>Y|_=>U)|some (.slice _)=>(match a with|.const (.slice V 0 0)=>Y|_=>U)|some (.map _ _)=>(match a with|.const (.map V)=>Y|_=>U)|some (.func _ _ _)=>(match a with|.const .nilFunc=>Y|_=>U)|some (.interface _)=>(match a with|.const .nilIface=>Y|_=>U)|_=>U
def lN:J0->Prop|.func ..=>True|.nilFunc=>True|_=>False
def lO:J0->Bool|.nilFunc=>Y|_=>U
def oI:J0->Prop|.iface ..=>True|.nilIface=>True|_=>False
def mU:J0->Bool|.nilIface=>Y|_=>U
def oJ(c:Q1)(d:Q7)(a:J0)(b:Bool->Prop):Prop:=match c.underlying d with|some (.pointer _)=>(match a with|.pointer p=>b p.isNone|_=>False)|some (.slice _)=>(match a with|.slice p _ _=>b p.isNone|_=>False)|some (.map _ _)=>(match a with|.map r=>b r.isNone|_=>False)|some (.func _ _ _)=>dx (lN a) (b (lO a))|some (.interface _)=>dx (oI a) (b (mU a))|_=>False
def Zo(b:BinOp)(a:Bool):J0:=match b with|.eql=>.bool a|_=>.bool !a
def tL(e:BinOp)(f g:J0)(d:J0->Prop):Prop:=match f,g with|.int c a,.int h b=>(match decide (c=h)with|true=>(match e with|.quo=>dx (b≠0) (d (.int c (c.wrap (a.tdiv b))))|.rem=>dx (b≠0) (d (.int c (a.tmod b)))|_=>False)|false=>False)|_,_=>False
def tM(e:BinOp)(f g:J0)(d:J0->Prop):Prop:=match f,g with|.int c a,.int _ b=>(match e with|.shl=>dx (0<=b) (d (.int c (c.wrap (a*2^(min b.toNat c.bits)))))|.shr=>dx (0<=b) (d (.int c (a.fdiv (2^(min b.toNat c.bits)))))|_=>False)|_,_=>False
def tN(c d:J0)(e:J0->Prop):Prop:=match c,d with|.string a,.string b=>dx (((a.size+b.size:Nat):Int)<=D.max) (e (.string (a++b)))|_,_=>False
inductive AYy where
 |eZ|div|shift|cat|kX|kY|no
def isConst:Operand->Bool|.const _=>Y|_=>U
def YD(a:Q1)(d:BinOp)(b:Q7)(x c:Operand):AYy:=match d with|.quo|.rem=>(match a.underlying b with|some (.int _)=>(match isConst c with|true=>.eZ|false=>.div)|_=>.no)|.shl|.shr=>(match isConst c with|true=>.eZ|false=>.shift)|.add=>(match a.underlying b with|some .string=>.cat|some (.int _)=>.eZ|_=>.no)|.eql|.neq=>(match a.underlying b with|some (.int _)=>.eZ|some .string=>.eZ|some .bool=>.eZ|some (.pointer _)|some (.slice _)|some (.map _ _)|some (.func _ _ _)|some (.interface _)=>(match Yp a b c with|true=>.kX|false=>match Yp a b x with|true=>.kY|false=>.no)|_=>.no)|_=>match a.underlying b with|some (.int _)=>.eZ|some .string=>.eZ|_=>.no
def tO(g:Q1)(a:BinOp)(f:Q7)(x h:Operand)(c d:J0)(e:J0->Prop):Prop:=match YD g a f x h with|.eZ=>UM g (do eqGuard a f x h c d;binOp a f c d) e|.div=>tL a c d e|.shift=>tM a c d e|.cat=>tN c d e|.kX=>oJ g f c λb=>e (Zo a b)|.kY=>oJ g f d λb=>e (Zo a b)|.no=>False
def tP(b:Q1)(g:Q7)(e i:J0)(f:J0->Prop):Prop:=match b.underlying g with|some (.slice c)=>(match e,i,b.info? c with|.slice p len _,.int _ n,Z d=>j5 p len n λa=>f (.pointer (Z (a.add (n.toNat*d.size))))|_,_,_=>False)|some (.array len c)=>(match e,i,b.info? c with|.pointer p,.int _ n,Z d=>At p λa=>dx (0<=n/\n<(len:Int)) (f (.pointer (Z (a.add (n.toNat*d.size)))))|_,_,_=>False)|_=>False
def tQ(a:Q1)(b:Q7)(c i:J0)(d:J0->Prop):Prop:=match a.underlying b with|some .string=>(match c,i with|.string s,.int _ n=>dx (0<=n/\n<(s.size:Int)) (d (.int .u8 (dK s n)))|_,_=>False)|some (.array _ _)=>UM a (Instr.index b c i) d|_=>False
def iJ(x:Option J0)(b max:Nat)(a:Nat->Prop):Prop:=match x with|some (.int _ n)=>dx (0<=n/\n<=(max:Int)) (a n.toNat)|none=>a b|_=>False
def BD(p:Q2)(b a c:Nat):Q2:=if b=a then p else p.map (·.add (a*c))
def tT(c:Q1)(i:Q7)(d:J0)(lo hi:Option J0)(e:J0->Prop):Prop:=match c.underlying i with|some .string=>(match d with|.string s=>iJ hi s.size s.size λb=>iJ lo 0 b λl=>e (.string (s.extract l b))|_=>False)|some (.slice f)=>(match d,c.info? f with|.slice p len g,Z h=>iJ hi len g λb=>iJ lo 0 b λl=>e (.slice (BD p g l h.size) (b-l) (g-l))|_,_=>False)|some (.array n f)=>(match d,c.info? f with|.pointer p,Z h=>At p λa=>iJ hi n n λb=>iJ lo 0 b λl=>e (.slice (Z (if n=l then a else a.add (l*h.size))) (b-l) (n-l))|_,_=>False)|_=>False
def tU(c:Q1)(d:Q7)(e:J0)(lo hi:Option J0)(f:J0)(g:J0->Prop):Prop:=match c.underlying d with|some (.slice h)=>(match e,c.info? h,hi,f with|.slice p _ i,Z j,Z (.int _ b),.int _ a=>dx (0<=a/\a<=(i:Int)) (dx (0<=b/\b<=(a.toNat:Int)) (iJ lo 0 b.toNat λl=>g (.slice (BD p a.toNat l j.size) (b.toNat-l) (a.toNat-l))))|_,_,_,_=>False)|_=>False
def tV(c:Bool)(d e:Option J0)(a:J0->Prop):Prop:=match d,e with|some (.bool x),Z (.bool b)=>a (.bool (cond c x b))|some x,Z b=>cZ c (a x) (a b)|some x,V=>cZ c (a x) False|none,Z b=>cZ c False (a b)|none,V=>False
def zk(b:J0)(c:J0->Prop):Prop:=match b with|.pointer p=>At p λa=>c (.pointer (Z a))|_=>False
def oL(b:Env)(x:Option Operand)(a:Option J0->Prop):Prop:=match x with|none=>a V|some x=>rd b x λv=>a (Z v)
def qy(a:Bool)(b:Prop):Prop:=match a with|true=>b|false=>False
def oM(c:Q1)(d:Q7)(a:J0)(b:Array J0->Prop):Prop:=match lK c d with|true=>b a.cells|false=>qy (QT a) (b #[a])
theorem AO1(a:QT u=Y):u.cells=#[u]:=by cases u<;>first|rfl|(simp[QT]at a)
theorem Ux{c:Array J0->Prop}(a:oM M y u c):c u.cells:=by unfold oM at a;split at a;{exact a};cases b:QT u with|false=>rw[b]at a;exact a.elim|true=>rw[b]at a;rw[AO1 b];exact a
def mV(d:Nat->Option (Nat×Nat))(a:Array J0):List (Nat×Array J0)->Option (Array J0)|[]=>Z a|(i,b)::rest=>match d i with|none=>V|some (off,e)=>if b.size≠e||off+b.size>a.size then V else mV d (b.zipIdx.foldl (λf(c,g)=>f.setIfInBounds (off+g) c) a) rest
theorem qz(a:Nat->Option (Nat×Nat)):∀(l:List (Nat×J0))(cells:Array J0),Instr.fill a cells l=mV a cells (l.map λp=>(p.1,p.2.cells))|[],cells=>rfl|(i,v)::rest,cells=>by simp[Instr.fill,DM,mV];cases a i with|none=>rfl|some p=>simp[];split<;>first|rfl|exact qz a rest _
def AYn(b:Q1)(c:Q7)(i:Nat):Option Q7:=match b.underlying c with|some (.struct d)=>(d[i]?).map (·.type)|some (.array _ a)=>Z a|some (.slice a)=>Z a|_=>V
def oN(a:Q1)(b:Q7)(c:Env):List (Nat×Operand)->(List (Nat×Array J0)->Prop)->Prop|[],K=>K []|(i,x)::r,K=>match AYn a b i with|some ft=>rd c x λv=>oM a ft v λd=>oN a b c r λl=>K ((i,d)::l)|none=>False
def placesOf(a:Q1):List Field->Option (List (Nat×Nat))|[]=>Z []|f::r=>match a.info? f.type with|some i=>(match placesOf a r with|some l=>Z ((f.offset,i.size)::l)|none=>V)|none=>V
def tW(a:Q1)(b:Q7)(c:List (Nat×Array J0)):Option (Array J0):=match a.info? b with|some i=>(match i.zero with|some d=>(match a.underlying b with|some (.struct f)=>(match placesOf a f.toList with|some l=>mV (l.toArray[·]?) d.cells c|none=>V)|some (.array _ g)=>(match a.info? g with|some e=>mV (λh=>Z (h*e.size,e.size)) d.cells c|none=>V)|_=>V)|none=>V)|none=>V
def AYG(a:Q1)(b:Q7)(c:Array (Nat×Operand))(d:Env)(e:J0->Prop):Prop:=oN a b d c.toList λl=>match tW a b l with|some cells=>e (.agg cells)|none=>False
def qA(f:Q1)(g:Oper)(d:Env)(e:J0->Prop):Prop:=match g.op with|.nilCheck x=>rd d x λv=>zk v e|.binOp op t x j _=>rd d x λv=>rd d j λu=>tO f op t x j v u e|.indexAddr t x i=>rd d x λv=>rd d i λu=>tP f t v u e|.index t x i=>rd d x λv=>rd d i λu=>tQ f t v u e|.slice t x lo hi k=>(match k with|none=>rd d x λv=>oL d lo λl=>oL d hi λh=>tT f t v l h e|some m=>rd d x λv=>oL d lo λl=>oL d hi λh=>rd d m λn=>tU f t v l h n e)|.pick c a b=>(rd d c λv=>match v with|.bool c=>tV c (rdv d a) (rdv d b) e|_=>False)|.build t o=>AYG f t o d e|.fieldAddr t x i=>(rd d x λv=>match v with|.pointer p=>At p λa=>UM f (Instr.fieldAt t (.pointer (Z a)) i) e|_=>False)|_=>known d g.op.operands.toList (UM f (execOp (ρof d) g) λx=>match x with|.value v=>e v|_=>False)
theorem Vi{p:Q2}(b:At p e6):∃a,p=Z a/\e6 a:=by cases p with|none=>exact b.elim|some a=>exact⟨a,rfl,b⟩
theorem lQ(a:ew.run M bc=.ok u et):(do pure (.value (<-ew)):Sem Next).run M bc=.ok (.value u) et:=by rw[Sem.run_bind,a];rfl
theorem AZt{a:Sem Unit}(b:a.run M bc=.ok () et):(do a;pure .skip:Sem Next).run M bc=.ok .skip et:=by rw[Sem.run_bind,b];rfl
theorem CG{a:TypeDesc}(b:M.underlying y=Z a):(underlying y).run M bc=.ok a bc:=run_underlying b bc
theorem zl{i:TypeInfo}(a:M.info? y=Z i):(typeInfo y).run M bc=.ok i bc:=by simp[typeInfo,a]
theorem run_sizeOf{i:TypeInfo}(a:M.info? y=Z i):(sizeOf y).run M bc=.ok i.size bc:=by simp[sizeOf,zl a]
def Xb(a:Q1)(b:Q7):Option J0:=match a.underlying b with|some (.pointer _)=>Z (.pointer V)|some (.slice _)=>Z (.slice V 0 0)|some (.map _ _)=>Z (.map V)|some (.func _ _ _)=>Z .nilFunc|some (.interface _)=>Z .nilIface|_=>V
theorem zn(a:Yp M y cv=Y):∃u,cv=.const u/\Xb M y=Z u:=by unfold Yp at a;unfold Xb;grind
theorem AKB(g:Nat){h:Bool->Prop}(c:oJ M y u h)(d:Xb M y=Z bt):∃b,(∀w,(Op.equalIn (g+1) y u bt).run M w=.ok b w)/\(∀w,(Op.equalIn (g+1) y bt u).run M w=.ok b w)/\h b:=by unfold oJ at c;unfold Xb at d;cases e:M.underlying y with|none=>simp_all|some j=>rw[e]at c d;(cases j<;>simp only[]at c d<;>try exact c.elim);(case pointer i=>simp[DA]at d;subst d;(cases u<;>simp only[]at c<;>try exact c.elim);case pointer p=>refine⟨_,λw=>by cases p<;>simp[Op.equalIn,CG e],λw=>by cases p<;>simp[Op.equalIn,CG e],c⟩);(case slice i=>simp[DA]at d;subst d;(cases u<;>simp only[]at c<;>try exact c.elim);case slice p a b=>refine⟨_,λw=>by cases p<;>simp[Op.equalIn,CG e],λw=>by cases p<;>simp[Op.equalIn,CG e],c⟩);(case map k i=>simp[DA]at d;subst d;(cases u<;>simp only[]at c<;>try exact c.elim);case map p=>refine⟨_,λw=>by cases p<;>simp[Op.equalIn,CG e],λw=>by cases p<;>simp[Op.equalIn,CG e],c⟩);(case func ps l m=>simp[DA]at d;subst d;obtain⟨f,c⟩:=c;cases u<;>simp only[lN]at f;{refine⟨_,λw=>?_,λw=>?_,c⟩<;>simp[Op.equalIn,CG e,lO]};simp_all[Op.equalIn,CG,lO]);case interface n=>simp[DA]at d;subst d;obtain⟨f,c⟩:=c;cases u<;>simp only[oI]at f;{refine⟨_,λw=>?_,λw=>?_,c⟩<;>simp[Op.equalIn,CG e,mU]};simp_all[Op.equalIn,CG,mU]
def PR(a:Q1)(b:Sem J0)(c:J0->Prop):Prop:=∃v,(∀w,b.run a w=.ok v w)/\c v
theorem AId(d:Fits b bf bw)(f:Pt ca)(g:known bw ca.op.operands.toList (UM M (execOp (ρof bw) ca) λx=>match x with|.value v=>cc v|_=>False)):∃v,(∀w,(execOp bf.eval ca).run M w=.ok (.value v) w)/\cc v:=by obtain⟨h,i⟩:=LM d g;obtain⟨x,c,j⟩:=QS i;rw[execOp_congr ca f (λx c=>h x (by simpa using c))]at c;grind
theorem ARf{x:Operand}(f:ep=.quo\/ep=.rem)(c:tL ep u bt cc):PR M (do eqGuard ep y x cv u bt;binOp ep y u bt) cc:=by
 unfold tL at c;cases u<;>cases bt<;>simp only[]at c<;>try exact c.elim
 rename_i g a h b;by_cases e:g=h;{subst e;rcases f with rfl|rfl;{simp[decide_true]at c;obtain⟨d,c⟩:=c;exact⟨_,λw=>by simp[eqGuard,binOp,Op.intDiv,d],c⟩};simp[decide_true]at c;obtain⟨d,c⟩:=c;exact⟨_,λw=>by simp[eqGuard,binOp,Op.intDiv,d],c⟩};rw[An e]at c;exact c.elim
theorem AVZ{x:Operand}(c:ep=.shl\/ep=.shr)(a:tM ep u bt cc):PR M (do eqGuard ep y x cv u bt;binOp ep y u bt) cc:=by
 unfold tM at a;cases u<;>cases bt<;>simp only[]at a<;>try exact a.elim
 rcases c with rfl|rfl;{simp[]at a;have⟨b,a⟩:=a;exact⟨_,λw=>by simp[eqGuard,binOp,Op.shift,Int.not_lt.2 b],a⟩};simp[]at a;obtain⟨b,a⟩:=a;exact⟨_,λw=>by simp[eqGuard,binOp,Op.shift,Int.not_lt.2 b],a⟩
theorem ASC{x:Operand}(a:tN u bt cc):PR M (do eqGuard .add y x cv u bt;binOp .add y u bt) cc:=by
 unfold tN at a;cases u<;>cases bt<;>simp only[]at a<;>try exact a.elim
 have⟨b,a⟩:=a;refine⟨_,λw=>?_,a⟩;simp_all[Int.not_lt,eqGuard,binOp,Op.stringOp,A0]
def AQf{a:Bool->Prop}(c:oJ M y u a)(d:Xb M y=Z bt):∃b,(∀w,(Op.equal y u bt).run M w=.ok b w)/\(∀w,(Op.equal y bt u).run M w=.ok b w)/\a b:=AKB 9999 c d
theorem binOp_eql(d:ep=.eql\/ep=.neq)(e:Xb M y=Z bt)(a:(Op.equal y u bt).run M bc=.ok ap bc):(binOp ep y u bt).run M bc=.ok (Zo ep ap) bc/\True:=by
 have c:bt=.pointer V\/bt=.slice V 0 0\/bt=.map V\/bt=.nilFunc\/bt=.nilIface:=by grind[Xb]
 refine⟨?_,trivial⟩;rcases d with rfl|rfl;{rcases c with rfl|rfl|rfl|rfl|rfl<;>cases u<;>simp[binOp,a,Zo]};rcases c with rfl|rfl|rfl|rfl|rfl<;>cases u<;>simp[binOp,a,Zo]
theorem AOA(d:ep=.eql\/ep=.neq)(e:Xb M y=Z bt)(a:(Op.equal y bt u).run M bc=.ok ap bc):(binOp ep y bt u).run M bc=.ok (Zo ep ap) bc/\True:=by
 have c:bt=.pointer V\/bt=.slice V 0 0\/bt=.map V\/bt=.nilFunc\/bt=.nilIface:=by grind[Xb]
 refine⟨?_,trivial⟩;rcases d with rfl|rfl;{rcases c with rfl|rfl|rfl|rfl|rfl<;>cases u<;>simp[binOp,a,Zo]};rcases c with rfl|rfl|rfl|rfl|rfl<;>cases u<;>simp[binOp,a,Zo]
theorem AEA{x:Operand}(a:ep=.eql\/ep=.neq)(e:Xb M y=Z bt)(b:(∃c,x=.const c)\/(∃c,cv=.const c)):(eqGuard ep y x cv u bt).run M bc=.ok () bc/\(eqGuard ep y x cv bt u).run M bc=.ok () bc:=by
 have d:bt=.pointer V\/bt=.slice V 0 0\/bt=.map V\/bt=.nilFunc\/bt=.nilIface:=by grind[Xb]
 rcases a with rfl|rfl<;>rcases b with⟨c,rfl⟩|⟨c,rfl⟩<;>rcases d with rfl|rfl|rfl|rfl|rfl<;>cases u<;>exact⟨by simp[eqGuard],by simp[eqGuard]⟩
theorem ASI{x:Operand}(i:∀c,x=.const c->u=c)(j:∀c,cv=.const c->bt=c)(a:tO M ep y x cv u bt cc):PR M (do eqGuard ep y x cv u bt;binOp ep y u bt) cc:=by unfold tO at a;cases d:YD M ep y x cv with|eZ=>rw[d]at a;exact QS a|no=>rw[d]at a;exact a.elim|div=>rw[d]at a;refine ARf ?_ a;unfold YD at d;grind|shift=>rw[d]at a;refine AVZ ?_ a;unfold YD at d;grind|cat=>rw[d]at a;have:ep=.add:=by{unfold YD at d;grind};subst this;exact ASC a|kX=>rw[d]at a;have e:(ep=.eql\/ep=.neq)/\Yp M y cv=true:=by{unfold YD at d;grind};obtain⟨e,f⟩:=e;obtain⟨c,k,g⟩:=zn f;obtain⟨b,l,_,h⟩:=AQf a g;refine⟨Zo ep b,λw=>?_,h⟩;simp_all[Sem.run_bind,AEA,binOp_eql]|kY=>rw[d]at a;have e:(ep=.eql\/ep=.neq)/\Yp M y x=true:=by{unfold YD at d;grind};obtain⟨e,f⟩:=e;obtain⟨c,m,g⟩:=zn f;obtain⟨b,_,n,h⟩:=AQf a g;refine⟨Zo ep b,λw=>?_,h⟩;simp_all[Sem.run_bind,AEA,AOA]
theorem AHt{i:J0}(b:tP M y u i cc):PR M (Instr.indexAt y u i) cc:=by unfold tP at b;split at b;{rename_i h d;split at b;{rename_i p len c j n k e;obtain⟨a,rfl,⟨f,g⟩,b⟩:=b;refine⟨_,λw=>?_,b⟩;simp[Instr.indexAt,asIntOf,CG d,run_sizeOf e,f,g]};exact b.elim};{rename_i len h d;split at b;{rename_i p j n k e;obtain⟨a,rfl,b⟩:=Vi b;have⟨⟨f,g⟩,b⟩:=b;refine⟨_,λw=>?_,b⟩;simp[Instr.indexAt,asIntOf,CG d,run_sizeOf e,f,g,Instr.sureAddr]};exact b.elim};exact b.elim
theorem AMj{i:J0}(a:tQ M y u i cc):PR M (Instr.index y u i) cc:=by unfold tQ at a;split at a;{rename_i b;split at a;{rename_i s c n;obtain⟨⟨d,e⟩,a⟩:=a;refine⟨_,λw=>?_,a⟩;simp_all[Instr.index,asIntOf,CG,dK]};exact a.elim};{exact QS a};exact a.elim
theorem YT{x:Option J0}{max:Nat}(a:iJ x b max p):(x=V/\p b)\/∃c n,x=Z (.int c n)/\0<=n/\n<=(max:Int)/\p n.toNat:=by unfold iJ at a;split at a;{rename_i c n;obtain⟨⟨e,f⟩,a⟩:=a;grind};{exact .inl ⟨rfl,a⟩};exact a.elim
theorem run_sliceBound{c:BoundsCode}(d:0<=i)(e:i<=(b:Int))(a:World):(Instr.sliceBound (.int ci i) b c).run M a=.ok i.toNat a:=by simp[Instr.sliceBound,asIntOf,d,e]
theorem Qp{P:Q1}{b:Bool}{lo hi:Option J0}{h:Nat->Nat->Prop}(k:iJ hi f o λd=>iJ lo 0 d λl=>h l d):∃l d,(∀w,(Instr.sliceBounds b f o lo hi V).run P w=.ok (l,d,o) w)/\h l d:=by obtain⟨e,g⟩|⟨s,n,e,m,p,g⟩:=YT k;{obtain⟨c,a⟩|⟨q,r,c,i,j,a⟩:=YT g;{exact⟨_,_,λw=>by simp[Instr.sliceBounds,e,c],a⟩};exact⟨_,_,λw=>by simp[Instr.sliceBounds,e,c,run_sliceBound i j],a⟩};obtain⟨c,a⟩|⟨q,r,c,i,j,a⟩:=YT g;{exact⟨_,_,λw=>by simp[Instr.sliceBounds,e,c,run_sliceBound m p],a⟩};exact⟨_,_,λw=>by simp_all[Instr.sliceBounds,run_sliceBound],a⟩
theorem AMT{P:Q1}{lo hi:Option J0}(c:tT P y u lo hi cc):PR P (Instr.sliceAt y u lo hi V) cc:=by unfold tT at c;split at c;{rename_i d;split at c;{rename_i s;obtain⟨l,g,e,c⟩:=Qp (P:=P) (b:=U) c;refine⟨_,λw=>?_,c⟩;simp[Instr.sliceAt,Instr.slice,CG d,e]};exact c.elim};{rename_i h d;split at c;{rename_i p len k i f;obtain⟨l,g,e,c⟩:=Qp (P:=P) (b:=Y) c;refine⟨_,λw=>?_,c⟩;simp[Instr.sliceAt,Instr.slice,CG d,e,run_sizeOf f,BD]};exact c.elim};{rename_i n h d;split at c;{rename_i p i f;obtain⟨a,rfl,j⟩:=Vi c;have⟨l,g,e,c⟩:=Qp (P:=P) (b:=U) j;refine⟨_,λw=>?_,c⟩;simp[Instr.sliceAt,CG d,e,run_sizeOf f,Instr.sureAddr]};exact c.elim};exact c.elim
theorem AKz{lo hi:Option J0}(a:tU M y u lo hi bt cc):PR M (Instr.sliceAt y u lo hi (Z bt)) cc:=by unfold tU at a;split at a;{rename_i l d;split at a;{rename_i p len m n o q b r e;obtain⟨⟨f,g⟩,⟨h,i⟩,a⟩:=a;obtain⟨c,b⟩|⟨s,x,c,j,k,b⟩:=YT a;{refine⟨_,λw=>?_,b⟩;simp[Instr.sliceAt,Instr.slice,Instr.sliceBounds,CG d,run_sizeOf e,BD,c,run_sliceBound f g,run_sliceBound h i]};refine⟨_,λw=>?_,b⟩;simp[Instr.sliceAt,Instr.slice,Instr.sliceBounds,CG d,run_sizeOf e,BD,c,run_sliceBound f g,run_sliceBound h i,run_sliceBound j k]};exact a.elim};exact a.elim
theorem uV(a:cZ ap c7 ex):(ap=Y->c7)/\(ap=U->ex):=by cases ap;{exact⟨λa=>(by cases a),λ_=>a⟩};exact⟨λ_=>a,λa=>by cases a⟩
theorem AOC(e:∀v,ey=Z v->u=v)(f:∀v,fc=Z v->bt=v)(d:tV ap ey fc cc):cc (if ap then u else bt):=by unfold tV at d;split at d;{rename_i x g;rw[e _ rfl,f _ rfl];cases ap<;>exact d};{rename_i x g _;rw[e _ rfl,f _ rfl];cases ap<;>exact d};{rename_i x;rw[e _ rfl];cases ap;{exact d.elim};exact d};{rename_i g;rw[f _ rfl];cases ap;{exact d};exact d.elim};exact d.elim
theorem VF(f:Fits b bf bw){x:Option Operand}{c:Option J0->Prop}(d:oL bw x c):c (x.map bf.eval):=by cases x with|none=>exact d|some x=>exact Bz f d
theorem Vj{P:Q1}(d:Fits b bf bw):∀{l:List (Nat×Operand)}{K:List (Nat×Array J0)->Prop},oN P y bw l K->K (l.map λp=>(p.1,(bf.eval p.2).cells))|[],K,c=>c|(i,x)::r,K,c=>by unfold oN at c;split at c;{have f:=Vj (P:=P) d (Ux (Bz d c));exact f};exact c.elim
theorem AEG{P:Q1}:∀(a:List Field),placesOf P a=a.mapM (λf=>(P.info? f.type).map λi=>(f.offset,i.size))|[]=>rfl|f::r=>by simp[placesOf,Wc,Option.bind_eq_bind,Option.pure_def,AEG (P:=P) r];grind
theorem APP{b:Array (Nat×J0)}(a:tW M y (b.toList.map λp=>(p.1,p.2.cells))=Z bn)(c:World):(Instr.build y b).run M c=.ok (.agg bn) c:=by unfold tW at a;split at a;{rename_i j f;split at a;{rename_i g h;split at a;{rename_i k d;split at a;{rename_i l e;rw[<-qz]at a;rw[AEG]at e;have i:Instr.fill (λx=>l[x]?) g.cells b.toList=Z bn:=by{simpa using a};simp[Instr.build,run_underlying d,typeInfo,zeroValue,f,h,A0G,run_places c _ _ e,i]};cases a};{rename_i n m d;split at a;{simp_all[qz,Instr.build,run_underlying,sizeOf,typeInfo,zeroValue]};cases a};cases a};cases a};cases a
theorem AFO(g:Fits f bf bw)(q:Pt ca)(d:qA M ca bw cc):∃v,(∀w,(execOp bf.eval ca).run M w=.ok (.value v) w)/\cc v:=by
 have lift:∀{s:Sem J0},PR M s cc->(execOp bf.eval ca=do pure (.value (<-s)))->∃v,(∀w,(execOp bf.eval ca).run M w=.ok (.value v) w)/\cc v:=by intro s⟨v,k,y⟩z;simp_all
 unfold qA at d;cases h:ca.op;case nilCheck x=>rw[h]at d;have d:=Bz g d;unfold zk at d;cases l:bf.eval x<;>rw[l]at d<;>simp only[]at d;rename_i p;obtain⟨b,rfl,d⟩:=Vi d;exact⟨_,λw=>by simp[execOp,h,l],d⟩
 case binOp op t x r t'=>rw[h]at d;refine lift (ASI (λc j=>by subst j;rfl) (λc j=>by subst j;rfl) (Bz g (Bz g d))) ?_;simp[execOp,h]
 case indexAddr t x i=>rw[h]at d;refine lift (AHt (Bz g (Bz g d))) ?_;simp[execOp,h]
 case index t x i=>rw[h]at d;refine lift (AMj (Bz g (Bz g d))) ?_;simp[execOp,h]
 case slice t x lo hi u=>rw[h]at d;cases u with|some m=>refine lift (AKz (Bz g (VF g (VF g (Bz g d))))) ?_;simp[execOp,h]|none=>refine lift (AMT (VF g (VF g (Bz g d)))) ?_;simp[execOp,h]
 case build t A=>rw[h]at d;have d:=Vj g d;split at d;{rename_i cells j;refine⟨_,λw=>?_,d⟩;simp only[execOp,h];refine lQ (APP ?_ w);rw[<-j];congr 1;simp};exact d.elim
 case pick c x r=>rw[h]at d;have d:=Bz g d;cases j:bf.eval c<;>rw[j]at d<;>simp only[]at d;rename_i b;exact⟨_,λw=>by simp[execOp,h,j,asBool],AOC (λv k=>g.rdv k) (λv k=>g.rdv k) d⟩
 case fieldAddr t x i=>rw[h]at d;have d:=Bz g d;cases l:bf.eval x<;>rw[l]at d<;>simp only[]at d;obtain⟨b,rfl,n⟩:=Vi d;unfold UM at n;split at n;{rename_i v j;exact⟨v,λw=>by simp_all[execOp,lQ,ER],n⟩};exact n.elim
 all_goals(rw[h]at d;simp[]at d;rw[<-h]at d;exact AId g q d)
def R7(a:W)(b:Q6):Nat->List J0->Prop|_,[]=>True|i,[v]=>ah a (b.add i)=Z v|i,v::c=>ah a (b.add i)=Z v/\R7 a b (i+1) c
def loadT(a:Q1)(b:Q7)(e:W)(c:Q6)(f:J0->(W->Prop)->Prop):Prop:=match lK a b with|true=>(match a.info? b with|some i=>(match Nat.beq (J (lJ a 20 b)) i.size with|true=>tJ e c 0 (lJ a 20 b) λg=>f (.agg g.toArray) (λd=>R7 d c 0 g)|false=>False)|none=>False)|false=>match a.underlying b with|some _=>(match lJ a 20 b with|[s]=>s.load e c λx=>f (s.val x) (λd=>ah d c=Z (s.val x))|_=>False)|none=>False
def qU(b:Q1)(c:Oper)(d:Env)(e:W)(f:J0->(W->Prop)->Prop):Prop:=match c.op with|.load t x=>(rd d x λv=>match v with|.pointer p=>At p λa=>loadT b t e a f|_=>False)|_=>False
theorem Zl{i:Nat}:R7 a a4 i (u::b3)↔ah a (a4.add i)=Z u/\R7 a a4 (i+1) b3:=by grind[R7]
theorem Zn:∀{l:List Sc}{i:Nat}{K:List J0->Prop},tJ a a4 i l K->∃c,J c=J l/\R7 a a4 i c/\K c|[],_,_,b=>⟨[],rfl,trivial,b⟩|s::l,i,K,b=>by obtain⟨x,d,b⟩:=Vy b;obtain⟨c,e,f,b⟩:=Zn b;grind[Zl]
theorem run_loadCellsFrom{P:Q1}:∀{c:List J0}{i:Nat}{e:Array J0},R7 a a4 i c->(loadCellsFrom a4 i (J c) e).run P (d.at a b)=.ok (e++c.toArray) (d.at a b)|[],_,e,_=>by simp[loadCellsFrom]|v::c,i,e,f=>by obtain⟨g,j⟩:=Zl.1 f;have k:(load (a4.add i)).run P (d.at a b)=.ok v (d.at a b):=by{have l:(d.at a b).cell? (a4.add i)=Z v:=g;simp[load,Sem.run,l]};simp only[Bk,loadCellsFrom,Sem.run_bind,k,Result.andThen_ok,run_loadCellsFrom (P:=P) j];simp
theorem AJV(b:∃a,M.underlying y=Z a):(isAgg y).run M bc=.ok (lK M y) bc:=by obtain⟨a,hd⟩:=b;unfold isAgg lK;rw[hd];cases a<;>simp[CG hd]
theorem AEL{A:ai}{i:J0->(W->Prop)->Prop}(b:loadT M y a a4 i):∃v st,(∀c,st c->∀n,(loadVar y a4).run M (A.at c n)=.ok v (A.at c n))/\st a/\i v st:=by unfold loadT at b;cases d:lK M y with|true=>rw[d]at b;simp[]at b;have f:∃e,M.underlying y=Z e:=by{cases f:M.underlying y with|none=>simp[lK,f]at d|some e=>exact⟨e,rfl⟩};split at b;{rename_i q j;split at b;{rename_i k;have⟨r,l,m,b⟩:=Zn b;refine⟨_,_,λc g n=>?_,m,b⟩;simp[loadVar,Sem.run_bind,AJV f,d,Result.andThen_ok,AT,run_sizeOf j];rw[<-N5 k,<-l];simp only[loadCells,run_loadCellsFrom g,Result.andThen_ok];simp};exact b.elim};exact b.elim|false=>rw[d]at b;simp[]at b;split at b;{rename_i e hd;split at b;{rename_i s _;have⟨x,o,b⟩:=Vy b;refine⟨_,_,λc g n=>?_,o,b⟩;have p:(A.at c n).cell? a4=Z (s.val x):=g;simp[loadVar,AJV ⟨e,hd⟩,d,load,Sem.run,p]};exact b.elim};exact b.elim
theorem AGs{A:ai}(i:Fits f bf bw){g:J0->(W->Prop)->Prop}(c:qU M ca bw a g):∃v st,(∀d,st d->jG M A ca bf.eval v d)/\st a/\g v st:=by unfold qU at c;split at c;{rename_i t x j;have c:=Bz i c;split at c;{rename_i p d;obtain⟨b,rfl,c⟩:=Vi c;obtain⟨v,st,l,k,c⟩:=AEL (A:=A) c;refine⟨v,st,λm q n=>?_,k,c⟩;simp only[execOp,j,d];refine lQ ?_;simp_all[Instr.loadAt,Instr.sureAddr,Sem.run_bind,Sem.run_pure,Result.andThen_ok]};exact c.elim};exact c.elim
abbrev Kt:=Act->W->List (Nat×(W->Prop))->Prop
def HZ(f:Q1)(c:ai)(j:Array Oper)(k:Oper->Bool)(l:Nat->Nat->Bool)(i:Nat)(g:Kt):Kt:=λa d e=>match j[i]? with|none=>False|some b=>if Region.wanted b (yielded j a.tmps)=Y then if k b=Y then∃v,jG f c b a.eval v d/\g (a.put b.dst v) d ((i,jG f c b a.eval v)::e)else∀n,EV f b a.eval (c.at d n) λv m=>∃h o,m=c.at h o/\(∀p∈e,un l i p.1=Y->p.2 h)/\g (a.put b.dst v) h e else g (a.put b.dst undef) d e
def pG(b:Kt):Prop:=∀a c d e,b a c d->(∀p∈e,p∈d)->b a c e
variable{fl:Kt}
theorem HZ.mono{i:Nat}{f:Kt}(j:∀bf a c,fl bf a c->f bf a c){c:List (Nat×(W->Prop))}(b:HZ M d b8 cu cf i fl bf a c):HZ M d b8 cu cf i f bf a c:=by unfold HZ at b⊢;cases g:b8[i]? with|none=>rw[g]at b;exact b|some l=>rw[g]at b;simp only at b⊢;split;{rename_i e;rw[A1 e]at b;split;{grind};rename_i k;rw[A0 k]at b;intro n;refine(b n).mono ?_;grind};rename_i e;rw[A0 e]at b;exact j _ _ _ b
theorem ABC{i:Nat}(c:pG fl):pG (HZ M d b8 cu cf i fl):=by intro a s t u b e;unfold HZ at b⊢;cases j:b8[i]? with|none=>rw[j]at b;exact b|some w=>rw[j]at b;simp only at b⊢;split;{rename_i f;rw[A1 f]at b;split;{rename_i g;rw[A1 g]at b;obtain⟨v,l,h⟩:=b;refine⟨v,l,c _ _ _ _ h (λp k=>?_)⟩;grind};rename_i g;rw[A0 g]at b;intro n;refine(b n).mono ?_;rintro v x⟨m,o,q,r,h⟩;exact⟨m,o,q,λp k=>r p (e p k),c _ _ _ _ h e⟩};rename_i f;rw[A0 f]at b;exact c _ _ _ _ b e
theorem HZ.swap{i:Nat}{e:Oper}(hi:b8[i]?=Z ca)(g:b8[b]?=Z e)(F:ca.apart b8 e=Y)(H:Pt ca)(I:Pt e)(aj:un cf i b=Y)(m:cu e=Y)(R:pG fl){r:List (Nat×(W->Prop))}(c:HZ M d b8 cu cf b (HZ M d b8 cu cf i fl) bf a r):HZ M d b8 cu cf i (HZ M d b8 cu cf b fl) bf a r:=by
 obtain⟨s,S,t⟩:=Oper.apart_spec F;have w:=λu=>execOp_put ca H bf e.dst u t;have ak:=λu=>execOp_put e I bf ca.dst u s;have x:=λu=>wanted_put ca bf e.dst u t;have o:∀u,Region.wanted e (yielded b8 (bf.put ca.dst u).tmps)=Region.wanted e (yielded b8 bf.tmps):=λu=>wanted_put e bf ca.dst u s;have y:∀u,jG M d ca (bf.put e.dst u).eval=jG M d ca bf.eval:=λu=>by grind[jG]
 have q:∀u,jG M d e (bf.put ca.dst u).eval=jG M d e bf.eval:=λu=>by grind[jG]
 have z:∀v u,(bf.put ca.dst v).put e.dst u=(bf.put e.dst u).put ca.dst v:=λv u=>Act.put_comm bf v u S;unfold HZ at c⊢;rw[g]at c;rw[hi];simp only at c⊢;by_cases f:Region.wanted e (yielded b8 bf.tmps)=Y;{rw[A1 f]at c;rw[A1 m]at c;obtain⟨X,Q,c⟩:=c;rw[hi]at c;simp only[x,y]at c;by_cases k:Region.wanted ca (yielded b8 bf.tmps)=Y;{rw[A1 k]at c⊢;by_cases l:cu ca=Y;{rw[A1 l]at c⊢;obtain⟨B,ae,c⟩:=c;refine⟨B,ae,?_⟩;rw[g];simp only[o,q];rw[A1 f,A1 m];refine⟨X,Q,?_⟩;rw[z];exact R _ _ _ _ c λp C=>by grind};rw[A0 l]at c⊢;intro n;have:=c n;unfold EV at this;rw[w]at this;refine EV.mono this ?_;rintro B al⟨af,ag,ah,C,c⟩;refine⟨af,ag,ah,λp ai=>C p (CT _ ai),?_⟩;rw[g];simp only[o,q];rw[A1 f,A1 m];grind[List.mem_cons_self]};rw[A0 k]at c⊢;rw[g];simp[o,q];rw[A1 f,A1 m];grind};rw[A0 f]at c;rw[hi]at c;simp[x,y]at c;by_cases k:Region.wanted ca (yielded b8 bf.tmps)=Y;{rw[A1 k]at c⊢;by_cases l:cu ca=Y;{rw[A1 l]at c⊢;simp_all};rw[A0 l]at c⊢;intro n;have:=c n;unfold EV at this⊢;rw[w]at this;refine NV ?_ this;simp_all};rw[A0 k]at c⊢;rw[g];simp[o];rw[A0 f,z];exact c
def Ur(a:Nat->Nat->Bool)(b:List Nat)(i:Nat):Bool:=b.all λc=>!a i c
def XL(a:Array Oper)(b:Oper->Bool)(i:Nat):Bool:=match a[i]? with|some c=>b c|none=>U
def nD(b:Array Oper)(c:Oper->Bool)(d:Nat->Nat->Bool)(a:List Nat):Option Nat:=a.find? λi=>XL b c i&&Ur d a i
def FT(e:Q1)(f:ai)(c:Array Oper)(d:Oper->Bool)(b:Nat->Nat->Bool)(h:Act->W->Prop):Nat->List Nat->Kt|_,[]=>λa g _=>h a g|0,_::_=>λ_ _ _=>False|k+1,x::l=>λa g j=>match nD c d b (x::l)with|some i=>HZ e f c d b i (FT e f c d b h k ((x::l).erase i)) a g j|none=>∀i∈x::l,Ur b (x::l) i=Y->HZ e f c d b i (FT e f c d b h k ((x::l).erase i)) a g j
theorem Ya{P:Q1}{A:ai}{ops:Array Oper}{qb:Oper->Bool}{ord:Nat->Nat->Bool}{fF:Act->W->Prop}:∀(k:Nat)(l:List Nat),pG (FT P A ops qb ord fF k l)|_,[]=>by intro a c _ _ b _;unfold FT at b⊢;exact b|0,_::_=>by intro a c _ _ b _;unfold FT at b;exact b.elim|k+1,x::l=>by intro a c g h b d;unfold FT at b⊢;split;{rename_i i hi;rw[hi]at b;exact ABC (Ya (P:=P) (A:=A) (ops:=ops) (qb:=qb) (ord:=ord) (fF:=fF) k _) _ _ _ _ b d};rename_i hi;rw[hi]at b;exactλi e f=>ABC (Ya (P:=P) (A:=A) (ops:=ops) (qb:=qb) (ord:=ord) (fF:=fF) k _) _ _ _ _ (b i e f) d
def rJ(a:Array Oper)(g:Oper->Bool)(e:Nat->Nat->Bool):Bool:=(a.toList.all λh=>NL h)&&(List.range a.size).all λi=>match a[i]? with|none=>U|some d=>(d.after.toList.all λb=>!Region.binds .any b||decide (b.on<i))&&(List.range a.size).all λc=>match a[c]? with|none=>U|some f=>if decide (c<i)then if e i c then d.after.toList.any λb=>Region.binds .any b&&(b.on==c||(decide (c<b.on)&&e b.on c))else(!(g d||g f))||(d.apart a f&&f.apart a d)else !e i c
structure pH (ops:Array Oper) (qb:Oper->Bool) (ord:Nat->Nat->Bool):Prop where
 nd: ∀(i:Nat) (o:Oper),ops[i]? =Z o->NL o=Y
 back: ∀(i:Nat) (o:Oper),ops[i]? =Z o-> ∀e∈o.after,Region.binds .any e=Y->e.on<i
 low: ∀i j,i<ops.size->j<ops.size->ord i j=Y->j<i
 pair: ∀(i j:Nat) (oi oj:Oper),ops[i]? =Z oi->ops[j]? =Z oj->j<i->
   (ord i j=Y/\ ∃e∈oi.after,Region.binds .any e=Y/\(e.on=j\/(j<e.on/\ord e.on j=Y)))\/
   (ord i j=U/\(qb oi=Y\/qb oj=Y->oi.apart ops oj=Y/\oj.apart ops oi=Y))
theorem ALt(a:rJ b8 cu cf=Y):pH b8 cu cf:=by unfold rJ at a;simp only[As,DP,HI]at a;obtain⟨d,g⟩:=a;refine⟨λi b c=>d b (by grind),λi b c h j k=>?_,λi e hi f c=>?_,λi e l m hi f n=>?_⟩;{grind};{grind};grind
theorem rK{i:Nat}(a:Ur cf b0 i=Y)(c:b∈b0):cf i b=false:=by simp_all[Ur,DP,GP]
theorem VC{i:Nat}(a:Ur cf b0 i=Y):Ur cf (b0.erase b) i=true:=by grind[Ur,List.all_eq_true,List.mem_of_mem_erase]
theorem Vs(a:nD b8 cu cf b0=Z b):b∈b0/\XL b8 cu b=Y/\Ur cf b0 b=true:=by unfold nD at a;grind
theorem AOm(a:nD b8 cu cf b0=V)(c:b∈b0)(d:XL b8 cu b=Y):Ur cf b0 b=false:=by simp_all[nD,Hi,DB]
theorem AFL{i:Nat}(b:XL b8 cu i=Y):∃a,b8[i]?=Z a/\cu a=true:=by unfold XL at b;grind
theorem pH.swap(g:pH b8 cu cf){i:Nat}(s:i≠b)(hi:i<b8.size)(t:XL b8 cu b=Y)(u:cf i b=U)(v:cf b i=U)(m:pG fl){j:List (Nat×(W->Prop))}:(HZ M d b8 cu cf b (HZ M d b8 cu cf i fl) bf a j->HZ M d b8 cu cf i (HZ M d b8 cu cf b fl) bf a j)/\(XL b8 cu i=Y->HZ M d b8 cu cf i (HZ M d b8 cu cf b fl) bf a j->HZ M d b8 cu cf b (HZ M d b8 cu cf i fl) bf a j):=by
 obtain⟨k,e,n⟩:=AFL t;have f:=HE hi;have o:=yT (g.nd _ _ f);have p:=yT (g.nd _ _ e);have r:(b8[i]).apart b8 k=Y/\k.apart b8 (b8[i])=true:=by rcases RT s with l|l;{rcases g.pair b i k _ e f l with⟨c,_⟩|⟨_,c⟩;{rw[v]at c;cases c};simp_all};rcases g.pair i b _ k f e l with⟨c,_⟩|⟨_,c⟩;{rw[u]at c;cases c};exact c (.inr n)
 have w:un cf i b=true:=by grind[un,Nat.lt_or_gt_of_ne,Nat.max_eq_right,Nat.min_eq_left,Nat.max_eq_left,Nat.min_eq_right]
 have x:un cf b i=true:=by unfold un at*;grind
 exact⟨HZ.swap f e r.1 o p w n m,λy=>HZ.swap e f r.2 p o x (by grind[AFL]) m⟩
theorem ARX{P:Q1}{A:ai}{fF:Act->W->Prop}(B:pH b8 cu cf):∀(g:Nat)(l:List Nat),J l=g+1->(∀i∈l,i<b8.size)->∀(i:Nat),i∈l->Ur cf l i=Y->(∀a c d,FT P A b8 cu cf fF (g+1) l a c d->HZ P A b8 cu cf i (FT P A b8 cu cf fF g (l.erase i)) a c d)/\(XL b8 cu i=Y->∀a c d,HZ P A b8 cu cf i (FT P A b8 cu cf fF g (l.erase i)) a c d->FT P A b8 cu cf fF (g+1) l a c d):=by intro g;induction g with|zero=>intro l w q i hi k;obtain⟨x,rfl⟩:=TX.1 w;have:i=x:=by{simpa using hi};subst this;constructor;{intro a c d e;unfold FT at e;split at e;{rename_i b h;have:=(Vs h).1;have:b=i:=by{simpa using this};subst this;exact e};exact e i (by simp) k};intro h a c d e;unfold FT;split;{rename_i b y;have:=(Vs y).1;have:b=i:=by{simpa using this};subst this;exact e};intro C F _;have:C=i:=by{simpa using F};subst this;exact e|succ g r=>intro l w q i hi k;obtain⟨x,f,rfl⟩:∃x f,l=x::f:=by{cases l with|nil=>cases w|cons x f=>exact⟨x,f,rfl⟩};have s:∀{b},b∈x::f->J ((x::f).erase b)=g+1:=λh=>by{simp_all};have t:∀{b},∀i∈(x::f).erase b,i<b8.size:=λi hi=>q i (A0Z hi);have u:∀{p b},p∈x::f->p≠b->p∈(x::f).erase b:=λH I=>(List.mem_erase_of_ne I).2 H;constructor;{intro a c d e;unfold FT at e;split at e;{rename_i b h;obtain⟨m,v,n⟩:=Vs h;by_cases j:b=i;{subst j;exact e};have z:=HZ.mono (λa c d=>(r ((x::f).erase b) (s m) t i (u hi (Ne.symm j)) (VC k)).1 a c d) e;have o:=(B.swap (Ne.symm j) (q i hi) v (rK k m) (rK n hi) (Ya _ _)).1 z;rw[List.erase_comm]at o;exact HZ.mono (λa c d=>(r ((x::f).erase i) (s hi) t b (u m j) (VC n)).2 v a c d) o};exact e i hi k};intro h a c d e;unfold FT;split;{rename_i b y;obtain⟨m,v,n⟩:=Vs y;by_cases j:b=i;{subst j;exact e};have z:=HZ.mono (λa c d=>(r ((x::f).erase i) (s hi) t b (u m j) (VC n)).1 a c d) e;have o:=(B.swap (Ne.symm j) (q i hi) v (rK k m) (rK n hi) (Ya _ _)).2 h z;rw[List.erase_comm]at o;exact HZ.mono (λa c d=>(r ((x::f).erase b) (s m) t i (u hi (Ne.symm j)) (VC k)).2 h a c d) o};rename_i K;have:=AOm K hi h;rw[k]at this;cases this
theorem AN2{i:Nat}{a:Array Bool}(hi:i<b)(c:a.size=b)(d:a.getD i U=U):left b (a.setIfInBounds i Y)=(left b a).erase i:=by grind[AOz,List.erase_append_right]
theorem FT.any{P:Q1}{A:ai}{fF:Act->W->Prop}{m:Nat}(Q:∀a d n,fF a d->c4 .normal a (A.at d n))(h:pH b8 cu cf):∀(fuel:Nat)(listed:Array Bool)(a:Act)(d:W)(aM:List (Nat×(W->Prop))),J (left b8.size listed)=fuel->listed.size=b8.size->iI cf listed->FT P A b8 cu cf fF fuel (left b8.size listed) a d aM->∀n,wpAnyIn (Fw b2) m P .any b8 c4 fuel listed a (A.at d n):=by intro fuel;induction fuel with|zero=>intro listed a d aM w x _ k n;have l:=HD w;refine⟨?_,?_⟩;{simp_all[Region.ready,mem_ready,IH,left,mem_left]};rw[l]at k;unfold FT at k;exact Q _ _ _ k|succ fuel y=>intro listed a d aM w x K k n;refine⟨λae=>?_,λi hi=>?_⟩;{exfalso;have af:∀f i,i<f->i∈left b8.size listed->False:=by{intro f;induction f with|zero=>intro i hi;omega|succ f ag=>intro i _ hi;obtain⟨o,ah⟩:=mem_left.1 hi;have s:=HE o;by_cases p:∀e∈b8[i].after,Region.binds .any e=Y->listed.getD e.on U=Y;{have:i∈Region.ready .any b8 listed:=mem_ready.2 ⟨by simp_all,_,s,p⟩;rw[ae]at this;cases this};simp only[Classical.not_forall]at p;obtain⟨e,l,g,z⟩:=p;have aA:=h.back i _ s e l g;exact ag e.on (by omega) (mem_left.2 ⟨by omega,by simpa using z⟩)};have z:left b8.size listed≠[]:=by{grind};obtain⟨i,hi⟩:=List.exists_mem_of_ne_nil _ z;exact af (i+1) i (by omega) hi};obtain⟨ah,t,j,p⟩:=mem_ready.1 hi;have o:i<b8.size:=(IH.1 j).1;have R:listed.getD i U=false:=by{simp_all};have aj:∀b,b<i->listed.getD b U=U->cf i b=false:=by{intro b q u;have ak:b8[b]?=Z b8[b]:=HE (by omega);rcases h.pair i b t _ j ak q with⟨_,e,l,g,B⟩|⟨B,_⟩;{exfalso;have S:=p e l g;rcases B with rfl|⟨al,O⟩;{rw[S]at u;cases u};have:=K e.on b S al O;rw[this]at u;cases u};exact B};have an:i∈left b8.size listed:=mem_left.2 ⟨o,R⟩;have ao:Ur cf (left b8.size listed) i=true:=by{unfold Ur;simp only[DP,GP];intro b q;obtain⟨ap,T⟩:=mem_left.1 q;cases g:cf i b with|false=>rfl|true=>rw[aj b (h.low i b o ap g) T]at g;cases g};have c:=(ARX (fF:=fF) (P:=P) (A:=A) h fuel _ w (λb q=>(mem_left.1 q).1) i an ao).1 a d aM k;have C:iI cf (listed.setIfInBounds i Y):=by{intro f b X ar s;by_cases au:b=i;{simp_all};rw[getD_set_ne U (Ne.symm au)];by_cases av:f=i;{grind};rw[getD_set_ne U (Ne.symm av)]at X;exact K f b X ar s};have aw:=AN2 o x R;have F:J (left b8.size (listed.setIfInBounds i Y))=fuel:=by{simp_all};have H:(listed.setIfInBounds i Y).size=b8.size:=by{simp[x]};rw[<-aw]at c;unfold HZ at c;rw[j]at c;unfold wpOpIn;simp only[j];split;{rename_i I;simp only[I,AT]at c;by_cases M:cu t=Y;{rw[A1 M]at c;obtain⟨v,ax,c⟩:=c;refine EV.wpIn (h.nd i t j) ?_;unfold EV;rw[ax n];exact y _ _ _ _ F H C c n};rw[A0 M]at c;refine EV.wpIn (h.nd i t j) ((c n).mono ?_);rintro v aB⟨aC,ay,rfl,_,az⟩;exact y _ _ _ _ F H C az ay};rename_i I;simp only at c;rw[A0 I]at c;exact⟨λ_ _=>trivial,y _ _ _ _ F H C c n⟩
theorem ADU{fF:Act->W->Prop}{m:Nat}(e:∀bf a f,fF bf a->c4 .normal bf (d.at a f))(g:M.follows .mixedOrders=Y)(i:rJ b8 cu cf=Y)(j:FT M d b8 cu cf fF b8.size (List.range b8.size) bf a []):(Code.region b b8 Y).wpIn (Fw b2) m M c4 bf (d.at a f):=by refine wpIn_region_any g ?_;have c:=ATy b8.size;refine FT.any (aM:=[]) e (ALt i) _ _ _ a (by rw[c];simp) (by simp) ?_ (by rw[c];exact j) (f+1);intro k o l;exfalso;by_cases a:k<b8.size<;>simp[a]at l
inductive Cls where
 |pure|load|fX
def cls(a:Q1)(d:Oper):Cls:=match d.op with|.load _ _=>.load|.binOp op t x e _=>(match YD a op t x e with|.no=>.fX|_=>.pure)|.convert s b _=>(match a.underlying s with|some (.int _)=>(match a.underlying b with|some (.int _)=>.pure|_=>.fX)|some .string=>(match a.underlying b with|some .string=>.pure|_=>.fX)|_=>.fX)|.call c=>(match c.callee with|.builtin .min=>(match c.argTypes[0]? with|some t=>(match a.underlying t with|some (.float _)=>.fX|_=>.pure)|none=>.pure)|.builtin .max=>(match c.argTypes[0]? with|some t=>(match a.underlying t with|some (.float _)=>.fX|_=>.pure)|none=>.pure)|.builtin .cap=>.pure|.builtin .len=>(match c.argTypes[0]? with|some t=>(match a.underlying t with|some (.map _ _)=>.fX|_=>.pure)|none=>.fX)|_=>.fX)|.move _|.assign _|.pick ..|.build ..|.nilCheck _|.unOp ..|.makeInterface ..|.makeFunc ..|.fieldAddr ..|.field ..|.indexAddr ..|.index ..|.slice ..|.extract ..=>.pure|_=>.fX
def j8(a:ai)(c:Q1)(m:Sem Unit)(d:W)(e:W->Prop):Prop:=∀n,∃b f,m.run c (a.at d n)=.ok () (a.at b f)/\e b
def Py(a:Env)(b:Array Operand):Array J0:=(b.toList.map (ρof a)).toArray
def AXK(a:Q1)(b:Q8):Bool:=match a.funcs[b]? with|some fn=>(match fn.body with|none=>Y|some _=>U)|none=>U
def uW(a:ai)(c:Q1)(d:Q8)(e:Array J0)(f:W)(g:A41):Prop:=∀n,∃v b h,(callFunc d e).run c (a.at f n)=.ok (.value v) (a.at b h)/\g v b
def uX(h:ai)(a:Q1)(e:Oper)(c:Call)(g:Env)(i:W)(j:A41):Prop:=match c.callee with|.value (.func f)=>known g c.args.toList (match AXK a f with|true=>uW h a f (Py g c.args) i λv d=>WL a e.type v λv=>j v d|false=>UM a (callFunc f (Py g c.args)) λx=>match x with|.enter k l=>AJ h a k l i λv d=>WL a e.type v λv=>j v d|_=>False)|.value x=>rd g x λfv=>known g c.args.toList (JF h a fv (Py g c.args) i λv d=>WL a e.type v λv=>j v d)|.builtin b=>known g c.args.toList (match b with|.append=>Ew h a (Builtin.append_ c.argTypes e.type (Py g c.args)) i λv d=>WL a e.type v λv=>j v d|.copy=>Ew h a (Builtin.copy_ c.argTypes e.type (Py g c.args)) i λv d=>WL a e.type v λv=>j v d|.delete=>Ew h a (Builtin.delete_ c.argTypes e.type (Py g c.args)) i λv d=>WL a e.type v λv=>j v d|.clear=>Ew h a (Builtin.clear_ c.argTypes e.type (Py g c.args)) i λv d=>WL a e.type v λv=>j v d|.len=>Ew h a (Builtin.len_ c.argTypes e.type (Py g c.args)) i λv d=>WL a e.type v λv=>j v d|.min=>Ew h a (Builtin.min_ c.argTypes e.type (Py g c.args)) i λv d=>WL a e.type v λv=>j v d|.max=>Ew h a (Builtin.max_ c.argTypes e.type (Py g c.args)) i λv d=>WL a e.type v λv=>j v d|_=>False)|.invoke x name=>rd g x λm=>known g c.args.toList (ze h a m name (Py g c.args) i λv d=>WL a e.type v λv=>j v d)
def Yg(a:Q6):W->Nat->List J0->(W->Prop)->Prop|h,_,[],K=>K h|h,i,v::b,K=>qy (QT v) (aj h (a.add i) v λc=>Yg a c (i+1) b K)
def uY(b:Q1)(c:Q7)(e f:J0)(g:W)(h:W->Prop):Prop:=match e with|.pointer p=>(At p λa=>match b.info? c with|some i=>(oM b c f λd=>match Nat.beq d.size i.size with|true=>Yg a g 0 d.toList h|false=>False)|none=>False)|_=>False
def AaR(c:Q1)(a:Q7)(d:J0)(e:W)(f:A41):Prop:=oM c a d λg=>bW e (.cells g a) λb h=>f (.pointer (Z ⟨b,0,V⟩)) h
def rowOf(d:Q1)(e:Q7)(b:Nat)(f:List (Nat×Array J0)):Option (Array J0):=match d.info? e with|some a=>(match a.zero with|some c=>(match Nat.ble (b*a.size) (2^24)with|true=>mV (λi=>Z (i*a.size,a.size)) ((Array.range (b*a.size)).map (c.cells[· %c.cells.size]!)) f|false=>V)|none=>V)|none=>V
def AEK(a:Q1)(d:Q7)(c:Nat)(f:Array (Nat×Operand))(g:Env)(h:W)(i:A41):Prop:=match a.underlying d with|some (.slice e)=>(oN a d g f.toList λl=>match rowOf a e c l with|some cells=>bW h (.cells cells e) λb j=>i (.slice (Z ⟨b,0,V⟩) c c) j|none=>False)|_=>False
def VY(b:List Oper)(c:Option Tmp)(a:Nat):Option Q7:=match c with|none=>V|some t=>match b with|[]=>V|o::r=>match o.op with|.extract (.tmp t') d=>(match Nat.beq t' t with|true=>(match Nat.beq d a with|true=>Z o.type|false=>VY r (Z t) a)|false=>VY r (Z t) a)|_=>VY r (Z t) a
def lU(d:Q1)(a:Option Q7)(b:J0)(c:J0->Prop):Prop:=match a with|none=>c b|some a=>WL d a b c
theorem P6{a:Option Q7}(b:lU M a u cc):cc u:=by cases a with|none=>exact b|some a=>exact QA b
def na(k:ai)(a:Q1)(n:Array Oper)(h:Oper)(d:Env)(j:W)(g:A41):Prop:=match h.op with|.call c=>uX k a h c d j g|.makeSlice t l c=>rd d l λl=>rd d c λc=>Ew k a (Instr.makeSlice t l c) j λv e=>WL a h.type v λv=>g v e|.lookup t x i ok=>rd d x λx=>rd d i λi=>Ew k a (Instr.lookup t x i ok) j λv e=>WL a h.type v λv=>g v e|.mapUpdate t m f x=>rd d m λm=>rd d f λf=>rd d x λx=>j8 k a (Instr.mapUpdate t m f x) j λe=>g undef e|.mapEntry t m f=>rd d m λm=>rd d f λf=>Ew k a (Instr.mapEntry t m f) j λv e=>∃f u:J0,v=.tuple #[f,u]/\lU a (VY n.toList h.dst 0) f λf=>lU a (VY n.toList h.dst 1) u λu=>g (.tuple #[f,u]) e|.entryStore t m s x=>rd d m λm=>rd d s λs=>rd d x λx=>j8 k a (Instr.entryStore t m s x) j λe=>g undef e|.convert s p x=>rd d x λx=>Ew k a (convert s p x) j λv e=>WL a h.type v λv=>g v e|.binOp op t x o _=>rd d x λv=>rd d o λu=>Ew k a (do eqGuard op t x o v u;binOp op t v u) j λv e=>WL a h.type v λv=>g v e|.store t x o=>rd d x λq=>rd d o λv=>uY a t q v j λe=>g undef e|.box t x=>rd d x λv=>AaR a t v j g|.buildSlice t len r=>AEK a t len r d j g|.range t x=>rd d x λx=>Ew k a (Instr.range t x) j λv e=>∃b:Nat,v=.pointer (Z ⟨b,0,V⟩)/\g (.pointer (Z ⟨b,0,V⟩)) e|.next x s=>rd d x λx=>Ew k a (Instr.next x s h.type) j λv e=>(v=.tuple #[.bool U]/\g (.tuple #[.bool U]) e)\/(∃f u:J0,v=.tuple #[.bool Y,f,u]/\lU a (VY n.toList h.dst 1) f λf=>lU a (VY n.toList h.dst 2) u λu=>g (.tuple #[.bool Y,f,u]) e)|.entry x=>rd d x λx=>Ew k a (Instr.entry x) j λv e=>∃f u:J0,v=.tuple #[f,u]/\lU a (VY n.toList h.dst 0) f λf=>lU a (VY n.toList h.dst 1) u λu=>g (.tuple #[f,u]) e|.alloc ..|.makeMap ..=>known d h.op.operands.toList (Sem.vc a (execOp (ρof d) h) j λx e=>match x with|.value v=>g v e|.skip=>g undef e|_=>False)|_=>False
theorem YO(d:Fits b bf bw){c:Array Operand}(f:∀x∈c.toList,ρof bw x=bf.eval x):Py bw c=c.map bf.eval:=by grind[Py,List.map_congr_left,Array.toList_inj,Array.toList_map]
theorem pa(f:execOp e0 ca=do pure (.value (<-ew)))(g:Ew d M ew a λv b=>WL M ca.type v λv=>e v b):∀n,EV M ca e0 (d.at a n) λv i=>∃b c,i=d.at b c/\e v b:=by intro n;obtain⟨v,b,c,j,hd⟩:=g n;unfold EV;rw[f,lQ j];exact⟨b,c,rfl,QA hd⟩
theorem qV{f:A41}(g:execOp e0 ca=do pure (.value (<-ew)))(i:Ew d M ew a f)(j:∀v b,f v b->e v b):∀n,EV M ca e0 (d.at a n) λv k=>∃b c,k=d.at b c/\e v b:=by intro n;obtain⟨v,b,c,l,hd⟩:=i n;unfold EV;rw[g,lQ l];exact⟨b,c,rfl,j _ _ hd⟩
theorem uZ{f:Sem Unit}(g:execOp e0 ca=do f;pure .skip)(i:j8 d M f a λb=>e undef b):∀n,EV M ca e0 (d.at a n) λv j=>∃b c,j=d.at b c/\e v b:=by intro n;obtain⟨b,c,k,hd⟩:=i n;unfold EV;rw[g,AZt k];exact⟨b,c,rfl,hd⟩
theorem ANr(j:Fits o bf bw){l:Call}(r:ca.op=.call l)(c:uX d M ca l bw a e):∀n,EV M ca bf.eval (d.at a n) λv q=>∃g i,q=d.at g i/\e v g:=by
 have w:∀{fv:J0}{s:A41}{x:Operand},l.callee=.value x->bf.eval x=fv->JF d M fv (l.args.map bf.eval) a s->∀n,EV M ca bf.eval (d.at a n) λv q=>∃g i,q=d.at g i/\s v g:=by intro fv s x k t y n;have:=y n;unfold EV;have m:execOp bf.eval ca=(do let u<-Deferred.ofValue fv (l.args.map bf.eval);invoke u.target u.args):=by{simp[execOp,r,resolve,k,t]};rw[m];exact this
 unfold uX at c;split at c;{rename_i f k;obtain⟨p,c⟩:=LM j c;rw[YO j p]at c;split at c;{intro n;obtain⟨v,g,i,F,hd⟩:=c n;have m:(execOp bf.eval ca).run M (d.at a n)=.ok (.value v) (d.at g i):=by{simp[execOp,r,resolve,k,Act.eval,Deferred.ofValue];simp_all[Sem.run_bind,Sem.run_pure,Result.andThen_ok,invoke]};unfold EV;rw[m];exact⟨g,i,rfl,QA hd⟩};have⟨x,t,c⟩:=QS c;split at c;{rename_i z B;intro n;have m:(execOp bf.eval ca).run M (d.at a n)=.ok (.enter z B) (d.at a n):=by{simp[execOp,r,resolve,k,Act.eval,Deferred.ofValue];simp_all[Sem.run_bind,Sem.run_pure,Result.andThen_ok,invoke]};unfold EV;rw[m];refine Calls.mono (c n) ?_;rintro H q⟨v,rfl,g,i,rfl,hd⟩;exact⟨v,rfl,g,i,rfl,QA hd⟩};exact c.elim};{rename_i x k;have c:=Bz j c;obtain⟨p,c⟩:=LM j c;rw[YO j p]at c;intro n;refine EV.mono (w k rfl c n) ?_;rintro v q⟨g,i,rfl,hd⟩;exact⟨g,i,rfl,QA hd⟩};{rename_i b k;have⟨p,c⟩:=LM j c;rw[YO j p]at c;split at c;all_goals first|exact pa (by simp[execOp,r,resolve,k];rfl) c|exact c.elim};rename_i x name k;have c:=Bz j c;obtain⟨p,c⟩:=LM j c;rw[YO j p]at c;intro n;have m:execOp bf.eval ca=(callMethod (bf.eval x) name (l.args.map bf.eval)):=by simp[execOp,r,resolve,k];have C:(#[bf.eval x]++Array.map bf.eval l.args)[0]?=Z (bf.eval x):=by{grind};simp[invoke];rw[C];rw[show l.args.size=(Array.map bf.eval l.args).size by simp,Array.extract_size]
 unfold EV;rw[m];refine NV ?_ (c n);rintro v q⟨g,i,rfl,hd⟩;exact⟨g,i,rfl,QA hd⟩
theorem ABm{P:Q1}{A:ai}:∀{l:List J0}{b:W}{i:Nat}{K:W->Prop},Yg a4 b i l K->∀n,∃d,(storeCells a4 l i).run P (A.at b n)=.ok () (A.at d n)/\K d|[],b,i,K,c,n=>⟨b,rfl,c⟩|v::o,b,i,K,c,n=>by unfold Yg at c;cases e:QT v with|false=>rw[e]at c;exact c.elim|true=>rw[e]at c;obtain⟨⟨u,f⟩,g,h⟩:=c;obtain⟨d,j,k⟩:=ABm (P:=P) h n;refine⟨d,?_,k⟩;simp[storeCells,Sem.run_bind];have m:(store (a4.add i) v).run P (A.at b n)=.ok () (A.at (cR b (a4.add i) v) n):=zi e f g;rw[m];exact j
theorem AMI{P:Q1}{A:ai}(b:uY P y u bt k bh):j8 A P (Instr.storeAt y u bt) k bh:=by intro n;unfold uY at b;split at b;{rename_i p;obtain⟨a,rfl,c⟩:=Vi b;split at c;{rename_i j hi;have d:=Ux c;split at d;{rename_i e;obtain⟨f,g,i⟩:=ABm (P:=P) (A:=A) d n;refine⟨f,n,?_,i⟩;simp[Instr.storeAt,Instr.sureAddr,storeVar,run_sizeOf hi,N5 e,g]};exact d.elim};exact c.elim};exact b.elim
def AXY:(Instr.box y u).run M (d.at a b)=.ok (.pointer (Z ⟨a.size,0,V⟩)) (d.at (a.push (.cells u.cells y)) b):=rfl
theorem AWM(m:M.underlying y=Z (.slice be)){g:Array (Nat×J0)}(c:rowOf M be b (g.toList.map λp=>(p.1,p.2.cells))=Z bn):(Instr.buildSlice y b g).run M (d.at a f)=.ok (.slice (Z ⟨a.size,0,V⟩) b b) (d.at (a.push (.cells bn be)) f):=by unfold rowOf at c;split at c;{rename_i e j;split at c;{rename_i o q;split at c;{rename_i k;have k:=A0H k;rw[<-qz]at c;have r:¬(b*e.size>2^24):=by{omega};unfold Instr.buildSlice;simp only[Sem.run_bind,CG m,Result.andThen_ok,run_sizeOf j,A0 r];by_cases l:b*e.size=0;{have s:Instr.fill (λi=>Z (i*e.size,e.size)) ((Array.range (b*e.size)).map (#[][· %(#[]:Array J0).size]!)) g.toList=Z bn:=by{grind};rw[A1 l];simp only[Sem.run_bind,Sem.run_pure,Result.andThen_ok,s];rfl};rw[A0 l];have u:(zeroValue be).run M (d.at a f)=.ok o (d.at a f):=by{simp[zeroValue,zl j,q]};simp[Sem.run_bind,u,Sem.run_pure,Result.andThen_ok,c];rfl};cases c};cases c};cases c
theorem AJZ(k:Fits f bf bw)(g:na d M b8 ca bw a e):∀n,EV M ca bf.eval (d.at a n) λv y=>∃p r,y=d.at p r/\e v p:=by
 have B:Pt ca->known bw ca.op.operands.toList (Sem.vc M (execOp (ρof bw) ca) a λx p=>match x with|.value v=>e v p|.skip=>e undef p|_=>False)->∀n,EV M ca bf.eval (d.at a n) λv y=>∃p r,y=d.at p r/\e v p:=by intro F g n;obtain⟨H,g⟩:=LM k g;obtain⟨x,p,r,C,g⟩:=ATm g n;rw[execOp_congr ca F (λx I=>H x (by simpa using I))]at C;unfold EV;rw[C];split at g;{exact⟨p,r,rfl,g⟩};{exact⟨p,r,rfl,g⟩};exact g.elim
 unfold na at g;split at g;{rename_i c j;exact ANr k j g};{rename_i t l c j;exact pa (by simp[execOp,j]) (Bz k (Bz k g))};{rename_i t x i ok j;exact pa (by simp[execOp,j]) (Bz k (Bz k g))};{rename_i t m w x j;exact uZ (by simp[execOp,j]) (Bz k (Bz k (Bz k g)))};{rename_i t m w j;refine qV (by simp[execOp,j]) (Bz k (Bz k g)) ?_;rintro v p⟨w,u,rfl,a⟩;exact P6 (P6 a)};{rename_i t m s x j;exact uZ (by simp[execOp,j]) (Bz k (Bz k (Bz k g)))};{rename_i s W x j;exact pa (by simp[execOp,j]) (Bz k g)};{rename_i op t x R _ j;exact pa (by simp[execOp,j]) (Bz k (Bz k g))};{rename_i t x R j;exact uZ (by simp[execOp,j]) (AMI (Bz k (Bz k g)))};{rename_i t x j;intro n;unfold EV;simp only[execOp,j];rw[lQ AXY];exact⟨_,_,rfl,Ux (Bz k g)⟩};{rename_i t len Q j;intro n;unfold AEK at g;split at g;{rename_i ae S;have z:=Vj k g;split at z;{rename_i cells q;unfold EV;simp only[execOp,j];rw[lQ (AWM S (by rw[<-q];congr 1;simp))];exact⟨_,_,rfl,z⟩};exact z.elim};exact g.elim};{rename_i t x j;refine qV (by simp[execOp,j]) (Bz k g) ?_;rintro v p⟨b,rfl,a⟩;exact a};{rename_i x s j;refine qV (by simp[execOp,j]) (Bz k g) ?_;rintro v p(⟨rfl,a⟩|⟨w,u,rfl,a⟩);{exact a};exact P6 (P6 a)};{rename_i x j;refine qV (by simp[execOp,j]) (Bz k g) ?_;rintro v p⟨w,u,rfl,a⟩;exact P6 (P6 a)};{rename_i j;exact B (λX b q=>by rw[j]at q;cases q) g};{rename_i j;exact B (λX b q=>by rw[j]at q;cases q) g};exact g.elim
def vd:List Prop->Prop->Prop|[],K=>K|p::l,K=>p/\vd l K
theorem AJX:∀{l:List Prop}{K:Prop},vd l K->(∀p∈l,p)/\K|[],_,a=>⟨λ_ b=>(by cases b),a⟩|p::l,_,⟨b,a⟩=>by obtain⟨c,d⟩:=AJX a;grind
def AWE(a:Nat->Nat->Bool)(i:Nat)(b:W)(c:List (Nat×(W->Prop))):List Prop:=(c.filter λp=>un a i p.1).map λp=>p.2 b
def qW(e:Array Oper)(f:Oper)(a:Env)(c d:Env->Prop):Prop:=match f.guard with|none=>c a|some (h,i)=>match e[h]? with|some j=>(match j.dst with|some b=>(match a.get b with|some (.bool g)=>(match i with|true=>cZ g (c (a.set b (.bool Y))) (d (a.set b (.bool U)))|false=>cZ g (d (a.set b (.bool Y))) (c (a.set b (.bool U))))|some _=>d a|none=>False)|none=>False)|none=>False
def Xm(f:ai)(b:Q1)(g:Nat)(d:Array Oper):List Oper->Env->W->(Env->W->Prop)->Prop|[],a,c,e=>e a c|o::rest,a,c,e=>match qv g o.dst with|false=>False|true=>qW d o a (λa=>match cls b o with|.pure=>qA b o a λv=>Xm f b g d rest (a.put o.dst v) c e|.load=>qU b o a c λv _=>Xm f b g d rest (a.put o.dst v) c e|.fX=>na f b d o a c λv h=>Xm f b g d rest (a.put o.dst v) h e) (λa=>Xm f b g d rest (a.put o.dst undef) c e)
theorem AD9(i:Fits b bf bw){n p:Env->Prop}(c:qW b8 ca bw n p):(Region.wanted ca (yielded b8 bf.tmps)=Y/\∃f,Fits b bf f/\n f)\/(Region.wanted ca (yielded b8 bf.tmps)=U/\∃f,Fits b bf f/\p f):=by unfold qW at c;split at c;{grind[Region.wanted]};rename_i q u h;split at c;{rename_i w r;split at c;{rename_i s hd;split at c;{rename_i g k;have t:=i.get s _ k;have d:yielded b8 bf.tmps q=Z g:=by{simp[yielded,r,hd,t]};have j:=i.tt t;split at c;{obtain⟨l,m⟩:=uV c;cases g with|true=>exact .inl ⟨by simp[Region.wanted,h,d],_,j,l rfl⟩|false=>exact .inr ⟨by simp[Region.wanted,h,d],_,j,m rfl⟩};obtain⟨l,m⟩:=uV c;cases g with|true=>exact .inr ⟨by simp[Region.wanted,h,d],_,j,l rfl⟩|false=>exact .inl ⟨by simp[Region.wanted,h,d],_,j,m rfl⟩};{rename_i v x k;refine .inr ⟨?_,bw,i,c⟩;have d:yielded b8 bf.tmps q=none:=by{simp[yielded,r,hd,i.get s _ k,Hb];simp_all};simp[Region.wanted,h,d]};exact c.elim};exact c.elim};exact c.elim
structure Ub (ga:List Nat) (a a':Act):Prop where
 get: ∀t,t∉ga->a'.tmps[t]? =a.tmps[t]?
 ds:a'.defers=a.defers
def Ub.refl(b:List Nat)(a:Act):Ub b a a:=⟨λ_ _=>rfl,rfl⟩
theorem Ub.put(c:Ub b0 bf eb){b:Option Tmp}(e:∀t,b=Z t->t∈b0):Ub b0 bf (eb.put b u):=by cases b with|none=>exact c|some b=>refine⟨λt d=>?_,c.ds⟩;have:b≠t:=λf=>d (f▸e b rfl);simp[Act.put];rw[HK this];exact c.get t d
def dstsOf(a:List Oper):List Nat:=a.filterMap (·.dst)
def APz{a:List Oper}(c:ca∈a)(e:ca.dst=Z b):b∈dstsOf a:=RC.2 ⟨ca,c,e⟩
theorem Zx(a:cls M ca≠.fX):Pt ca:=λd b c=>a (by simp[cls,c])
theorem ABr(a:cls M ca≠.fX):NL ca=true:=by grind[NL,absurd,cls]
theorem AKd(b:na d M b8 ca bw a e):NL ca=true:=by grind[NL,na]
theorem AEF{P:Q1}{A:ai}{r:Option Nat}{m f9:Nat}{ops:Array Oper}:∀(l:List Oper)(h:Env)(f:W)(a:Act)(n:Nat),Xm A P f9 ops l h f eo->Fits f9 a h->(∀p c d g,Fits f9 p c->Ub (dstsOf l) a p->eo c d->c4 .normal p (A.at d g))->wpListIn (Fw r) m P ops c4 l a (A.at f n)|[],h,f,a,n,b,q,s=>s a h f n q (Ub.refl _ _) b|o::rest,h,f,a,n,b,q,s=>by unfold Xm at b;split at b;{exact b.elim};rename_i hd;have next:∀(v:J0)(c:Env)(d:W)(g:Nat),Fits f9 a c->Xm A P f9 ops rest (c.put o.dst v) d eo->wpListIn (Fw r) m P ops c4 rest (a.put o.dst v) (A.at d g):=by{intro v c d g e z;refine AEF (P:=P) (A:=A) (r:=r) (m:=m) (f9:=f9) (ops:=ops) rest _ d _ g z (e.put hd) ?_;intro B C F H I y K;refine s B C F H I ⟨λt i=>?_,y.ds.trans (by cases o.dst<;>rfl)⟩ K;have R:t∉dstsOf rest:=λX=>i (by simp[dstsOf,Hc];split<;>simp_all[dstsOf]);rw[y.get t R];exact(Ub.put (Ub.refl _ a) (λt i=>APz FF i)).get t i};unfold wpListIn;rcases AD9 q b with⟨u,c,e,b⟩|⟨u,c,e,b⟩;{rw[A1 u];split at b;{rename_i j;obtain⟨v,w,b⟩:=AFO e (Zx (by rw[j];intro x;cases x)) b;refine EV.wpIn (ABr (by rw[j];intro x;cases x)) ?_;unfold EV;rw[w];exact next v c f n e b};{rename_i j;obtain⟨v,st,w,S,b⟩:=AGs e b;refine EV.wpIn (ABr (by rw[j];intro x;cases x)) ?_;unfold EV;rw[w f S n];exact next v c f n e b};refine EV.wpIn (AKd b) ((AJZ e b n).mono ?_);rintro v M⟨d,g,rfl,b⟩;exact next v c d g e b};rw[A0 (by rw[u];simp)];grind
def j9(a:Q1)(b:Oper):Bool:=match cls a b with|.fX=>U|_=>Y
abbrev Ke:=Env->W->List (Nat×(W->Prop))->Prop
def qX(j:ai)(e:Q1)(k:Nat)(g:Array Oper)(l:Nat->Nat->Bool)(i:Nat)(f:Ke):Ke:=λa c d=>match g[i]? with|none=>False|some b=>match qv k b.dst with|false=>False|true=>qW g b a (λa=>match cls e b with|.pure=>qA e b a λv=>f (a.put b.dst v) c d|.load=>qU e b a c λv st=>f (a.put b.dst v) c ((i,st)::d)|.fX=>na j e g b a c λv h=>vd (AWE l i h d) (f (a.put b.dst v) h d)) (λa=>f (a.put b.dst undef) c d)
def vg(a:Nat->Prop):List Nat->Prop|[]=>True|[i]=>a i|i::l=>a i/\vg a l
theorem AJA:∀{l:List Nat},vg p l->∀i∈l,p i|[],_,_,a=>by cases a|[j],a,i,hi=>by have:i=j:=by{simpa using hi};subst this;exact a|j::x::l,a,i,hi=>by rcases AN.1 hi with rfl|hi;{exact a.1};exact AJA a.2 i hi
def ng(d:ai)(b:Q1)(e:Nat)(c:Array Oper)(a:Nat->Nat->Bool)(j:Env->W->Prop):Nat->List Nat->Ke|_,[]=>λg h _=>j g h|0,_::_=>λ_ _ _=>False|f+1,x::l=>λg h k=>match nD c (j9 b) a (x::l)with|some i=>qX d b e c a i (ng d b e c a j f ((x::l).erase i)) g h k|none=>vg (λi=>qX d b e c a i (ng d b e c a j f ((x::l).erase i)) g h k) ((x::l).filter (Ur a (x::l)))
def vu(c d:List (Nat×(W->Prop))):Prop:=∀b∈d,(∀a,b.2 a)\/∃p∈c,p.1=b.1/\∀a,p.2 a->b.2 a
theorem ACH{i:Nat}{C:Ke}(u:∀bw a eb l m,C bw a l->Fits b eb bw->Ub (dstsOf b8.toList) bf eb->vu l m->fl eb a m){l:List (Nat×(W->Prop))}{m:List (Nat×(W->Prop))}(c:qX d M b b8 cf i C bw a l)(I:Fits b eb bw)(K:Ub (dstsOf b8.toList) bf eb)(o:vu l m):HZ M d b8 (j9 M) cf i fl eb a m:=by
 unfold qX at c;unfold HZ;split at c;{exact c.elim};rename_i q R;have S:q∈b8.toList:=by grind
 try rw[R]
 try simp only
 split at c;{exact c.elim};rename_i hd;have w:∀v,Ub (dstsOf b8.toList) bf (eb.put q.dst v):=λv=>K.put (λt X=>APz S X);rcases AD9 I c with⟨z,Q,g,c⟩|⟨z,Q,g,c⟩;{rw[A1 z];split at c;{rename_i j;have r:j9 M q=true:=by{simp[j9,j]};rw[A1 r];have⟨v,y,c⟩:=AFO g (Zx (by rw[j];intro x;cases x)) c;refine⟨v,λn=>y _,u _ _ _ _ _ c (g.put hd) (w v) ?_⟩;intro s f;rcases AN.1 f with rfl|f;{exact .inl λa n=>y _};exact o s f};{rename_i j;have r:j9 M q=true:=by{simp[j9,j]};rw[A1 r];obtain⟨v,st,y,ae,c⟩:=AGs g c;refine⟨v,y a ae,u _ _ _ _ _ c (g.put hd) (w v) ?_⟩;intro s f;rcases AN.1 f with rfl|f;{simp_all};rcases o s f with k|⟨p,F,k,H⟩;{exact .inl k};grind};rename_i j;have r:¬j9 M q=true:=by{simp[j9,j]};rw[A0 r];intro n;refine(AJZ g c n).mono ?_;rintro v ai⟨B,af,rfl,c⟩;have⟨ag,c⟩:=AJX c;refine⟨B,af,rfl,?_,u _ _ _ _ _ c (g.put hd) (w v) o⟩;intro s f ah;rcases o s f with k|⟨p,F,k,H⟩;{exact k B};exact H B (ag _ (B9.2 ⟨p,Fk.2 ⟨F,by rw[k];exact ah⟩,rfl⟩))};rw[A0 (by rw[z];simp)];exact u _ _ _ _ _ c (g.put hd) (w undef) o
theorem vz{P:Q1}{A:ai}{f9:Nat}{ops:Array Oper}{ord:Nat->Nat->Bool}(n:∀o p q,Fits f9 o p->Ub (dstsOf ops.toList) bf o->eo p q->e7 o q):∀(f:Nat)(l:List Nat)(c:Env)(d:W)(a:Act)(e:List (Nat×(W->Prop)))(g:List (Nat×(W->Prop))),ng A P f9 ops ord eo f l c d e->Fits f9 a c->Ub (dstsOf ops.toList) bf a->vu e g->FT P A ops (j9 P) ord e7 f l a d g|_,[],c,d,a,e,g,b,h,j,_=>by unfold ng at b;unfold FT;exact n a c d h j b|0,_::_,c,d,a,e,g,b,_,_,_=>b.elim|f+1,x::l,c,d,a,e,g,b,h,j,m=>by unfold ng at b;unfold FT;split;{rename_i i hi;rw[hi]at b;exact ACH (λc d a e g b h j m=>vz (P:=P) (A:=A) (f9:=f9) (ops:=ops) (ord:=ord) n f _ c d a e g b h j m) b h j m};rename_i hi;rw[hi]at b;intro i r s;exact ACH (λc d a e g b h j m=>vz (P:=P) (A:=A) (f9:=f9) (ops:=ops) (ord:=ord) n f _ c d a e g b h j m) (AJA b i (Fk.2 ⟨r,s⟩)) h j m
def pb(c:ai)(b:Q1)(d:Nat)(a:Array Oper)(h:Bool)(e:Env)(f:W)(g:Env->W->Prop):Prop:=match h with|false=>Xm c b d a a.toList e f g|true=>match rJ a (j9 b) (yS a)with|true=>ng c b d a (yS a) g a.size (List.range a.size) e f []|false=>False
theorem AJ1{m:Nat}{fF:Exit->Act->World->Prop}(v:M.follows .mixedOrders=Y)(j:pb d M b b8 ap bw a eo)(t:Fits b bf bw)(u:∀c g i l,Fits b c g->Ub (dstsOf b8.toList) bf c->eo g i->fF .normal c (d.at i l)):(Code.region f b8 ap).wpIn (Fw b2) m M fF bf (d.at a o):=by unfold pb at j;cases ap with|false=>exact wpIn_region_list (AEF _ _ _ _ _ j t u)|true=>simp[]at j;split at j;{rename_i w;refine ADU (fF:=λc i=>∃g,Fits b c g/\Ub (dstsOf b8.toList) bf c/\eo g i) ?_ v w (vz (λc g i p q s=>⟨g,p,q,s⟩) _ _ bw a bf [] [] j t (Ub.refl _ _) (λ_ x=>by cases x));rintro c i l⟨g,p,q,s⟩;exact u c g i l p q s};exact j.elim
inductive Lv where
 |one (s:Sc)
 |agg (l:List Sc)
def iN:List Sc->Type|[]=>Unit|s::l=>s.Ty×iN l
def jL:(l:List Sc)->iN l->List J0|[],_=>[]|s::l,x=>s.val x.1::jL l x.2
def Lv.Ty:Lv->Type|.one s=>s.Ty|.agg l=>iN l
def Lv.val:(v:Lv)->v.Ty->J0|.one s,x=>s.val x|.agg l,x=>.agg (jL l x).toArray
def Sc.un(a:J0):(s:Sc)->(s.Ty->Prop)->Prop|.int d,K=>(match a with|.int e n=>(match decide (e=d)with|true=>K n|false=>False)|_=>False)|.bool,K=>(match a with|.bool b=>K b|_=>False)|.str,K=>(match a with|.string s=>K s|_=>False)|.ptr,K=>(match a with|.pointer p=>K p|_=>False)|.sl,K=>(match a with|.slice p l c=>K ⟨p,l,c⟩|_=>False)|.map,K=>(match a with|.map r=>K r|_=>False)|.any,K=>K a
theorem Zv:∀{s:Sc}{K:s.Ty->Prop},s.un u K->∃x,u=s.val x/\K x|.int b,K,a=>by cases u<;>simp only[Sc.un]at a;rename_i c n;split at a;{rename_i hd;have hd:=A5 hd;subst hd;exact⟨n,rfl,a⟩};exact a.elim|.bool,K,a=>by cases u<;>simp only[Sc.un]at a;exact⟨_,rfl,a⟩|.str,K,a=>by cases u<;>simp only[Sc.un]at a;exact⟨_,rfl,a⟩|.ptr,K,a=>by cases u<;>simp only[Sc.un]at a;exact⟨_,rfl,a⟩|.sl,K,a=>by cases u<;>simp only[Sc.un]at a;exact⟨_,rfl,a⟩|.map,K,a=>by cases u<;>simp only[Sc.un]at a;exact⟨_,rfl,a⟩|.any,K,a=>⟨u,rfl,a⟩
def vH:(l:List Sc)->List J0->(iN l->Prop)->Prop|[],[],K=>K ()|s::l,v::a,K=>s.un v λx=>vH l a λb=>K (x,b)|[],_::_,_=>False|_::_,[],_=>False
theorem AD2:∀{l:List Sc}{c:List J0}{K:iN l->Prop},vH l c K->∃b,c=jL l b/\K b|[],[],_,a=>⟨(),rfl,a⟩|s::l,v::c,K,a=>by obtain⟨x,d,e⟩:=Zv a;obtain⟨b,f,g⟩:=AD2 e;exact⟨(x,b),by rw[d,f];rfl,g⟩|[],_::_,_,a=>a.elim|_::_,[],_,a=>a.elim
def Lv.un(a:J0):(b:Lv)->(b.Ty->Prop)->Prop|.one s,K=>s.un a K|.agg l,K=>match a with|.agg c=>vH l c.toList K|_=>False
theorem AIA:∀{b:Lv}{K:b.Ty->Prop},b.un u K->∃x,u=b.val x/\K x|.one s,K,a=>Zv a|.agg l,K,a=>by cases u<;>simp only[Lv.un]at a;rename_i e;obtain⟨c,d,a⟩:=AD2 a;refine⟨c,?_,a⟩;simp[Lv.val];rw[<-d]
abbrev Live:=List (Nat×Lv)
def iO:Live->Type|[]=>Unit|x::r=>x.2.Ty×iO r
def ZF:(b:Live)->Env->(iO b->Prop)->Prop|[],_,K=>K ()|x::r,a,K=>match a.get x.1 with|some v=>x.2.un v λc=>ZF r a λd=>K (c,d)|none=>False
def PM:(b:Live)->iO b->Nat->Option J0|[],_,_=>V|x::r,a,t=>bif Nat.beq t x.1 then Z (x.2.val a.1)else PM r a.2 t
def lZ(a:Nat):List Nat->Bool|[]=>U|x::r=>bif Nat.beq a x then Y else lZ a r
def Il(a:Live)(c:List Nat)(b:Env)(d:iO a):Env:={get:=λt=>match PM a d t with|some v=>Z v|none=>bif lZ t c then V else b.get t,ds:=b.ds}
theorem vI:∀{l:List Nat},lZ b l=Y↔b∈l|[]=>by simp[lZ]|x::r=>by unfold lZ;by_cases a:b=x;{subst a;simp};rw[XO a];simp[cond_false,AN,a,false_or];exact vI
theorem Lp:∀{c:Live}{K:iO c->Prop},ZF c bw K->∃b,(∀t v,PM c b t=Z v->bw.get t=Z v)/\K b|[],K,a=>⟨(),λ_ _ d=>(by cases d),a⟩|(f,g)::r,K,a=>by unfold ZF at a;split at a;{rename_i v j;obtain⟨x,k,h⟩:=AIA a;have⟨b,l,i⟩:=Lp h;refine⟨(x,b),λt v d=>?_,i⟩;change(bif Nat.beq t f then Z (g.val x)else PM r b t)=Z v at d;by_cases m:t=f;{simp_all};simp_all[XO]};exact a.elim
variable{ej:Live}
theorem ALd{a:iO ej}(c:(Il ej b0 bw a).get b=Z u):PM ej a b=Z u\/(PM ej a b=V/\b∉b0/\bw.get b=Z u):=by grind[Il,lZ,vI]
theorem AKl{a c:iO ej}(d:PM ej a b=V):PM ej c b=none:=by induction ej with|nil=>rfl|cons x r e=>grind[PM,XO]
structure Hq (ga:List Nat) (nd:Bool) (a a':Act):Prop where
 get: ∀t,t∉ga->a'.tmps[t]? =a.tmps[t]?
 ds:nd=Y->a'.defers=a.defers
def Hq.refl{b:List Nat}{c:Bool}{a:Act}:Hq b c a a:=⟨λ_ _=>rfl,λ_=>rfl⟩
theorem Hq.trans{d:List Nat}{e:Bool}{f:Act}(g:Hq b0 ap bf eb)(h:Hq d2 e5 eb f)(k:∀t∈b0,t∈d)(l:∀t∈d2,t∈d)(i:e=Y->ap=Y/\e5=Y):Hq d e bf f:=⟨λt j=>(h.get t λc=>j (l t c)).trans (g.get t λc=>j (k t c)),λc=>(h.ds (i c).2).trans (g.ds (i c).1)⟩
theorem Hq.ag(d:Hq b0 ap bf eb)(e:∀t∈b0,t∈d2)(f:e5=Y->ap=Y):Hq d2 e5 bf eb:=⟨λt g=>d.get t λc=>g (e t c),λc=>d.ds (f c)⟩
theorem Fits.join{d:Env}(f:Fits b bf bw)(g:Fits b eb d)(j:ap=Y)(h:Hq b0 ap bf eb){i:iO ej}(k:∀t v,PM ej i t=Z v->d.get t=Z v):Fits b eb (Il ej b0 bw i):=by refine⟨g.size,λt v l=>?_,(h.ds j).trans f.ds⟩;rcases ALd l with c|⟨_,m,c⟩;{exact g.get t v (k t v c)};rw[h.get t m];exact f.get t v c
theorem Fits.again{c:Env}{j d:iO ej}(f:Fits b bf (Il ej b0 bw j))(g:Fits b eb c)(k:ap=Y)(h:Hq b0 ap bf eb)(l:∀t v,PM ej d t=Z v->c.get t=Z v):Fits b eb (Il ej b0 bw d):=by refine⟨g.size,λt v m=>?_,(h.ds k).trans f.ds⟩;rcases ALd m with i|⟨o,n,i⟩;{exact g.get t v (l t v i)};rw[h.get t n];refine f.get t v ?_;grind[Il,AKl,lZ,absurd,vI]
inductive fw where
 |none
 |tA (f5:Live)
 |seq (x y:fw)
 |lr (f5:Live) (x y:fw)
 |cond (x y:fw)
 |block (x:fw)
 |fY (f5:Live) (x:fw)
 |loop (f5:Live) (x:fw)
 |range (ps:List Lv) (x y:fw)
 |scope (f5:Live) (x y z:fw)
def writes:Code->List Nat|.region _ c _=>dstsOf c.toList|.seq a b=>writes a++writes b|.cond _ a b=>writes a++writes b|.block _ a=>writes a|.loop a=>writes a|.scope a=>writes a|_=>[]
def Ik:Code->Bool|.rangeFunc ..=>U|.seq a b=>Ik a&&Ik b|.cond _ a b=>Ik a&&Ik b|.block _ a=>Ik a|.loop a=>Ik a|.scope a=>Ik a|_=>Y
inductive jM where
 |ae (i:Nat)
 |fB (l:Nat)
def nj:Option Nat->Code|none=>.ret|some id=>.exit id
def jd:List Lv->Type|[]=>Unit|lv::l=>lv.Ty×jd l
def nu:(l:List Lv)->jd l->List J0|[],_=>[]|lv::l,x=>lv.val x.1::nu l x.2
theorem ABl:∀(l:List Lv)(x:jd l),J (nu l x)=J l|[],_=>rfl|_::l,x=>by simp[nu,ABl l x.2]
def mg:Env->List Tmp->List J0->Env|e,p::ps,v::a=>mg (e.set p v) ps a|e,_,_=>e
def VW(l:ai)(h:Q1)(o:J0)(e:List Lv)(p:jd e->Nat->W->(W->Prop)->(Option Nat->W->Prop)->Prop)(a:W)(q:W->Prop)(r:Option Nat->W->Prop):Prop:=∀(rec:Go.Loop),rec.state=.ready->rec.pending=V->rec.params.size=J e->(∀(x:jd e)(i:W)(j:A41),i[a.size+1]?=Z (.loop rec)->p x (a.size+1) i (λc=>∃d,c[a.size+1]?=Z (.loop d)/\j (.bool Y) (c.setIfInBounds (a.size+1) (.loop {d with state:=.ready,pending:=V}))) (λg c=>∃d,c[a.size+1]?=Z (.loop d)/\j (.bool U) (c.setIfInBounds (a.size+1) (.loop {d with state:=.done,pending:=Z (nj g)})))->JF l h (.func (.yield (a.size+1)) #[] #[]) (nu e x).toArray i j)->∃f m,UM h (do let n<-Deferred.ofValue o #[.func (.yield (a.size+1)) #[] #[]];invoke n.target n.args:Sem Next) (λx=>x=.enter f m)/\AJ l h f m ((a.push (.deferred (Z []))).push (.loop rec)) λ_ k=>∃b,k[a.size+1]?=Z (.loop b)/\b.state≠.busy/\((b.pending=V/\q (k.setIfInBounds (a.size+1) (.loop {b with state:=.exhausted})))\/∃g,b.pending=Z (nj g)/\r g (k.setIfInBounds (a.size+1) (.loop {b with state:=.exhausted})))
def Hy(n:ai)(o:Q1)(q:Nat)(s:Bool):Code->fw->Env->W->(Env->W->Prop)->(jM->Env->W->Prop)->(Env->W->Prop)->Prop|.skip,_,d,e,k,_,_=>k d e|.exit id,_,d,e,_,kb,_=>kb (.ae id) d e|.ret,_,d,e,_,_,m=>m d e|.label _,_,d,e,k,_,_=>k d e|.goto l,_,d,e,_,kb,_=>kb (.fB l) d e|.region _ A y,t,d,e,k,_,_=>(match t with|.tA r=>fQ (λj e=>k (Il r (dstsOf A.toList) d j) e) λK=>pb n o q A y d e λh g=>ZF r h λj=>K j g|_=>pb n o q A y d e k)|.seq a b,t,d,e,k,kb,m=>(match t with|.seq x w=>Hy n o q s a x d e (λd e=>Hy n o q s b w d e k kb m) kb m|.lr r x w=>(match Ik a with|true=>fQ (λj e=>Hy n o q s b w (Il r (writes a) d j) e k kb m) λK=>Hy n o q s a x d e (λh g=>ZF r h λj=>K j g) kb m|false=>False)|_=>False)|.cond c p H,t,d,e,k,kb,m=>(match t with|.cond x w=>(rd d c λv=>match v with|.bool b=>cZ b (Hy n o q s p x d e k kb m) (Hy n o q s H w d e k kb m)|_=>False)|_=>False)|.block id c,t,d,e,k,kb,m=>(match t with|.block x=>Hy n o q s c x d e k (λu h g=>match u with|.ae i=>(match Nat.beq i id with|true=>k h g|false=>kb (.ae i) h g)|.fB l=>kb (.fB l) h g) m|.fY r x=>(match Ik c with|true=>fQ (λj e=>k (Il r (writes c) d j) e) λK=>Hy n o q s c x d e (λh g=>ZF r h λj=>K j g) (λu h g=>match u with|.ae i=>(match Nat.beq i id with|true=>ZF r h λj=>K j g|false=>kb (.ae i) h g)|.fB l=>kb (.fB l) h g) m|false=>False)|_=>False)|.loop c,t,d,e,_,kb,m=>(match t with|.loop r x=>(match Ik c with|true=>ZF r d λj=>Loop (λK j e=>Hy n o q s c x (Il r (writes c) d j) e (λh g=>ZF r h λj=>K j g) kb m) j e|false=>False)|_=>False)|.rangeFunc f ps I c,t,d,e,k,kb,m=>(match t with|.range B x w=>(match(!s)&&Nat.beq (J B) ps.size&&ps.toList.all λp=>Nat.blt p q with|true=>rd d f λfv=>VW n o fv B (λargs l P R F=>Hy n o q Y I x (mg {get:=d.get,ds:=[]} ps.toList (nu B args)) P (λh g=>∃C,g[l]?=Z (.loop C)/\C.state=.ready/\Hy n o q Y c w h (g.setIfInBounds l (.loop {C with state:=.busy})) (λ_ z=>R z) (λu _ z=>match u with|.ae i=>F (Z i) z|.fB _=>False) (λ_ z=>F V z)) (λ_ _ _=>False) (λ_ _=>False)) e (λg=>k {get:=d.get,ds:=e.size::d.ds} g) (λu g=>match u with|none=>m {get:=d.get,ds:=e.size::d.ds} g|some i=>kb (.ae i) {get:=d.get,ds:=e.size::d.ds} g)|false=>False)|_=>False)|.scope (.seq b (.seq c (.seq (.label l) y))),t,d,e,k,kb,m=>(match t with|.scope r S x w=>(match((findLabel b l).isNone&&(findLabel c l).isNone)&&(Ik b&&(Ik c&&Ik y))with|true=>Hy n o q s b S d e (λd e=>Hy n o q s c x d e (λh g=>ZF r h λj=>Loop (λK j e=>Hy n o q s y w (Il r (writes c++writes y) d j) e k (λu h g=>match u with|.ae i=>kb (.ae i) h g|.fB X=>match Nat.beq X l with|true=>ZF r h λj=>K j g|false=>False) m) j g) (λu h g=>match u with|.ae i=>kb (.ae i) h g|.fB _=>False) m) (λu h g=>match u with|.ae i=>kb (.ae i) h g|.fB _=>False) m|false=>False)|_=>False)|_,_,_,_,_,_,_=>False
def places:Code->Nat|.seq a b=>places a+places b+1|.cond _ a b=>places a+places b+1|.block _ a=>places a+1|.loop a=>places a+1|.rangeFunc _ _ a b=>places a+places b+1|.scope a=>places a+1|_=>1
def mj(a:Nat):List (Nat×Live)->Option Live|[]=>V|x::r=>bif Nat.beq a x.1 then Z x.2 else mj a r
def Sd(m:List (Nat×Live)):Code->Nat->fw|.region _ _ _,n=>(match mj n m with|some d=>.tA d|none=>.none)|.seq a b,n=>(match mj n m with|some d=>.lr d (Sd m a (n+1)) (Sd m b (n+1+places a))|none=>.seq (Sd m a (n+1)) (Sd m b (n+1+places a)))|.cond _ a b,n=>.cond (Sd m a (n+1)) (Sd m b (n+1+places a))|.block _ a,n=>(match mj n m with|some d=>.fY d (Sd m a (n+1))|none=>.block (Sd m a (n+1)))|.loop a,n=>.loop ((mj n m).getD []) (Sd m a (n+1))|.rangeFunc _ _ a b,n=>.range (((mj n m).getD []).map Prod.snd) (Sd m a (n+1)) (Sd m b (n+1+places a))|.scope (.seq b (.seq c (.seq _ e))),n=>.scope ((mj n m).getD []) (Sd m b (n+2)) (Sd m c (n+3+places b)) (Sd m e (n+5+places b+places c))|_,_=>.none
def dG(e:ai)(f:Nat)(g:List Nat)(h:Bool)(i:Act)(j:Env->W->Prop)(d:jM->Env->W->Prop)(k:Env->W->Prop):Exit->Act->World->Prop:=λx a w=>∃b c n,w=e.at c n/\Fits f a b/\Hq g h i a/\(match x with|.normal=>j b c|.exit id=>d (.ae id) b c|.goto l=>d (.fB l) b c|.ret=>k b c|_=>False)
theorem dG.mono{g:Env->W->Prop}{h j:jM->Env->W->Prop}{k l:Env->W->Prop}(o:∀t∈b0,t∈d2)(p:e5=Y->ap=Y)(q:∀c e,eo c e->g c e)(m:∀i c e,h i c e->j i c e)(r:∀c e,k c e->l c e){x:Exit}(s:dG d b b0 ap bf eo h k x eb bc):dG d b d2 e5 bf g j l x eb bc:=by obtain⟨c,e,n,u,v,y,f⟩:=s;refine⟨c,e,n,u,v,y.ag o p,?_⟩;cases x<;>simp only at f⊢;{exact q _ _ f};{exact m _ _ _ f};{exact m _ _ _ f};exact r _ _ f
def pq(a:Fence)(i:Nat)(d:Q1)(j:Code)(k:Exit->Act->World->Prop)(l:Act)(m:World):Prop:=∀(b:Frame)(e:List Item)(c:List Frame),b.roundOf=a.round->a.fn b.fn->a.room (J c+1+i)->∃f g h,k f g h/\ArrivesIn (Machine.fenced d a) d (lone (b.atR l (.inLoop j::e)) c m) b e c f g h
theorem AIy(s:c2.wpIn e3 b M (Exit.then (pq e3 b M c2 c4) c4) bf bc)(d:Frame)(j:List Item)(g:List Frame)(m:d.roundOf=e3.round)(o:e3.fn d.fn)(p:e3.room (J g+1+b)):∃k q r,c4 k q r/\ArrivesIn (Machine.fenced M e3) M (lone (d.atR bf (.code c2::.inLoop c2::j)) g bc) d j g k q r:=by obtain⟨k,h,i,e,f⟩:=s d (.inLoop c2::j) g m o p;cases k with|normal=>obtain⟨t,u,v,x,y⟩:=e d j g m o p;exact⟨t,u,v,x,.of_steps f y⟩|exit id=>exact⟨_,h,i,e,.pass rfl (λ_ _=>.inl (by simp)) f⟩|goto l=>exact⟨_,h,i,e,.pass rfl (λ_ _=>.inl (by simp)) f⟩|ret=>exact⟨_,h,i,e,.pass rfl (λ_ _=>.inl (by simp)) f⟩|panic z=>exact⟨_,h,i,e,.pass rfl (λ_ _=>.inl (by simp)) f⟩|outgrown=>exact⟨_,h,i,e,.pass rfl (λ_ _=>.inl (by simp)) f⟩
def AL2(g:c2.wpIn e3 f M (Exit.then (pq e3 f M c2 c4) c4) bf bc):pq e3 f M c2 c4 bf bc:=λb h i j d e=>let⟨k,l,m,o,p⟩:=AIy g b h i j d e;⟨k,l,m,o,.of_steps (.one (fenced_calm d e rfl) stepR_inLoop) p⟩
def AJ2(g:c2.wpIn e3 f M (Exit.then (pq e3 f M c2 c4) c4) bf bc):(Code.loop c2).wpIn e3 f M c4 bf bc:=λb h i j d e=>let⟨k,l,m,o,p⟩:=AIy g b h i j d e;⟨k,l,m,o,.of_steps (.one (fenced_calm d e rfl) stepR_loop) p⟩
def pv(a:Fence)(i:Nat)(d:Q1)(j k:Code)(l:Exit->Act->World->Prop)(m:Act)(n:World):Prop:=∀(b:Frame)(e:List Item)(c:List Frame),b.roundOf=a.round->a.fn b.fn->a.room (J c+1+i)->∃f g h,l f g h/\ArrivesIn (Machine.fenced d a) d (lone (b.atR m (.code k::.inScope j::e)) c n) b e c f g h
def rm(b:Nat)(c:Act->World->Prop)(d:Exit->Act->World->Prop):Exit->Act->World->Prop|.goto f,a,w=>f=b/\c a w|e,a,w=>d e a w
theorem AHo{b:Frame}{d:List Item}{e:List Frame}:step M (lone (b.atR bf (.inScope c2::d)) e bc)=.next (lone (b.atR bf d) e bc):=step_lone_go (by simp[stepG,stepG.exec,Frame.atR])
theorem ALr{b:Frame}{d:List Item}{e:List Frame}:step M (lone (b.atR bf (.code (.scope c2)::d)) e bc)=.next (lone (b.atR bf (.code c2::.inScope c2::d)) e bc):=step_lone_go (by simp[stepG,stepG.exec,Frame.atR])
theorem AFl{x:Code}(s:findLabel c2 o=Z ea)(t:x.wpIn e3 f M (rm o (pv e3 f M c2 ea c4) c4) bf bc):pv e3 f M c2 x c4 bf bc:=by
 intro b e p q j k;have u:gotoIn o (.inScope c2::e)=Z (.code ea::.inScope c2::e):=by simp[gotoIn,s]
 obtain⟨v,h,i,g,d⟩:=t b (.inScope c2::e) p q j k;cases v with|normal=>exact⟨.normal,h,i,g,StepsIn.trans d (.one (fenced_calm j k rfl) AHo)⟩|exit id=>have r:exitTo id (.inScope c2::e)=exitTo id e:=by{simp[exitTo]};exact⟨.exit id,h,i,g,λy m=>d.1 y (by rw[r];exact m),λz m=>d.2 z (by rw[r];exact m)⟩|goto R=>obtain⟨rfl,A⟩:=g;obtain⟨B,C,H,I,K⟩:=A b e p q j k;exact⟨B,C,H,I,.of_steps (d.1 _ u) K⟩|ret=>exact⟨_,h,i,g,d⟩|panic S=>exact⟨_,h,i,g,d⟩|outgrown=>exact⟨_,h,i,g,d⟩
def AHz(g:findLabel c2 o=Z ea)(h:c2.wpIn e3 f M (rm o (pv e3 f M c2 ea c4) c4) bf bc):(Code.scope c2).wpIn e3 f M c4 bf bc:=λb i j k d e=>let⟨m,p,q,r,s⟩:=AFl g h b i j k d e;⟨m,p,q,r,.of_steps (.one (fenced_calm d e rfl) ALr) s⟩
theorem Ub.g(b:Ub b0 bf eb):Hq b0 ap bf eb:=⟨b.get,λ_=>b.ds⟩
theorem AXR(b:ai)(a:W)(c:Nat):(b.at a c).heap=a:=rfl
theorem run_getLoop{rec:Go.Loop}(c:a[f]?=Z (.loop rec)):(Instr.getLoop f).run M (d.at a b)=.ok rec (d.at a b):=by simp[Instr.getLoop,Sem.run_bind,getObj,Sem.run,AXR,c]
theorem vJ{rec:Go.Loop}(c:a[f]?=Z (.loop rec)):(setObj f c9).run M (d.at a b)=.ok () (d.at (a.setIfInBounds f c9) b):=by simp[setObj,Sem.run,c,ai.at]
theorem run_beginRound{rec:Go.Loop}(c:a[f]?=Z (.loop rec))(e:rec.state=.ready):(Instr.beginRound f).run M (d.at a b)=.ok () (d.at (a.setIfInBounds f (.loop {rec with state:=.busy})) b):=by simp[Instr.beginRound,Sem.run_bind,run_getLoop c,vJ c,e]
theorem run_endRound{rec:Go.Loop}{c:Option Code}(e:a[f]?=Z (.loop rec)):(Instr.endRound f c).run M (d.at a b)=.ok (.bool c.isNone) (d.at (a.setIfInBounds f (.loop {rec with state:=if c.isNone then .ready else .done,pending:=c})) b):=by simp[Instr.endRound,Sem.run_bind,run_getLoop e,vJ e]
theorem run_endLoop{rec:Go.Loop}(c:a[f]?=Z (.loop rec))(e:rec.state≠.busy):(Instr.endLoop f).run M (d.at a b)=.ok rec.pending (d.at (a.setIfInBounds f (.loop {rec with state:=.exhausted})) b):=by simp_all[Instr.endLoop,Sem.run_bind,run_getLoop,vJ,A4]
theorem AIh{fn:Q8}{tmps:Array J0}{c:Array Tmp}{body:Code}:(Instr.enterLoop fn tmps c c2 body V).run M (d.at a b)=.ok (a.size+1,[mT a.size]) (d.at ((a.push (.deferred (Z []))).push (.loop {state:=.ready,pending:=V,fn,tmps,params:=c,assign:=c2,body,defers:=a.size})) b):=by simp[Instr.enterLoop,Sem.run_bind,newObj,Sem.run,ai.at,mT];rfl
theorem AGx:∀(ps:List Tmp)(d:List J0)(e:Env)(tmps:Array J0),(∀p∈ps,p<b)->Fits b {tmps:=tmps,defers:=[]} e->Fits b {tmps:=(ps.zip d).foldl (λtmps(t,a)=>tmps.setIfInBounds t a) tmps,defers:=[]} (mg e ps d)|[],_,_,_,_,c=>by simpa[mg]using c|_::_,[],_,_,_,c=>by simpa[mg]using c|p::ps,v::d,e,tmps,f,c=>AGx ps d (e.set p v) (tmps.setIfInBounds p v) (λg h=>f g (CT _ h)) (c.set (f p FF))
def py(e:Q1)(c:ai)(d:Nat)(b:Code):Prop:=∀(m:Nat)(f:Bool)(r:Option Nat)(k:fw)(g:Env)(h:W)(i:Env->W->Prop)(kb:jM->Env->W->Prop)(j:Env->W->Prop)(a:Act)(n:Nat),(f=U->r=V)->Hy c e d f b k g h i kb j->Fits d a g->b.wpIn (Fw r) m e (dG c d (writes b) (Ik b) a i kb j) a (c.at h n)
theorem ANw{aj:Code}(ay:py M d b c2)(az:py M d b ea){m:Nat}{ak al:fw}{z:jM->Env->W->Prop}{u:Env->W->Prop}{B:Act->World->Prop}(O:ap=U->b2=V)(aA:findLabel aj f=Z (.seq .skip ea))(aB:Ik c2=Y)(aC:Ik ea=Y)(aD:Hy d M b ap c2 ak bw a (λp q=>ZF ej p λg=>Loop (λK g a=>Hy d M b ap ea al (Il ej (writes c2++writes ea) bw g) a eo (λC p q=>match C with|.ae i=>z (.ae i) p q|.fB F=>match Nat.beq F f with|true=>ZF ej p λg=>K g q|false=>False) u) g q) (λC p q=>match C with|.ae i=>z (.ae i) p q|.fB _=>False) u)(an:Fits b eb bw)(ao:∀j,Hq (writes c2++writes ea) Y eb j->Hq b0 e5 bf j)(v:dG d b b0 e5 bf eo z u=c4)(aE:B=pv (Fw b2) m M aj (.seq .skip ea) c4):(Code.seq c2 (.seq (.label f) ea)).wpIn (Fw b2) m M (rm f B c4) eb (d.at a o):=by have aF:∀t∈writes c2,t∈writes c2++writes ea:=λt H=>AS.2 (.inl H);have aG:∀t∈writes ea,t∈writes c2++writes ea:=λt H=>AS.2 (.inr H);let aH:iO ej->W->Prop:=λg I=>∀j R,Fits b j (Il ej (writes c2++writes ea) bw g)->Hq (writes c2++writes ea) Y eb j->ea.wpIn (Fw b2) m M (rm f B c4) j (d.at I R);refine wpIn_seq (wpIn_mono (ay m ap b2 ak bw a _ _ u eb o O aD an) ?_);rintro S X aW⟨T,ar,Q,rfl,ae,aI,s⟩;have af:Hq (writes c2++writes ea) Y eb X:=aI.ag aF (λ_=>aB);have au:=ao X af;cases S with|normal=>{obtain⟨g,aJ,aK⟩:=Lp s;refine wpIn_seq (wpIn_label ?_);have aL:=aK aH ?_;{exact aL X Q (an.join ae rfl af aJ) af};intro g I aM j R av aO;refine wpIn_mono (az m ap b2 al _ I _ _ u j R O aM av) ?_;rintro S w aX⟨ag,ah,x,rfl,y,aP,k⟩;have aw:Hq (writes c2++writes ea) Y j w:=aP.ag aG (λ_=>aC);have ax:Hq (writes c2++writes ea) Y eb w:=aO.trans aw (λ_ a=>a) (λ_ a=>a) (λ_=>⟨rfl,rfl⟩);have ai:=ao w ax;cases S with|normal=>rw[<-v];exact⟨ag,ah,x,rfl,y,ai,k⟩|exit i=>rw[<-v];exact⟨ag,ah,x,rfl,y,ai,k⟩|goto F=>simp only at k;split at k;{rename_i aQ;have aR:=N5 aQ;subst aR;obtain⟨aY,aS,aU⟩:=Lp k;refine⟨rfl,?_⟩;have hd:=aU w x (av.again y rfl aw aS) ax;rw[aE]at hd⊢;exact AFl aA (wpIn_seq (wpIn_skip hd))};exact k.elim|ret=>rw[<-v];exact⟨ag,ah,x,rfl,y,ai,k⟩|panic aV=>exact k.elim|outgrown=>exact k.elim}|exit i=>rw[<-v];exact⟨T,ar,Q,rfl,ae,au,s⟩|goto F=>exact s.elim|ret=>rw[<-v];exact⟨T,ar,Q,rfl,ae,au,s⟩|panic aV=>exact s.elim|outgrown=>exact s.elim
theorem ANj{g:Code}(ag:py M d b c2)(ah:py M d b ea)(ai:py M d b g){m:Nat}{z aj ak:fw}{s:jM->Env->W->Prop}{p:Env->W->Prop}(B:ap=U->b2=V)(al:(findLabel c2 f).isNone=Y)(O:(findLabel ea f).isNone=Y)(an:Ik c2=Y)(ao:Ik ea=Y)(T:Ik g=Y)(ar:Hy d M b ap c2 z bw a (λbw a=>Hy d M b ap ea aj bw a (λj k=>ZF ej j λu=>Loop (λK u a=>Hy d M b ap g ak (Il ej (writes ea++writes g) bw u) a eo (λv j k=>match v with|.ae i=>s (.ae i) j k|.fB C=>match Nat.beq C f with|true=>ZF ej j λu=>K u k|false=>False) p) u k) (λv j k=>match v with|.ae i=>s (.ae i) j k|.fB _=>False) p) (λv j k=>match v with|.ae i=>s (.ae i) j k|.fB _=>False) p)(au:Fits b bf bw):(Code.scope (.seq c2 (.seq ea (.seq (.label f) g)))).wpIn (Fw b2) m M (dG d b (writes (.scope (.seq c2 (.seq ea (.seq (.label f) g))))) (Ik (.scope (.seq c2 (.seq ea (.seq (.label f) g))))) bf eo s p) bf (d.at a o):=by
 have av:findLabel c2 f=none:=by simpa using al
 have aw:findLabel ea f=none:=by simpa using O
 have F:findLabel (.seq c2 (.seq ea (.seq (.label f) g))) f=Z (.seq .skip g):=by simp[findLabel,av,aw]
 have ax:Ik (.scope (.seq c2 (.seq ea (.seq (.label f) g))))=true:=by grind[Ik]
 have H:∀t∈writes c2,t∈writes (.scope (.seq c2 (.seq ea (.seq (.label f) g)))):=λt ay=>by simp_all[writes,AS]
 have I:∀t∈writes ea++writes g,t∈writes (.scope (.seq c2 (.seq ea (.seq (.label f) g)))):=λt ay=>by simp_all[AS,writes]
 generalize aE:writes (.scope (.seq c2 (.seq ea (.seq (.label f) g))))=R at H I⊢;rw[ax];generalize w:dG d b R Y bf eo s p=az;obtain⟨S,X⟩:∃S:Act->World->Prop,S=pv (Fw b2) m M (.seq c2 (.seq ea (.seq (.label f) g))) (.seq .skip g) az:=⟨_,rfl⟩;refine AHz F ?_;rw[<-X];refine wpIn_seq (wpIn_mono (ag m ap b2 z bw a _ _ p bf o B ar au) ?_);rintro aA aB aF⟨Q,ae,af,rfl,x,aC,q⟩;have y:Hq R Y bf aB:=aC.ag H λ_=>an;cases aA with|normal=>exact ANw ah ai B F ao T q x (λaG aD=>y.trans aD (λ_ a=>a) I λ_=>⟨rfl,rfl⟩) w X|exit i=>rw[<-w];exact⟨Q,ae,af,rfl,x,y,q⟩|goto C=>exact q.elim|ret=>rw[<-w];exact⟨Q,ae,af,rfl,x,y,q⟩|panic aH=>exact q.elim|outgrown=>exact q.elim
theorem ANA(bg:M.follows .mixedOrders=Y):∀(aO:Nat)(c:Code),SizeOf.sizeOf c<aO->∀(m:Nat)(F:Bool)(r:Option Nat)(R:fw)(j:Env)(e:W)(u:Env->W->Prop)(kb:jM->Env->W->Prop)(y:Env->W->Prop)(a:Act)(n:Nat),(F=U->r=V)->Hy d M o F c R j e u kb y->Fits o a j->c.wpIn (Fw r) m M (dG d o (writes c) (Ik c) a u kb y) a (d.at e n):=by intro aO;induction aO with|zero=>intro c O;omega|succ aO ai=>intro c O;cases c with|skip=>intro m F r R j e u kb y a n _ g k;exact wpIn_skip ⟨j,e,n,rfl,k,Hq.refl,g⟩|exit id=>intro m F r R j e u kb y a n _ g k;exact wpIn_exit ⟨j,e,n,rfl,k,Hq.refl,g⟩|ret=>intro m F r R j e u kb y a n _ g k;exact wpIn_ret ⟨j,e,n,rfl,k,Hq.refl,g⟩|label l=>intro m F r R j e u kb y a n _ g k;exact wpIn_label ⟨j,e,n,rfl,k,Hq.refl,g⟩|goto l=>intro m F r R j e u kb y a n _ g k;exact wpIn_goto ⟨j,e,n,rfl,k,Hq.refl,g⟩|refuse ag=>intro m F r R j e u kb y a n _ g k;simp[Hy]at g|region id aw aj=>{intro m F r R j e u kb y a n _ g k;have plain:∀ak,(∀aE ax ap aF,Fits o aE ax->Ub (dstsOf aw.toList) a aE->ak ax ap->dG d o (writes (.region id aw aj)) (Ik (.region id aw aj)) a u kb y .normal aE (d.at ap aF))->pb d M o aw aj j e ak->(Code.region id aw aj).wpIn (Fw r) m M (dG d o (writes (.region id aw aj)) (Ik (.region id aw aj)) a u kb y) a (d.at e n):=λak bh bi=>AJ1 bg bi k bh;cases R with|tA T=>simp[Hy]at g;refine plain _ ?_ (g _ (λ_ _ e=>e));intro aE ax ap aF aW aB Q;obtain⟨ar,z,ae⟩:=Lp Q;exact⟨_,ap,aF,rfl,k.join aW rfl (aB.g) z,aB.g,ae⟩|_=>exact plain u (λaE ax ap aF aW aB Q=>⟨ax,ap,aF,rfl,aW,aB.g,Q⟩) g}|seq x ag=>{have aG:=ai x (by simp at O;omega);intro m F r R j e u kb y a n al g k;have tail:∀(ak:Env->W->Prop)(aX aY:fw),Hy d M o F x aX j e ak kb y->(∀q h s,Fits o q h->Hq (writes x) (Ik x) a q->ak h s->∃H,Fits o q H/\Hy d M o F ag aY H s u kb y)->(Code.seq x ag).wpIn (Fw r) m M (dG d o (writes (.seq x ag)) (Ik (.seq x ag)) a u kb y) a (d.at e n):=by{intro ak aX aY Q ay;refine wpIn_seq (wpIn_mono (aG m F r aX j e ak kb y a n al Q k) ?_);intro az q aP I;have aH:∀t∈writes x,t∈writes (.seq x ag):=λt aZ=>by{grind[writes]};have bj:∀t∈writes ag,t∈writes (.seq x ag):=λt aZ=>by{grind[writes]};have aC:Ik (.seq x ag)=Y->Ik x=Y/\Ik ag=true:=λe=>by{simpa[Ik]using e};cases az with|normal=>obtain⟨h,s,ah,rfl,B,C,z⟩:=I;obtain⟨H,an,a0⟩:=ay q h s B C z;refine wpIn_mono (ai ag (by simp at O;omega) m F r aY H s u kb y q ah al a0 an) ?_;rintro a8 a1 a9⟨bk,a2,bm,rfl,bn,bo,bp⟩;exact⟨bk,a2,bm,rfl,bn,C.trans bo aH bj aC,bp⟩|exit id=>obtain⟨h,s,ah,rfl,B,C,z⟩:=I;exact⟨h,s,ah,rfl,B,C.ag aH (λe=>(aC e).1),z⟩|ret=>obtain⟨h,s,ah,rfl,B,C,z⟩:=I;exact⟨h,s,ah,rfl,B,C.ag aH (λe=>(aC e).1),z⟩|goto l=>obtain⟨h,s,ah,rfl,B,C,z⟩:=I;exact⟨h,s,ah,rfl,B,C.ag aH (λe=>(aC e).1),z⟩|panic ba=>obtain⟨_,_,_,_,_,_,z⟩:=I;exact z.elim|outgrown=>obtain⟨_,_,_,_,_,_,z⟩:=I;exact z.elim};cases R with|seq S au=>simp[Hy]at g;exact tail _ S au g (λq h s B _ Q=>⟨h,B,Q⟩)|lr T S au=>simp[Hy]at g;split at g;{rename_i av;refine tail _ S au (g _ (λ_ _ e=>e)) ?_;intro q h s B C Q;obtain⟨ar,z,ae⟩:=Lp Q;exact⟨_,k.join B av C z,ae⟩};exact g.elim|_=>simp[Hy]at g}|cond v x ag=>{have aG:=ai x (by simp at O;omega);have bq:=ai ag (by simp at O;omega);intro m F r R j e u kb y a n al g k;cases R with|cond S au=>{simp[Hy]at g;have g:=Bz k g;cases aQ:a.eval v<;>rw[aQ]at g<;>simp only[]at g;rename_i b;obtain⟨s,X⟩:=uV g;refine wpIn_cond aQ ?_;cases b with|true=>exact wpIn_mono (aG m F r S j e u kb y a n al (s rfl) k) (λ_ _ _ I=>I.mono (λt aZ=>by grind[writes]) (λe=>by grind[Ik]) (λ_ _ e=>e) (λ_ _ _ e=>e) (λ_ _ e=>e))|false=>exact wpIn_mono (bq m F r au j e u kb y a n al (X rfl) k) (λ_ _ _ I=>I.mono (λt aZ=>by grind[writes]) (λe=>by grind[Ik]) (λ_ _ e=>e) (λ_ _ _ e=>e) (λ_ _ e=>e))}|_=>simp[Hy]at g}|block id x=>{intro m F r R j e u kb y a n al g k;have tail:∀(ak:Env->W->Prop)(aI:jM->Env->W->Prop)(S:fw),Hy d M o F x S j e ak aI y->(∀q h s,Fits o q h->Hq (writes x) (Ik x) a q->ak h s->∃H,Fits o q H/\u H s)->(∀i q h s,Fits o q h->Hq (writes x) (Ik x) a q->aI (.ae i) h s->(i=id/\∃H,Fits o q H/\u H s)\/(i≠id/\kb (.ae i) h s))->(∀l h s,aI (.fB l) h s->kb (.fB l) h s)->(Code.block id x).wpIn (Fw r) m M (dG d o (writes (.block id x)) (Ik (.block id x)) a u kb y) a (d.at e n):=by{intro ak aI S Q s X a2;refine wpIn_block (wpIn_mono (ai x (by simp at O;omega) m F r S j e ak aI y a n al Q k) ?_);intro az q aP I;obtain⟨h,af,ah,rfl,B,C,z⟩:=I;cases az with|normal=>obtain⟨H,an,ay⟩:=s q h af B C z;exact⟨H,af,ah,rfl,an,C,ay⟩|exit i=>simp[Exit.inBlock];rcases X i q h af B C z with⟨hi,H,an,ay⟩|⟨hi,ay⟩;{rw[A1 hi];exact⟨H,af,ah,rfl,an,C,ay⟩};rw[A0 hi];exact⟨h,af,ah,rfl,B,C,ay⟩|ret=>exact⟨h,af,ah,rfl,B,C,z⟩|goto l=>exact⟨h,af,ah,rfl,B,C,a2 l _ _ z⟩|panic ba=>exact z.elim|outgrown=>exact z.elim};cases R with|block S=>simp[Hy]at g;refine tail _ _ S g (λq h s B _ Q=>⟨h,B,Q⟩) ?_ (λ_ _ _ e=>e);grind[Nat.beq_refl,XO]|fY T S=>simp[Hy]at g;split at g;{rename_i av;have g:=g _ (λ_ _ e=>e);have fin:∀q h s,Fits o q h->Hq (writes x) (Ik x) a q->ZF T h (λar=>u (Il T (writes x) j ar) s)->∃H,Fits o q H/\u H s:=by{intro q h s B C Q;have⟨ar,z,ae⟩:=Lp Q;exact⟨_,k.join B av C z,ae⟩};refine tail _ _ S g fin ?_ (λ_ _ _ e=>e);intro i q h s B C Q;by_cases hi:i=id;{subst hi;simp[Nat.beq_refl]at Q;exact .inl ⟨rfl,fin q h s B C Q⟩};grind[XO]};exact g.elim|_=>simp[Hy]at g}|loop x=>{have ai:=ai x (by simp at O;omega);intro m F r R j e u kb y a n al g k;cases R with|loop T S=>simp[Hy]at g;split at g;{rename_i av;have⟨ar,z,g⟩:=Lp g;have br:Fits o a (Il T (writes x) j ar):=k.join k av (Hq.refl) z;let K:iO T->W->Prop:=λar e=>∀q n,Fits o q (Il T (writes x) j ar)->Hq (writes x) (Ik x) a q->x.wpIn (Fw r) m M (Exit.then (pq (Fw r) m M x (dG d o (writes x) (Ik x) a u kb y)) (dG d o (writes x) (Ik x) a u kb y)) q (d.at e n);have aB:=g K ?_;{exact AJ2 (aB a n br Hq.refl)};intro ar e bs q n B C;refine wpIn_mono (ai m F r S _ e _ kb y q n al bs B) ?_;intro az a1 a9 I;obtain⟨H,X,aD,rfl,an,a3,ae⟩:=I;have aR:=C.trans a3 (λ_ e=>e) (λ_ e=>e) (λe=>⟨e,e⟩);cases az with|normal=>obtain⟨b1,bt,a0⟩:=Lp ae;exact AL2 (a0 a1 aD (B.again an av a3 bt) aR)|exit i=>exact⟨H,X,aD,rfl,an,aR,ae⟩|ret=>exact⟨H,X,aD,rfl,an,aR,ae⟩|goto l=>exact⟨H,X,aD,rfl,an,aR,ae⟩|panic ba=>exact ae.elim|outgrown=>exact ae.elim};exact g.elim|_=>simp[Hy]at g}|rangeFunc f ps aS x=>{have bu:=ai aS (by simp at O;omega);have aG:=ai x (by simp at O;omega);intro m F r R j e u kb y a n al g k;cases R with|range bb S au=>simp only[Hy]at g;split at g;{rename_i bc;simp only[As,GP,DP]at bc;obtain⟨⟨bv,aU⟩,bw⟩:=bc;have aU:=N5 aU;have bx:=al bv;subst bx;have g:=Bz k g;refine wpIn_rangeFunc λfn _=>?_;let aJ:Go.Loop:={state:=.ready,pending:=V,fn,tmps:=a.tmps,params:=ps,assign:=aS,body:=x,defers:=e.size};have bz:∀args:List J0,J args=ps.size->∀(af:W)(aA:A41),af[e.size+1]?=Z (.loop aJ)->Hy d M o Y aS S (mg {get:=j.get,ds:=[]} ps.toList args) af (λax ap=>∃aV,ap[e.size+1]?=Z (.loop aV)/\aV.state=.ready/\Hy d M o Y x au ax (ap.setIfInBounds (e.size+1) (.loop {aV with state:=.busy})) (λ_ X=>∃ao,X[e.size+1]?=Z (.loop ao)/\aA (.bool Y) (X.setIfInBounds (e.size+1) (.loop {ao with state:=.ready,pending:=V}))) (λa4 _ X=>match a4 with|.ae i=>(∃ao,X[e.size+1]?=Z (.loop ao)/\aA (.bool U) (X.setIfInBounds (e.size+1) (.loop {ao with state:=.done,pending:=Z (nj (Z i))})))|.fB _=>False) (λ_ X=>∃ao,X[e.size+1]?=Z (.loop ao)/\aA (.bool U) (X.setIfInBounds (e.size+1) (.loop {ao with state:=.done,pending:=Z (nj V)})))) (λ_ _ _=>False) (λ_ _=>False)->JF d M (.func (.yield (e.size+1)) #[] #[]) args.toArray af aA:=by{intro args bA af aA a5 a6 n;have bB:(do let aj<-Deferred.ofValue (.func (.yield (e.size+1)) #[] #[]) args.toArray;invoke aj.target aj.args).run M (d.at af n)=.ok (.round (e.size+1) fn ((ps.zip args.toArray).foldl (λtmps(t,a)=>tmps.setIfInBounds t a) a.tmps) aS x) (d.at af n):=by{have bC:¬(args.toArray).size≠ps.size:=by{simp[bA]};simp only[Deferred.ofValue,Sem.run_bind,Sem.run_pure,Result.andThen_ok,invoke,Instr.yield,run_getLoop a5,Array.empty_append];rw[A0 bC];rfl};rw[bB];have bD:Fits o {tmps:=(ps.zip args.toArray).foldl (λtmps(t,a)=>tmps.setIfInBounds t a) a.tmps,defers:=[]} (mg {get:=j.get,ds:=[]} ps.toList args):=by{have bE:Fits o {tmps:=a.tmps,defers:=[]} {get:=j.get,ds:=[]}:=⟨k.size,k.get,rfl⟩;have:=AGx ps.toList args _ a.tmps (λp I=>by simpa using bw p I) bE;rw[<-Array.foldl_toList,Array.toList_zip];exact this};refine roundIn_of_wpIn trivial (wpIn_mono (bu 0 Y (Z (e.size+1)) S _ af _ _ _ _ n (λe=>by cases e) a6 bD) ?_);intro az q aP I;obtain⟨h,s,ah,rfl,B,C,z⟩:=I;cases az<;>simp only at z;have⟨aV,bF,bG,bH⟩:=z;refine⟨_,run_beginRound bF bG,wpIn_mono (aG 0 Y (Z (e.size+1)) au _ _ _ _ _ q ah (λe=>by cases e) bH B) ?_⟩;intro a8 a1 a9 bI;obtain⟨H,X,aD,rfl,an,a3,ae⟩:=bI;cases a8<;>simp only at ae;{obtain⟨ao,aK,aL⟩:=ae;exact⟨_,_,run_endRound aK,_,rfl,_,_,rfl,aL⟩};{obtain⟨ao,aK,aL⟩:=ae;exact⟨_,_,run_endRound aK,_,rfl,_,_,rfl,aL⟩};have⟨ao,aK,aL⟩:=ae;exact⟨_,_,run_endRound aK,_,rfl,_,_,rfl,aL⟩};obtain⟨bJ,bK,bL,bM⟩:=g aJ rfl rfl aU.symm (λx af aA a5 a6=>bz (nu bb x) ((ABl bb x).trans aU) af aA a5 a6);obtain⟨nx,bN,rfl⟩:=QS bL;have aM:=bN (d.at ((e.push (.deferred (Z []))).push (.loop aJ)) n);rw[Sem.run_bind]at aM;have bO:(resolve a.eval (rangeCall f (e.size+1)) 0)=Deferred.ofValue (a.eval f) #[.func (.yield (e.size+1)) #[] #[]]:=by{simp[resolve,Act.eval]};cases hd:(Deferred.ofValue (a.eval f) #[.func (.yield (e.size+1)) #[] #[]]).run M (d.at ((e.push (.deferred (Z []))).push (.loop aJ)) n)with|halt ag w=>rw[hd]at aM;cases aM|ok aj aP=>rw[hd]at aM;have aH:aP=d.at ((e.push (.deferred (Z []))).push (.loop aJ)) n:=by{cases aQ:a.eval f<;>rw[aQ]at hd<;>simp[Deferred.ofValue]at hd<;>first|exact hd.2.symm|(cases hd)};refine⟨e.size+1,[mT e.size],_,aj,_,bJ,bK,_,AIh,by rw[bO];exact hd,λ_ _=>trivial,aM,λaC=>by simp at aC,tH.2 (Calls.mono (bM n) ?_)⟩;rintro b2 b3⟨v,rfl,X,aD,rfl,bd,bP,bQ,be⟩;have a7:Fits o {a with defers:=[mT e.size]++a.defers} {get:=j.get,ds:=e.size::j.ds}:=⟨k.size,k.get,by simp[k.ds]⟩;refine⟨bd.pending,_,run_endLoop bP bQ,?_⟩;generalize X.setIfInBounds (e.size+1) (.loop {bd with state:=.exhausted})=b4 at be⊢;rcases be with⟨I,bR⟩|⟨a4,I,bf⟩;{rw[I];exact⟨_,_,_,rfl,a7,⟨λ_ _=>rfl,λe=>by simp[Ik]at e⟩,bR⟩};rw[I];cases a4 with|none=>exact wpIn_ret ⟨_,_,_,rfl,a7,⟨λ_ _=>rfl,λe=>by simp[Ik]at e⟩,bf⟩|some i=>exact wpIn_exit ⟨_,_,_,rfl,a7,⟨λ_ _=>rfl,λe=>by simp[Ik]at e⟩,bf⟩};exact g.elim|_=>simp[Hy]at g}|scope b=>intro m F r R j e u kb y a n al g k;cases b with|seq bS bT=>{cases bT with|seq c ag=>{cases ag with|seq bU aj=>{cases bU with|label l=>{cases R with|scope T b5 S au=>simp[Hy]at g;split at g;{rename_i av;simp only[As]at av;have⟨⟨bV,bW⟩,bX,bY,bZ⟩:=av;have b0:=ai bS (by simp at O;omega);exact ANj b0 (ai c (by simp at O;omega)) (ai aj (by simp at O;omega)) al bV bW bX bY bZ g k};exact g.elim|_=>simp[Hy]at g}|_=>simp[Hy]at g}|_=>simp[Hy]at g}|_=>simp[Hy]at g}|_=>simp[Hy]at g
def AOb(o:M.follows .mixedOrders=Y)(a:Code)(m:Nat)(e:Bool)(f:Option Nat)(l:fw)(g:Env)(h:W)(i:Env->W->Prop)(j:jM->Env->W->Prop)(k:Env->W->Prop)(c:Act)(n:Nat)(p:e=U->f=V)(q:Hy d M b e a l g h i j k)(r:Fits b c g):a.wpIn (Fw f) m M (dG d b (writes a) (Ik a) c i j k) c (d.at h n):=ANA o (SizeOf.sizeOf a+1) a (Wf _) m e f l g h i j k c n p q r
def nv(d:Q1):List ResultVar->Env->W->(List J0->Prop)->Prop|[],_,_,K=>K []|.tmp t::r,b,c,K=>(match b.get t with|some v=>nv d r b c λe=>K (v::e)|none=>False)|.cell a t::r,b,c,K=>match b.get a with|some v=>(match v with|.pointer p=>At p λad=>loadT d t c ad λv _=>nv d r b c λe=>K (v::e)|_=>False)|none=>False
def oneOf(a:List J0)(b:J0->Prop):Prop:=match a with|[v]=>b v|a=>b (.tuple a.toArray)
def AZX(a:Q1)(b:List ResultVar)(c:Env)(d:W)(e:J0->Prop):Prop:=nv a b c d λf=>oneOf f e
def vK:List Nat->W->(W->Prop)->Prop|[],a,K=>K a|r::b,a,K=>a[r]?=Z (.deferred (Z []))/\vK b (a.setIfInBounds r (.deferred V)) K
def pA:Nat->List J0->Nat->Option J0|_,[],_=>V|i,v::r,t=>bif Nat.beq t i then Z v else pA (i+1) r t
def vL(c:Q1)(d:Func)(e:A41)(a:Env)(f:W):Prop:=vK a.ds f λb=>AZX c d.results.toList a b λv=>e v b
def vM(e:ai)(a:Q1)(f:Q8)(g:fw)(b:List J0)(h:W)(d:A41):Prop:=match a.funcs[f]? with|none=>False|some fn=>match fn.body with|none=>False|some c=>match Nat.ble (J b) fn.ntmps with|true=>Hy e a fn.ntmps U c g {get:=pA 0 b,ds:=[]} h (vL a fn d) (λ_ _ _=>False) (vL a fn d)|false=>False
theorem AEC:∀{l:List J0}{i t:Nat}{v:J0},pA i l t=Z v->i<=t/\l[t-i]?=Z v|[],_,_,_,a=>by cases a|u::r,i,t,v,a=>by unfold pA at a;by_cases b:t=i;{simp_all};rw[XO b,cond_false]at a;have⟨c,d⟩:=AEC a;grind
def rn(a:Array J0):ResultVar->Sem J0|.tmp t=>pure (a.getD t undef)|.cell x t=>do loadVar t (<-asAddr (a.getD x undef))
theorem APT(b:Func)(c:Array J0):results b c=(do let a<-b.results.mapM (rn c);pure (if d:a.size=1 then a[0]else .tuple a)):=rfl
theorem U0{P:Q1}{A:ai}(f:Fits b bf bw){n:Nat}:∀{l:List ResultVar}{K:List J0->Prop},nv P l bw a K->∃d,(l.mapM (rn bf.tmps)).run P (A.at a n)=.ok d (A.at a n)/\K d|[],K,c=>⟨[],rfl,c⟩|.tmp t::r,K,c=>by unfold nv at c;split at c;{rename_i v g;obtain⟨d,i,j⟩:=U0 (P:=P) (A:=A) (n:=n) f c;refine⟨v::d,?_,j⟩;have k:bf.tmps.getD t undef=v:=by{have:=f.get t v g;simp[this]};rw[Wc];simp[Sem.run_bind,Sem.run_pure,Result.andThen_ok,rn,i,k]};exact c.elim|.cell x t::r,K,c=>by unfold nv at c;split at c;{rename_i v g;split at c;{rename_i p;obtain⟨ad,rfl,m⟩:=Vi c;obtain⟨u,st,o,q,j⟩:=AEL (A:=A) m;obtain⟨d,i,s⟩:=U0 (P:=P) (A:=A) (n:=n) f j;refine⟨u::d,?_,s⟩;have k:bf.tmps.getD x undef=.pointer (Z ad):=by{have:=f.get x _ g;simp[this]};rw[Wc];simp[Sem.run_bind,Sem.run_pure,Result.andThen_ok,rn,k,asAddr,o a q n,i]};exact c.elim};exact c.elim
theorem APc{A:ai}(f:Fits b bf bw){n:Nat}(c:AZX M fm.results.toList bw a cc):∃v,(results fm bf.tmps).run M (A.at a n)=.ok v (A.at a n)/\cc v:=by
 obtain⟨d,i,c⟩:=U0 (A:=A) f (n:=n) c;have g:(results fm bf.tmps).run M (A.at a n)=.ok (if j:d.toArray.size=1 then d.toArray[0]else .tuple d.toArray) (A.at a n):=by grind[APT,Array.mapM_eq_mapM_toList,Sem.run_bind,Sem.run_map,Result.andThen_ok,Sem.run_pure]
 refine⟨_,g,?_⟩;match d,c with|[],c=>exact c|[v],c=>exact c|u::v::r,c=>simpa[oneOf]using c
theorem AEH{P:Q1}{A:ai}(c:∀a n,bh a->LeavesInM (Fw V) 0 P fm bn fo [] .returning (A.at a n)):∀(l:List Nat)(a:W)(n:Nat),vK l a bh->LeavesInM (Fw V) 0 P fm bn fo (l.map mT) .returning (A.at a n)|[],a,n,b=>c a n b|r::d,a,n,⟨e,b⟩=>⟨by simp,.inl ⟨r,_,rfl,run_takeDeferred e,AEH (P:=P) (A:=A) c d _ n b⟩⟩
theorem ALI(s:M.follows .mixedOrders=Y){o:fw}(b:vM d M c3 o b3 k e):AJ d M c3 b3.toArray k e:=by intro n;unfold vM at b;split at b;{exact b.elim};rename_i fn u;split at b;{exact b.elim};rename_i c x;split at b;{rename_i p;have p:=A0H p;refine tH.1 (callsIn_of_wp_marks (n:=0) u x trivial ?_);have y:Fits fn.ntmps {tmps:=b3.toArray++Array.replicate (fn.ntmps-b3.toArray.size) undef,defers:=[]} {get:=pA 0 b3,ds:=[]}:=by{refine⟨by simp;omega,λt v l=>?_,rfl⟩;obtain⟨_,q⟩:=AEC l;grind};refine wpIn_mono (AOb s c 0 U V o _ k _ _ _ _ n (λ_=>rfl) b y) ?_;intro z a w B;obtain⟨i,g,j,rfl,r,_,m⟩:=B;have fin:vL M fn e i g->LeavesInM (Fw V) 0 M fn a.tmps (λi C=>∃v,i=.returned v/\∃g j,C=d.at g j/\e v g) a.defers .returning (d.at g j):=by{intro F;rw[r.ds];refine AEH ?_ i.ds g j F;intro q H I;obtain⟨v,l,K⟩:=APc r I;exact⟨v,l,v,rfl,q,H,rfl,K⟩};cases z<;>simp only at m;{exact fin m};exact fin m};exact b.elim
def semAt(d:ai)(a:Q1)(b:Q8)(m:List (Nat×Live))(e:List J0)(f:W)(g:A41):Prop:=vM d a b (match a.funcs[b]? with|some fn=>(match fn.body with|some c=>Sd m c 0|none=>.none)|none=>.none) e f g
def ANl(b:M.follows .mixedOrders=Y){m:List (Nat×Live)}(c:semAt d M c3 m b3 a e):AJ d M c3 b3.toArray a e:=ALI b c
def I5(a:IntKind)(b c:Int):Int:=a.wrap ((BitVec.ofInt a.bits b&&&BitVec.ofInt a.bits c).toNat:Int)
def eN(a:IntKind)(b c:Int):Int:=a.wrap ((BitVec.ofInt a.bits b|||BitVec.ofInt a.bits c).toNat:Int)
def hU(a:IntKind)(b c:Int):Int:=a.wrap ((BitVec.ofInt a.bits b^^^BitVec.ofInt a.bits c).toNat:Int)
noncomputable abbrev P:Q1:=Go.Proofs.Tryz.prog
def NE:Q8:=3
def Ls:Q8:=4
def LA:Q8:=7
def G9:Q8:=9
def El:Q8:=10
def Fy:Q8:=11
def Jm:Q8:=12
def Qa:Q8:=13
def Fg:Q8:=14
def Oc:Q8:=15
def Fu:Q8:=16
def CS:Q8:=17
def EE:Q8:=18
def IA:Q8:=19
def Fs:Q8:=20
def MR:Q8:=21
def Nn:Q8:=22
def Ku:Q8:=23
def Hu:Q8:=24
def MS:Q8:=25
def QC:Q8:=26
def Vu:Q8:=28
def w7:Q8:=29
def BP:Q8:=30
def KG:Q8:=31
def Dm:Q8:=32
def Jw:Q8:=33
def FX:Q8:=34
def Es:Q8:=35
def Gi:Q8:=36
def Gs:Q8:=37
def IM:Q8:=38
def G5:Q8:=39
def Nf:Q8:=40
def GG:Q8:=41
def Cs:Q8:=42
def Oz:Q8:=43
def KF:Q8:=44
def OP:Q8:=45
def II:Q8:=46
def Ov:Q8:=47
def Kb:Q8:=48
def Qn:Q8:=49
def JM:Q8:=50
def Ot:Q8:=51
def IC:Q8:=52
def QG:Q8:=53
def BG:Q8:=54
def IR:Q8:=55
def FZ:Q8:=56
def Lg:Q8:=57
def NS:Q8:=58
def DF:Q8:=59
def BK:Q8:=60
def Er:Q8:=61
def IL:Q8:=62
def QF:Q8:=63
def RD:Q8:=64
def SS:Q8:=65
def QE:Q8:=66
def EZ:Q8:=67
def Tf:Q8:=68
def YG:Q8:=69
def NT:Q8:=70
def Xt:Q8:=71
def Dy:Q8:=72
def Gp:Q8:=73
def Gh:Q8:=74
def Ib:Q8:=75
def Sq:Q8:=76
def w9:Q8:=78
def DD:Q8:=79
def EN:Q8:=80
def Aw:Q8:=81
def ED:Q8:=82
def GH:Q8:=83
def Bw:Q8:=84
def Mm:Q8:=85
def Ou:Q8:=86
def CJ:Q8:=87
def BL:Q8:=88
def Jz:Q8:=89
def F9:Q8:=90
def Ni:Q8:=91
def Mt:Q8:=92
def GI:Q8:=93
def Ih:Q8:=94
def GR:Q8:=95
def Gn:Q8:=96
def Np:Q8:=97
def FJ:Q8:=98
def HV:Q8:=99
def Ij:Q8:=100
def Gy:Q8:=101
def Tg:Q8:=102
def PI:Q8:=103
def TQ:Q8:=104
def Ra:Q8:=105
def SI:Q8:=106
def Io:Q8:=107
def SA:Q8:=108
def Hm:Q8:=109
def Cy:Q8:=110
def Ay:Q8:=111
def Dw:Q8:=112
def RP:Q8:=113
def Tm:Q8:=114
def ND:Q8:=115
def Im:Q8:=116
def Gv:Q8:=117
def TL:Q8:=118
def KM:Q8:=119
def MX:Q8:=120
def VZ:Q8:=121
def NQ:Q8:=122
def PK:Q8:=123
def RF:Q8:=124
def Vq:Q8:=125
def Wm:Q8:=126
def Km:Q8:=127
def KD:Q8:=128
def DL:Q8:=129
def UR:Q8:=130
def QD:Q8:=131
def VA:Q8:=132
def UH:Q8:=133
def LG:Q8:=134
def Ll:Q8:=135
def RO:Q8:=136
def LB:Q8:=137
def JQ:Q8:=138
def AIG:Q8:=139
def NZ:Q8:=140
def SG:Q8:=141
def NA:Q8:=142
def IY:Q8:=143
def JN:Q8:=144
def En:Q8:=145
def Mx:Q8:=146
def Ng:Q8:=147
def Mr:Q8:=148
def KJ:Q8:=149
def JI:Q8:=150
def DT:Q8:=151
def Eg:Q8:=152
def Mq:Q8:=153
def Gf:Q8:=154
def Qq:Q8:=155
def Oh:Q8:=156
def MO:Q8:=157
def Wz:Q8:=158
def FK:Q8:=159
def Oq:Q8:=160
def NW:Q8:=161
def R9:Q8:=162
def LC:Q8:=163
def Jt:Q8:=164
def I9:Q8:=165
def VO:Q8:=166
def NH:Q8:=167
def FQ:Q8:=168
def Ea:Q8:=169
def Et:Q8:=170
def QB:Q8:=171
def VV:Q8:=172
def UA:Q8:=173
def Vg:Q8:=174
def YA:Q8:=175
def JL:Q8:=176
def Na:Q8:=177
def RY:Q8:=178
def Rx:Q8:=179
def Le:Q8:=180
def KV:Q8:=181
def SX:Q8:=182
def DZ:Q8:=183
def MF:Q8:=184
def KA:Q8:=185
def TJ:Q8:=186
def IK:Q8:=187
def Jf:Q8:=188
def Ox:Q8:=189
def Ol:Q8:=190
def Nr:Q8:=191
def RX:Q8:=192
def I8:Q8:=193
def SK:Q8:=194
def NN:Q8:=195
def TV:Q8:=196
def IQ:Q8:=197
def Vo:Q8:=198
def Ow:Q8:=199
def AHB:Q8:=200
def Pd:Q8:=201
def Ja:Q8:=202
def Mj:Q8:=203
def PG:Q8:=204
def NC:Q8:=205
def Oa:Q8:=206
def LD:Q8:=207
def Fb:Q8:=208
def Nk:Q8:=209
def Ct:Q8:=210
def Ey:Q8:=211
def I6:Q8:=212
def JK:Q8:=213
def Ju:Q8:=214
def MW:Q8:=215
def Om:Q8:=216
def Qx:Q8:=217
def EH:Q8:=218
def Bq:Q8:=219
def EJ:Q8:=220
def NM:Q8:=221
def Lx:Q8:=222
def MV:Q8:=223
def VP:Q8:=224
def XV:Q8:=225
def Ez:Q8:=226
def Dz:Q8:=227
def Vz:Q8:=228
def ES:Q8:=229
def Ka:Q8:=230
def Oo:Q8:=231
def Uc:Q8:=232
def Zw:Q8:=233
def EO:Q8:=234
def Nq:Q8:=235
def LP:Q8:=236
def UB:Q8:=237
def F5:Q8:=238
def Vd:Q8:=239
def LJ:Q8:=240
def UO:Q8:=241
def Vh:Q8:=242
def Od:Q8:=244
def IW:Q8:=245
def Cq:Q8:=246
def Jg:Q8:=250
def LK:Q8:=251
def JP:Q8:=252
def Jr:Q8:=253
def Mw:Q8:=254
def Mh:Q8:=255
def Gc:Q8:=256
def Bu:Q8:=257
def IX:Q8:=258
def Te:Q8:=259
def Ko:Q8:=260
def RL:Q8:=261
def TU:Q8:=262
def XW:Q8:=263
def Tn:Q8:=264
def EI:Q8:=265
def Fj:Q8:=266
def HY:Q8:=267
def I7:Q8:=268
def Ky:Q8:=269
def Ti:Q8:=270
def Zi:Q8:=271
def Qt:Q8:=272
def Qw:Q8:=273
def FH:Q8:=279
def Iz:Q8:=281
def G6:Q8:=285
def Rq:Q8:=291
def PE:Q8:=292
def Eo:Q8:=293
def RH:Q8:=294
def RQ:Q8:=295
def Eb:Q8:=325
def t_:Q7:=0
def Bf:Q7:=3
def Va:Q7:=4
def Ee:Q7:=5
def BU:Q7:=9
def Ki:Q7:=22
def EQ:Q7:=29
def Bd:Q7:=30
def Ad:Q7:=32
def Bl:Q7:=34
def Dx:Q7:=35
def BO:Q7:=37
def H8:Q7:=38
def BN:Q7:=40
def Cv:Q7:=42
def CZ:Q7:=51
def LZ:Q7:=53
def BZ:Q7:=54
def Aj:Q7:=56
def Lr:Q7:=63
def ET:Q7:=64
def DX:Q7:=65
def A7:Q7:=67
def Bv:Q7:=69
def Af:Q7:=76
def Ai:Q7:=80
def BX:Q7:=85
def EL:Q7:=97
def KE:Q7:=103
def Ho:Q7:=106
def GV:Q7:=107
def VS:Q7:=109
def pD:Q7:=116
def Ah:Q7:=132
def ADt:Q7:=150
def BM:Q7:=155
def DI:Q7:=163
def wc:Q7:=165
def Da:Q7:=181
def EB:Q7:=187
def Qk:Q7:=201
def AH4:Q7:=211
def BC:Q7:=212
def A9:Q7:=213
def NR:Q7:=215
def CU:Q7:=218
def AEg:Q7:=221
def DU:Q7:=229
def CL:Q7:=234
def Zp:Q7:=260
def QP:Q7:=279
def Bc:Q7:=282
def KU:Q7:=284
def EM:Q7:=285
def Ba:Q7:=287
def we:Q7:=288
def AJl:Q7:=300
def FU:Q7:=302
def Uz:Q7:=304
def AEE:Q7:=306
def AKx:Q7:=307
def wh:Q7:=309
def QJ:Q7:=311
def rD:Q7:=319
def QW:Q7:=328
def ME:Q7:=343
def F4:Q7:=378
def XK:Q7:=429
def F6:Q7:=436
def Gj:Q7:=438
theorem mixed:P.follows .mixedOrders=true:=by decide+kernel
theorem add_add(a:Q6)(m b:Nat):(a.add m).add b=a.add (m+b):=by grind[Addr.add,Nat.add_assoc]
theorem add_zero(a:Q6):a.add 0=a:=by simp[Addr.add]
theorem ba(a:Q6)(b:Nat):(a.add b).block=a.block:=by grind[Addr.add]
theorem CR(a b c:Nat):(⟨a,b,V⟩:Q6).add c=⟨a,b+c,V⟩:=by simp_all[Addr.add]
structure L (S:Nat->Prop) (h h':W):Prop where
 size:h.size<=h'.size
 get: ∀b,b<h.size-> ¬S b->h'[b]? =h[b]?
abbrev G:=L (λ_=>False)
def L.refl{b:Nat->Prop}{a:W}:L b a a:=⟨A2 _,λ_ _ _=>rfl⟩
theorem L.trans(b:L p a k)(d:L p k a1):L p a a1:=⟨AF b.size d.size,λc e f=>(d.get c (CN e b.size) f).trans (b.get c e f)⟩
theorem L.ag{S':Nat->Prop}(d:L p a k)(f:∀b,b<a.size->p b->S' b):L S' a k:=⟨d.size,λc e g=>d.get c e λa=>g (f c e a)⟩
def G.mod(b:G a k):L p a k:=b.ag λ_ _ a=>a.elim
theorem L.then(b:L p a k)(d:L (λc=>p c\/a.size<=c) k a1):L p a a1:=⟨AF b.size d.size,λc e f=>(d.get c (CN e b.size) (λa=>a.elim f (λa=>by omega))).trans (b.get c e f)⟩
theorem L.push(a:W)(c:Obj):L p a (a.push c):=⟨by simp,λb d _=>by grind⟩
theorem L.ae(d:L p a k){b:Nat}(c:a[b]?=Z c9)(e:¬p b):k[b]?=Z c9:=(d.get b (IH.1 c).1 e).trans c
theorem Ap(c:a[b]?=Z c9):b<a.size:=(IH.1 c).1
theorem YZ(b:ah a a4=Z u):a4.block<a.size:=by grind[ah,Ap]
theorem SE(b:k[a4.block]?=a[a4.block]?):ah k a4=ah a a4:=by unfold ah;rw[b]
theorem L.ah(m:L p a k)(b:ah a a4=Z u)(c:¬p a4.block):Lf.ah k a4=Z u:=(SE (m.get _ (YZ b) c)).trans b
theorem G.ah(m:G a k)(b:Lf.ah a a4=Z u):Lf.ah k a4=Z u:=L.ah m b (λa=>a)
theorem Iw(c:a[b]?=Z (.cells bn y bu)):ah a ⟨b,f,V⟩=bn[f]?:=by simp[ah,c]
theorem Sw(c:a[b]?=Z (.cells bn y (0,0))):hG a ⟨b,f,V⟩=false:=by simp[hG,c]
theorem AJj(c:a[b]?=Z (.cells bn y bu)):(cR a ⟨b,f,V⟩ u)[b]?=Z (.cells (bn.setIfInBounds f u) y bu):=by simp[cR,P0,c]
theorem APY(d:b≠a4.block):(cR a a4 u)[b]?=a[b]?:=by simp[cR,P0,Ne.symm d]
theorem vN:(cR a a4 u).size=a.size:=by simp[cR]
theorem L.set{S:Nat->Prop}(b:S a4.block):L S a (cR a a4 u):=⟨by rw[vN];exact A2 _,λ_ _ c=>APY (λd=>c (d▸b))⟩
theorem AU(c:∀b,b=a.push c9->b[a.size]?=Z c9->G a b->b.size=a.size+1->c5 a.size b):bW a c9 c5:=c _ rfl (by simp) (L.push a c9) (by simp)
theorem Ac(d:a[b]?=Z (.cells bn y (0,0)))(e:f<bn.size)(g:∀c,c[b]?=Z (.cells (bn.setIfInBounds f u) y (0,0))->L (· =b) a c->c.size=a.size->bh c):aj a ⟨b,f,V⟩ u bh:=⟨⟨bn[f],by rw[Iw d];simp[e]⟩,Sw d,g _ (AJj d) (L.set rfl) vN⟩
theorem AB(a:ap=Y->c7)(c:ap=U->ex):cZ ap c7 ex:=by cases ap;{exact c rfl};exact a rfl
theorem AV(a:ap=Y)(c:c7):cZ ap c7 ex:=by subst a;exact c
theorem AQ(a:ap=U)(c:ex):cZ ap c7 ex:=by subst a;exact c
theorem UL{p:Q2}{k:Nat}(c:p=Z a4)(e:k<b)(d:e6 a4):j5 p b (k:Int) e6:=⟨a4,c,⟨by omega,by omega⟩,d⟩
theorem UD(a:ap=Y)(c:c7):qy ap c7:=by subst a;exact c
def AR{a:an->W->Prop}{b:(an->W->Prop)->Prop}(d:∀K:an->W->Prop,(∀x c,a x c->K x c)->b K):fQ a b:=d
theorem JF.func{A:ai}{P:Q1}{f:Q8}{first cy args:Array J0}{h:W}{R:A41}(b:(callFunc f (first++args++cy)).calc P=Z (.enter f (first++args++cy)))(c:AJ A P f (first++args++cy) h R):JF A P (.func (.func f) first cy) args h R:=by
 intro n;have e:=ER b (A.at h n);have d:(do let a<-Deferred.ofValue (.func (.func f) first cy) args;invoke a.target a.args).run P (A.at h n)=.ok (.enter f (first++args++cy)) (A.at h n):=by simp_all[Deferred.ofValue,Sem.run_bind,Sem.run_pure,Result.andThen_ok,invoke]
 rw[d];exact c n
structure bY (α:Type) where
 enc:α->List J0
 w:Nat
 len: ∀x,J (enc x)=w
 pos:0<w
 one: ∀x v,v∈enc x->QT v=Y
def Cells(b:W)(c:Q6)(d:List J0):Prop:=∀a v,d[a]?=Z v->ah b (c.add a)=Z v
theorem Cells.mod(b:Cells a a4 b3)(m:L p a k)(c:¬p a4.block):Cells k a4 b3:=λd v e=>m.ah (b d v e) (by rw[ba];exact c)
structure View {α:Type} (f1:bY α) (h:W) (s:Sl) (l:List α):Prop where
 len:s.len=J l
 cap:s.len<=s.cap
 cells: ∀i x,l[i]? =Z x-> ∃a,s.p=Z a/\Cells h (a.add (i*f1.w)) (f1.enc x)
def Sl.ae(a:Sl):Option Nat:=a.p.map (·.block)
theorem View.mod{d:bY an}{e:List an}(c:View d k j e)(m:L p k a1)(l:∀b,j.ae=Z b->¬p b):View d a1 j e:=⟨c.len,c.cap,λi x hi=>let⟨a,f,g⟩:=c.cells i x hi;⟨a,f,g.mod m (by simp_all[ba,Sl.ae])⟩⟩
def View.ext{b:Type}{c:bY b}{a d:W}{e:Sl}{f:List b}(g:View c a e f)(m:G a d):View c d e f:=g.mod m λ_ _ a=>a
theorem View.nil{b:bY an}:View b a ⟨V,0,0⟩ []:=⟨rfl,A2 _,λ_ _ a=>by simp at a⟩
theorem View.at{d:bY an}{b:List an}(e:View d k j b){i:Nat}(hi:i<J b):∃a,j.p=Z a/\i<j.len/\∀c u,(d.enc b[i])[c]?=Z u->ah k ((a.add (i*d.w)).add c)=Z u:=let⟨a,f,g⟩:=e.cells i b[i] (by simp[hi]);⟨a,f,by rw[e.len];exact hi,λc u l=>g c u l⟩
structure Own {α:Type} (f1:bY α) (f6:Q7) (h:W) (s:Sl) (l:List α):Prop where
 len:s.len=J l
 row:(s=⟨V,0,0⟩/\l= [])\/ ∃g cur,s.p=Z ⟨g,0,V⟩/\h[g]? =Z (.cells cur f6 (0,0))/\s.len<=s.cap/\s.cap<=maxLen/\cur.size=s.cap*f1.w/\cur.toList.take (s.len*f1.w)=l.flatMap f1.enc
theorem Own.nil{b:bY an}:Own b y a ⟨V,0,0⟩ []:=⟨rfl,.inl ⟨rfl,rfl⟩⟩
theorem dM{α:Type}{f1:bY α}:∀{l:List α}{i:Nat}{x:α},l[i]?=Z x->∀a v,(f1.enc x)[a]?=Z v->(l.flatMap f1.enc)[i*f1.w+a]?=Z v|[],i,x,b,_,_,_=>by simp at b|y::l,0,x,b,a,v,c=>by grind|y::l,i+1,x,b,a,v,c=>by rw[CI,Lz (by rw[f1.len,DE];omega),f1.len];rw[show(i+1)*f1.w+a-f1.w=i*f1.w+a by rw[DE];omega];exact dM (α:=α) (by simpa using b) a v c
theorem QN{α:Type}{a:bY α}:∀{l:List α},J (l.flatMap a.enc)=J l*a.w|[]=>by simp|x::l=>by rw[CI,A6,QN (α:=α),a.len,Bk,DE];omega
theorem Own.view{b:bY an}{c:List an}(d:Own b y a j c):View b a j c:=by rcases d.row with⟨rfl,rfl⟩|⟨g,o,e,f,k,_,p,l⟩;{exact View.nil};refine⟨d.len,k,λi x hi=>⟨_,e,λm v n=>?_⟩⟩;have:=dM hi m v n;rw[<-l,HA]at this;split at this;{rw[add_add,CR,Iw f];simpa using this};cases this
theorem Own.mod{c:bY an}{d:List an}(e:Own c y a j d)(m:L p a k)(i:∀b,j.ae=Z b->¬p b):Own c y k j d:=by refine⟨e.len,?_⟩;rcases e.row with l|⟨g,n,f,o,rest⟩;{exact .inl l};exact .inr ⟨g,n,f,m.ae o (i g (by simp[Sl.ae,f])),rest⟩
def Own.ext{b:Type}{c:bY b}{d:Q7}{a e:W}{f:Sl}{g:List b}(h:Own c d a f g)(m:G a e):Own c d e f g:=h.mod m λ_ _ a=>a
theorem Own.lit{f1:bY an}{f6:Q7}{l:List an}(d:a[b]?=Z (.cells bn f6 (0,0)))(c:bn.toList=l.flatMap f1.enc)(e:J l<=maxLen):Own f1 f6 a ⟨Z ⟨b,0,V⟩,J l,J l⟩ l:=by
 have f:bn.size=J l*f1.w:=by rw[<-P2,c,QN]
 exact⟨rfl,.inr ⟨b,bn,rfl,d,A2 _,e,f,by rw[c];exact Bm (by grind)⟩⟩
def TE(a:Q1)(d b:Q7)(c e:Nat):Bool:=match a.underlying d with|some (.slice f)=>(Nat.beq f b&&match a.info? b with|some i=>(Nat.beq i.size c&&Nat.beq i.bytes e&&match i.zero with|some g=>Nat.beq g.cells.size c|none=>U)|none=>U)|_=>U
theorem vO(a:TE M y be b f=Y):M.underlying y=Z (.slice be)/\∃i c,M.info? be=Z i/\i.zero=Z c/\i.size=b/\i.bytes=f/\c.cells.size=b:=by unfold TE at a;split at a;{rename_i d e;split at a;{rename_i i hi;split at a;{simp_all};simp at a};simp at a};simp at a
theorem AX0{A:ai}{h:W}{n:Nat}(a:bc=A.at h n)(b:et.os=bc.os)(c:et.tape=bc.tape)(d:et.output=bc.output):et=A.at et.heap et.drawn:=by cases et;simp_all[ai.at]
theorem TK(a:QT u=Y):u.oneCell'=true:=by cases u<;>first|rfl|(simp[QT]at a)
theorem Own.oA{c:bY an}{e:List an}(f:Own c y a j e):(d.at a b).ownsRow 0 y c.w (.slice j.p j.len j.cap) j.len (e.flatMap c.enc):=by refine⟨by rw[QN,f.len],?_⟩;rcases f.row with⟨rfl,rfl⟩|⟨g,i,k,l,m,o,p,q⟩;{exact .inl ⟨rfl,rfl⟩};exact .inr ⟨g,j.cap,i,by rw[k],Ax _,l,m,o,p,q⟩
theorem AMW{c:bY an}{a:List an}(d:bc.ownsRow 0 y c.w u b (a.flatMap c.enc))(e:b=J a):∃s:Sl,u=.slice s.p s.len s.cap/\Own c y bc.heap s a/\(u=.slice V 0 0->s=⟨V,0,0⟩):=by rcases d.2 with⟨rfl,p⟩|⟨g,f,h,rfl,_,i,j,k,l,m⟩;{have:a=[]:=HD (by omega);subst this;exact⟨⟨V,0,0⟩,rfl,Own.nil,λ_=>rfl⟩};refine⟨⟨Z ⟨g,0,V⟩,b,f⟩,rfl,⟨e,.inr ⟨g,h,rfl,i,j,k,l,m⟩⟩,λo=>by cases o⟩
theorem Fz{f1:bY an}{f6:Q7}(ax:TE M y f6 f1.w f=Y){s src:Sl}{l m:List an}(o:Own f1 f6 k s l)(W:View f1 k src m)(q:(J l+J m)*f<=140737488355328)(ai:J l+J m<=maxLen)(aj:∀e F,Own f1 f6 F e (l++m)->L (λb=>s.ae=Z b) k F->(∀b,e.ae=Z b->s.ae=Z b\/k.size<=b)->(e.p=V↔s.p=V/\m=[])->ef e F):Ew d M (Builtin.append_ #[y,y] be #[.slice s.p s.len s.cap,.slice src.p src.len src.cap]) k λv F=>∃e:Sl,v=.slice e.p e.len e.cap/\ef e F:=by
 obtain⟨r,i,Q,hi,ae,I,hB,ay⟩:=vO ax;intro n;have ak:=W.len;by_cases af:m=[];{subst af;simp only[Kx,AM,GC]at*;have az:(Builtin.append_ #[y,y] be #[.slice s.p s.len s.cap,.slice src.p src.len src.cap]).run M (d.at k n)=.ok (.slice s.p s.len s.cap) (d.at k n):=by{have ag:=o.view.cap;have z:∀w:World,(Builtin.firstCells i.size 0 (.slice src.p 0 src.cap)).run M w=.ok #[] w:=by{intro w;cases src.p<;>simp[Builtin.firstCells,loadCells,loadCellsFrom]};cases C:s.p with|none=>simp[Builtin.append_,CG r,run_sizeOf hi,Builtin.lenOf,ak,ag,z]|some a=>simp[Builtin.append_,CG r,run_sizeOf hi,Builtin.lenOf,ak,ag,z,storeCells]};exact⟨_,k,n,az,s,rfl,aj s k o L.refl (λb q=>.inl q) (by simp)⟩};have al:=HL.2 af;obtain⟨a,aA,_⟩:=W.cells 0 m[0] (by simp[al]);have R:∀j u,(m.flatMap f1.enc)[j]?=Z u->(d.at k n).cell? (a.add j)=Z u:=by intro j u aB;have aP:j<J m*f1.w:=by{grind[QN,List.getElem?_eq_some_iff]};have aC:j/f1.w<J m:=Nat.div_lt_of_lt_mul (by grind);have p:j%f1.w<f1.w:=CH _ f1.pos;have S:m[j/f1.w]?=Z m[j/f1.w]:=by{simp[aC]};have O:j%f1.w<J (f1.enc m[j/f1.w]):=by{rw[f1.len];exact p};have z:=dM S (j%f1.w) _ (A3 O);have ao:=Nat.div_add_mod' j f1.w;rw[ao,aB]at z;obtain⟨aQ,ap,aD⟩:=W.cells _ _ S;rw[aA]at ap;cases ap;have:=aD (j%f1.w) _ (A3 O);rw[add_add,ao]at this;rw[DA]at z;rw[z];exact this
 have T:∀u∈m.flatMap f1.enc,u.oneCell'=true:=by intro u aE;obtain⟨x,_,S⟩:=Wk.1 aE;exact TK (f1.one x u S)
 obtain⟨ar,ah,p,au,H,aR⟩:=run_append_own (d.at k n) 0 y be f6 i Q f1.w f r hi ae I hB ay f1.pos (.slice s.p s.len s.cap) s.len (l.flatMap f1.enc) o.oA a (J m) src.cap (m.flatMap f1.enc) (by rw[QN]) R T (by rw[o.len];exact ai) (by rw[o.len];exact q) (Ax _);rw[<-Ly]at au;obtain⟨e,aF,aG,aS⟩:=AMW au (by rw[o.len,A6]);have aU:=AX0 rfl H.os H.tape H.output;have X:J (m.flatMap f1.enc)=J m*i.size:=by rw[QN,I]
 have av:((s.len+J m):Int)<=9223372036854775807:=by have:=ai;simp[maxLen]at this;rw[o.len];omega
 have aH:(s.len+J m)*i.bytes<=140737488355328:=by rw[o.len,hB];exact q
 have aI:∃g c,ar=.slice (Z ⟨g,0,V⟩) (s.len+J m) c/\(s.ae=Z g\/g=k.size):=by rcases o.row with⟨rfl,rfl⟩|⟨g,aJ,C,aK,ag,aV,aL,aW⟩;{rw[run_append_nil (d.at k n) y be f6 i Q r hi ae a (J m) src.cap (m.flatMap f1.enc) X R al (by simpa using av) (by grind)]at p;cases p;exact⟨k.size,_,by rw[B8];rfl,.inr rfl⟩};by_cases aw:s.len+J m<=s.cap;{rw[C,run_append_room (d.at k n) y be f6 i r hi g s.len s.cap aJ aK a (J m) src.cap (m.flatMap f1.enc) X R T aw (by rw[X,aL,<-I,<-DE];exact DG _ aw)]at p;cases p;exact⟨g,_,rfl,.inl (by simp[Sl.ae,C])⟩};rw[C,run_append_grow (d.at k n) y be f6 i Q r hi ae ⟨g,0,V⟩ s.len s.cap (l.flatMap f1.enc) (by rw[QN,o.len,I]) (o.oA|>.cells (by simp[Value.ownBlock,C])) a (J m) src.cap (m.flatMap f1.enc) X R (by omega) av (growslice_fits (by omega) aH)]at p;cases p;exact⟨k.size,_,rfl,.inr rfl⟩
 obtain⟨g,c,aX,aY⟩:=aI;have aM:e.p=Z ⟨g,0,V⟩:=by grind
 refine⟨ar,ah.heap,ah.drawn,by grind,e,aF,aj e ah.heap aG ⟨H.size,?_⟩ (by grind[Sl.ae]) ?_⟩;{intro b q aO;refine H.block b q ?_;intro aZ;apply aO;unfold Sl.ae;cases C:s.p with|none=>grind[Value.ownBlock]|some a=>grind[Value.ownBlock]};rw[aM];simp[af]
theorem AX{f:(an->W->Prop)->an->W->Prop}(c:Nat->an->W->Prop)(g:∀K m x a,c m x a->(∀b d e,b<m->c b d e->K d e)->f K x a){m:Nat}{x:an}(i:c m x a):Loop f x a:=by intro K j;induction m using Nat.strongRecOn generalizing x a with|_ m k=>exact j _ _ (g K m x a i λb d e l n=>k b l n)
theorem Ir(a:b<=9223372036854775807):J8 D (b:Int)=(b:Int):=by grind[J8,IntKind.bits,IntKind.signed]
theorem OT{a:Type}[BEq a][LawfulBEq a]{b c:a}(d:(b !=c)=Y):b≠c:=by simpa using d
theorem MP{a:Type}[BEq a][LawfulBEq a]{b c:a}(d:(b !=c)=U):b=c:=by simpa using d
theorem Cg{a:Type}[BEq a][LawfulBEq a]{b c:a}(d:(b==c)=U):b≠c:=by simpa using d
theorem mq{a:Type}[BEq a][LawfulBEq a]{b c:a}(d:b≠c):(b !=c)=true:=by simpa using d
theorem AZ8{a:Type}[BEq a][LawfulBEq a]{b c:a}(d:b=c):(b==c)=true:=by simpa using d
theorem Aa(a:b<9223372036854775807):J8 D ((b:Int)+(1:Int))=((b+1:Nat):Int):=by rw[show(b+1)=((b+1):Int)by omega];exact Ir a
def Uw(b:ah a a4=Z u)(c:cc u):qt a a4 cc:=⟨u,b,c⟩
def AC{b:Int->Prop}{n:Int}(c:ah a a4=Z (.int ci n))(d:b n):KY ci a a4 b:=⟨n,c,d⟩
def AZ{b:Bool->Prop}{n:Bool}(c:ah a a4=Z (J3 n))(d:b n):lH a a4 b:=⟨n,c,d⟩
def AO{b:E->Prop}{n:E}(c:ah a a4=Z (J7 n))(d:b n):KT a a4 b:=⟨n,c,d⟩
def Ag{b:Q2->Prop}{n:Q2}(c:ah a a4=Z (J5 n))(d:b n):kB a a4 b:=⟨n,c,d⟩
def AP{b:Sl->Prop}{s:Sl}(c:ah a a4=Z (J4 s.p s.len s.cap))(d:b s):JR a a4 b:=⟨s,c,d⟩
theorem AL(c:a[b]?=Z (J2 bn y bu))(d:bn[f]?=Z u):ah a ⟨b,f,V⟩=Z u:=by rw[Iw c];exact d
theorem AA(c:a[b]?=Z (J2 bn y bu))(d:bn[f]?=Z u):ah a ((⟨b,0,V⟩:Q6).add f)=Z u:=by rw[CR,B8];exact AL c d
structure Pr where
 key:E
 val:E
 gone:Bool
deriving DecidableEq
def Pr.agg(x:Pr):J0:=.agg #[J7 x.key,J7 x.val,J3 x.gone]
def Pr.cells(x:Pr):Array J0:=#[J7 x.key,J7 x.val,J3 x.gone]
def Ce:bY Pr where enc x:=[J7 x.key,J7 x.val,J3 x.gone];w:=3;len _:=rfl;pos:=by{omega};one x v a:=by simp at a;rcases a with rfl|rfl|rfl<;>rfl
def je:bY Sl where enc s:=[J4 s.p s.len s.cap];w:=1;len _:=rfl;pos:=by{omega};one x v a:=by simp at a;subst a;rfl
structure jf where
 v:J0
 one:QT v=Y
def nz:bY jf where enc s:=[s.v];w:=1;len _:=rfl;pos:=by{omega};one x v a:=by simp at a;subst a;exact x.one
theorem View.idx{b:bY an}{c:List an}(d:View b k j c){i:Nat}{x:an}(hi:c[i]?=Z x)(f:∀a,j.p=Z a->Cells k (a.add (i*b.w)) (b.enc x)->e6 a):j5 j.p j.len (i:Int) e6:=by
 obtain⟨a,e,g⟩:=d.cells i x hi;have:i<j.len:=by rw[d.len];grind
 exact UL e this (f a e g)
theorem Cells.pair{x:Pr}(b:Cells a a4 (Ce.enc x)):ah a a4=Z (J7 x.key)/\ah a (a4 1)=Z (J7 x.val)/\ah a (a4 2)=Z (J3 x.gone):=by have c:=b 0 _ rfl;rw[add_zero]at c;exact⟨c,b 1 _ rfl,b 2 _ rfl⟩
theorem Cells.sl{x:Sl}(b:Cells a a4 (je.enc x)):ah a a4=Z (J4 x.p x.len x.cap):=by have c:=b 0 _ rfl;rwa[add_zero]at c
theorem Cells.val{x:jf}(b:Cells a a4 (nz.enc x)):ah a a4=Z x.v:=by have c:=b 0 _ rfl;rwa[add_zero]at c
theorem bW.pair{d:E}(l:∀b c,b=a.size->c[b]?=Z (J2 #[J7 ec,J7 d,J3 e5] y (0,0))->G a c->c.size=a.size+1->c5 b c):bW a (J2 #[J7 h,J7 a3,J3 ap] y) λb e=>aj e ⟨b,0,V⟩ (J7 ec) λf=>aj f ((⟨b,0,V⟩:Q6) 1) (J7 d) λi=>aj i ((⟨b,0,V⟩:Q6) 2) (J3 e5) λj=>c5 b j:=by refine AU λe _ n o w=>?_;refine Ac n (by simp) λf p q x=>?_;rw[CR,CR];refine Ac p (by simp) λi r s z=>?_;refine Ac r (by simp) λj t u A=>?_;refine l _ _ rfl (by simpa using t) ?_ (by omega);have m:=(q.trans s).trans u;exact⟨by omega,λb v _=>(m.get b (by omega) (by omega)).trans (o.get b v (by simp))⟩
theorem BQ{f1:bY an}{x:an}(j:bn.toList=f1.enc x)(k:TE M y bs f1.w f=Y){s:Sl}{l:List an}(m:Own f1 bs a s l)(n:(J l+1)*f<=140737488355328)(o:J l+1<=maxLen)(p:∀c e,Own f1 bs e c (l++[x])->L (λb=>s.ae=Z b) a e->(∀b,c.ae=Z b->s.ae=Z b\/a.size<=b)->c.p≠V->ef c e):bW a (J2 bn bs) λb g=>Ew d M (Builtin.append_ #[y,y] be #[J4 s.p s.len s.cap,J4 (Z ⟨b,0,V⟩) 1 1]) g λv e=>∃c:Sl,v=J4 c.p c.len c.cap/\ef c e:=by refine AU λg _ q i z=>?_;have r:Own f1 bs g ⟨Z ⟨a.size,0,V⟩,1,1⟩ [x]:=Own.lit (f1:=f1) (l:=[x]) q (by simp[j]) (by simp[maxLen]);refine Fz (s:=s) (src:=⟨Z ⟨a.size,0,V⟩,1,1⟩) k (m.ext i) r.view (by simpa using n) (by simpa using o) λc e u w C F=>?_;refine p c e u ?_ ?_ ?_;{exact i.mod.trans w};{grind};simp_all
theorem View.sub{b:bY an}{d:List an}(e:View b k j d){lo hi:Nat}(g:lo<=hi)(l:hi<=J d):View b k ⟨BD j.p j.cap lo b.w,hi-lo,j.cap-lo⟩ ((d.take hi).drop lo):=by have m:=e.cap;have n:=e.len;refine⟨by simp;omega,by simp;omega,λi x c=>?_⟩;rw[Fc,HA]at c;split at c;{rename_i o;obtain⟨a,p,f⟩:=e.cells _ _ c;refine⟨a.add (lo*b.w),?_,?_⟩;{simp_all[BD,A0];omega};rw[add_add,<-DE];exact f};cases c
theorem Yl{p:Q2}{lo:Nat}{len:Nat}(a:Sl.ae ⟨BD p b lo f,len,x⟩=Z o):p.map (·.block)=Z o:=by unfold Sl.ae BD at a;split at a;{exact a};simp_all[ba]
def Yields(f:ai)(h:Q1)(j:J0)(k:List Pr)(d:Nat->Bool->(Nat->Prop)->W->Prop):Prop:=∀i x c a,k[i]?=Z x->d i Y c a->JF f h j #[x.agg] a λv e=>∃g O',v=J3 g/\(∀b,O' b->c b\/a.size<=b)/\L c a e/\d (i+1) g O' e
structure Body (h:W) (J:Nat->Bool->(Nat->Prop)->W->Prop):Prop where
 wf: ∀i g fA hh,J i g fA hh-> ∀b,fA b->b<hh.size
 bq: ∀i g fA hh h',J i g fA hh->L (λb=>¬fA b/\h.size<=b) hh h'->J i g fA h'
def Fp(m:ai)(j:Q1)(p:J0)(k:Nat->Prop)(n:W)(l:List Pr):Prop:=(∀b,k b->b<n.size)/\∃f d,p=.func (.func f) #[] d/\(∀a,(callFunc f (#[]++#[a]++d)).calc j=Z (.enter f (#[]++#[a]++d)))/\∀(c:W),(∀b,k b->c[b]?=n[b]?)->∀a e h,QT a=Y->(∀b,k b->¬h b)->Body c e->Yields m j a l e->e 0 Y h c->AJ m j f (#[]++#[a]++d) c λv o=>v=J1 #[]/\∃i g O',L h c o/\(∀b,O' b->h b\/c.size<=b)/\e i g O' o/\(g=Y->i=J l)/\i<=J l
variable{m:List Pr}
theorem Fp.ag{S':Nat->Prop}(g:Fp d M u p a m)(e:∀b,p b->S' b)(h:∀b,S' b->b<k.size)(i:∀b,p b->k[b]?=a[b]?):Fp d M u S' k m:=by have⟨_,f,j,n,o,q⟩:=g;refine⟨h,f,j,n,o,λr s t v w x hd=>q r (λb c=>(s b (e b c)).trans (i b c)) t v w x λb c=>hd b (e b c)⟩
theorem Fp.one(b:Fp d M u p a m):QT u=Y/\lN u/\lO u=false:=by obtain⟨_,f,c,rfl,_⟩:=b;exact⟨rfl,by simp[lN],rfl⟩
def AZ4(x:Pr):jd [.agg [.str,.str,.bool]]:=((x.key,x.val,x.gone,()),())
def ANi(c:Nat)(rec:Go.Loop)(d:W)(e:Nat->Prop)(f:(Nat->Prop)->W->Prop)(a:W):Prop:=∃O',(∀b,O' b->e b\/d.size<=b)/\L (λb=>e b\/b=c) d a/\a[c]?=Z (.loop {rec with state:=.busy})/\f O' a
theorem BB{S:Nat->Prop}(c:S f):L S a (a.setIfInBounds f c9):=⟨by simp,λb _ d=>by grind⟩
theorem Dl{o:Obj}(c:b<a.size):(a.setIfInBounds b o)[b]?=Z o:=by simp[c]
theorem vP(aC:Fp d M u p a m)(aD:∀b,p b->k[b]?=a[b]?)(w:Nat->Option (Option Nat)->(Nat->Prop)->W->Prop)(r:Nat->Prop)(aS:∀b,p b->¬r b){ao:jd [.agg [.str,.str,.bool]]->Nat->W->(W->Prop)->(Option Nat->W->Prop)->Prop}{ap:Option Nat->W->Prop}(ag:∀i c r e,w i c r e->∀b,r b->b<e.size)(C:∀i c r e j,w i c r e->L (λb=>¬r b/\k.size<=b) e j->w i c r j)(T:w 0 V r k)(aE:∀i x o e rec ar au,m[i]?=Z x->w i V o e->¬o (k.size+1)->k.size+1<e.size->e[k.size+1]?=Z (.loop rec)->rec.state=.ready->(∀j,ANi (k.size+1) rec e o (w (i+1) V) j->ar j)->(∀s j,ANi (k.size+1) rec e o (w (i+1) (Z s)) j->au s j)->ao (AZ4 x) (k.size+1) e ar au)(aF:∀O' j,w (J m) V O' j->L r k j->¬O' k.size->(∀b,O' b->r b\/k.size<=b)->j[k.size]?=Z (.deferred (Z []))->bh j)(aG:∀i s O' j,w i (Z s) O' j->i<=J m->L r k j->¬O' k.size->(∀b,O' b->r b\/k.size<=b)->j[k.size]?=Z (.deferred (Z []))->ap s j):VW d M u [.agg [.str,.str,.bool]] ao k bh ap:=by
 intro rec ae ah aU aH;obtain⟨aV,f,av,rfl,aI,aJ⟩:=aC;have aK:=ag _ _ _ _ T;have aL:∀b,p b->b<k.size:=λb q=>by grind
 have ai:G k ((k.push (.deferred (Z []))).push (.loop rec)):=(L.push k _).trans (L.push _ _);have aW:((k.push (.deferred (Z []))).push (.loop rec)).size=k.size+2:=by simp
 refine⟨f,_,?_,AJ.mono (aJ ((k.push (.deferred (Z []))).push (.loop rec)) (λb q=>(ai.get b (aL b q) (by simp)).trans (aD b q)) (.func (.yield (k.size+1)) #[] #[]) (λi g K e=>∃o:Nat->Prop,(∀b,K b↔o b\/b=k.size\/b=k.size+1)/\¬o k.size/\¬o (k.size+1)/\(∀b,o b->r b\/k.size<=b)/\k.size+2<=e.size/\e[k.size]?=Z (.deferred (Z []))/\match g with|true=>e[k.size+1]?=Z (.loop rec)/\w i V o e|false=>∃s B,e[k.size+1]?=Z (.loop B)/\B.state≠.busy/\B.pending=Z (nj s)/\w i (Z s) o e) (λb=>r b\/b=k.size\/b=k.size+1) rfl ?_ ?_ ?_ ?_) ?_⟩;{have aM:(do let aw<-Deferred.ofValue (.func (.func f) #[] av) #[.func (.yield (k.size+1)) #[] #[]];invoke aw.target aw.args).calc M=(callFunc f (#[]++#[.func (.yield (k.size+1)) #[] #[]]++av)).calc M:=rfl;unfold UM;rw[aM,aI]};{grind};{constructor;{rintro i g K e⟨o,y,_,_,_,aj,_,z⟩b q;rcases(y b).1 q with n|n|n;{cases g;{obtain⟨s,B,_,_,_,F⟩:=z;exact ag _ _ _ _ F b n};exact ag _ _ _ _ z.2 b n};{omega};omega};rintro i g K e j⟨o,y,H,I,R,aj,X,z⟩t;have ax:L (λb=>¬o b/\k.size<=b) e j:=t.ag λb _ q=>⟨λn=>q.1 ((y b).2 (.inl n)),by omega⟩;have ay:=t.get _ (by omega) λq=>q.1 ((y _).2 (.inr (.inr rfl)));refine⟨o,y,H,I,R,by have:=t.size;omega,(t.get _ (by omega) λq=>q.1 ((y _).2 (.inr (.inl rfl)))).trans X,?_⟩;cases g;{obtain⟨s,B,n,af,ak,F⟩:=z;exact⟨s,B,ay.trans n,af,ak,C _ _ _ _ _ F ax⟩};exact⟨ay.trans z.1,C _ _ _ _ _ z.2 ax⟩};{rintro i x K e hi⟨o,y,H,I,R,aj,X,az,F⟩;refine aH (AZ4 x) e _ az (aE i x o e rec _ _ hi F I ?_ az ae ?_ ?_);omega;{rintro j⟨O',aO,t,al,O⟩;have an:k.size+1<j.size:=by{have:=t.size;omega};refine⟨_,al,Y,λb=>O' b\/b=k.size\/b=k.size+1,rfl,?_,?_,O',λ_=>Ek,?_,by grind,by grind,?_,?_,?_,?_⟩;{grind};{refine(t.trans (BB (.inr rfl))).ag λb _ q=>(y b).2 (q.elim .inl λn=>.inr (.inr n))};{grind};{simp;omega};{rw[HK (by omega)];exact(t.get _ (by omega) (by rintro(n|n);exact H n;omega)).trans X};{rw[Dl an];cases rec;simp at ae ah;simp[ae,ah]};refine C _ _ _ _ _ O (BB ⟨?_,by omega⟩);grind};rintro s j⟨O',aO,t,al,O⟩;have an:k.size+1<j.size:=by{have:=t.size;omega};refine⟨_,al,U,λb=>O' b\/b=k.size\/b=k.size+1,rfl,?_,?_,O',λ_=>Ek,?_,?_,?_,?_,?_,s,{rec with state:=.done,pending:=Z (nj s)},Dl an,by simp,rfl,?_⟩;{grind};{refine(t.trans (BB (.inr rfl))).ag λb _ q=>(y b).2 (q.elim .inl λn=>.inr (.inr n))};{grind};{grind};{grind};{simp;omega};{rw[HK (by omega)];exact(t.get _ (by omega) (by rintro(n|n);exact H n;omega)).trans X};refine C _ _ _ _ _ O (BB ⟨?_,by omega⟩);grind};{refine⟨r,λ_=>Ek,λn=>?_,λn=>?_,λb q=>.inl q,by omega,?_,?_⟩;rotate_left 2;{grind};{exact⟨by grind,C _ _ _ _ _ T ai.mod⟩};{have:=aK _ n;omega};grind};rintro v af⟨_,i,g,K,t,aX,⟨o,y,H,I,R,aj,X,z⟩,aP,aQ⟩;have aA:∀Q,L r k (af.setIfInBounds (k.size+1) (.loop Q)):=λQ=>by refine⟨by simp;omega,λb q aY=>?_⟩;rw[HK (by omega)];exact(t.get b (by omega) (by grind)).trans (ai.get b q (by simp))
 have aB:∀Q,(af.setIfInBounds (k.size+1) (.loop Q))[k.size]?=Z (.deferred (Z [])):=λQ=>by simp_all
 cases g;{have⟨s,B,n,ak,aR,F⟩:=z;exact⟨B,n,ak,.inr ⟨s,aR,aG i s o _ (C _ _ _ _ _ F (BB ⟨I,by omega⟩)) aQ (aA _) H R (aB _)⟩⟩};refine⟨rec,z.1,by simp[ae],.inl ⟨ah,aF o _ ?_ (aA _) H R (aB _)⟩⟩;have:=aP rfl;subst this;exact C _ _ _ _ _ z.2 (BB ⟨I,by omega⟩)
open Go Ieee
abbrev fD:Format:=Ieee.double
theorem APZ(a:Bool)(m b c:Nat):signed a m (b+c)=signed a m b*(2:Int)^c:=by grind[signed,Nat.shiftLeft_eq,Nat.pow_add,Nat.mul_assoc,Int.neg_mul]
def DV(b:Datum)(c:Int):Prop:=∃s m,∃a:Nat,b=.number s m (-(a:Int))/\signed s m 0=c*(2:Int)^a
def VR(a:Nat)(b:Int):Prop:=DV (fD.read a) b
theorem Ri(a:Bool)(m b:Nat):signed a m b=signed a m 0*(2:Int)^b:=by have:=APZ a m 0 b;rwa[B8]at this
theorem pow_pos(a:Nat):(0:Int)<(2:Int)^a:=Int.pow_pos (by decide)
theorem AL3(a b:Int)(c:Nat):compare (a*(2:Int)^c) (b*(2:Int)^c)=compare a b:=by have d:=pow_pos c;simp only[compare,compareOfLessAndEq];have e:(a*2^c<b*2^c)↔a<b:=Int.mul_lt_mul_right d;have f:(a*2^c=b*2^c)↔a=b:=Int.mul_eq_mul_right_iff (by omega);by_cases g:a<b<;>by_cases h:a=b<;>simp[e,f,g,h]
theorem DV.order{x d:Datum}{m:Int}(e:DV x i)(f:DV d m):x.order d=Z (compare i m):=by
 obtain⟨s,a,c,rfl,h⟩:=e;obtain⟨t,b,l,rfl,g⟩:=f;simp only[Datum.order];congr 1;have j:(-(c:Int)-min (-(c:Int)) (-(l:Int))).toNat=max c l-c:=by omega
 have k:(-(l:Int)-min (-(c:Int)) (-(l:Int))).toNat=max c l-l:=by omega
 rw[j,k,Ri s,Ri t,h,g,Mz,Mz,<-MA,<-MA,show c+(max c l-c)=max c l by omega,show l+(max c l-l)=max c l by omega,AL3]
theorem VR.order{x:Nat}{m:Int}(a:VR x i)(c:VR b m):fD.order x b=Z (compare i m):=DV.order a c
theorem cmp_eq{m:Int}:(compare i m=.eq)↔i=m:=by simp_all
theorem AJR(a:Bool)(c:b<fD.signWeight):fD.read (fD.word a b)=if b<fD.binade then .number a b fD.leastPlace else if b<fD.infRung then .number a (fD.binade+b%fD.binade) (fD.leastPlace+(b/fD.binade-1:Nat))else if b=fD.infRung then .infinity a else .nan a (b-fD.infRung):=by
 have f:0<fD.signWeight:=MD _;have d:(fD.word a b/fD.signWeight%2==1)=a:=by grind[Format.word,Nat.div_eq_of_lt,Nat.add_div_left]
 have e:fD.word a b%fD.signWeight=b:=by unfold Format.word;cases a;{simp[BT c]};simp[BT c]
 unfold Format.read;simp only[d,e]
theorem AEB(a:Bool)(b:Nat):signed a 0 b=0:=by cases a<;>simp[signed]
theorem sJ:fD.binade=4503599627370496:=by decide
theorem xH:fD.infRung=9218868437227405312:=by decide
theorem AZd:fD.signWeight=9223372036854775808:=by decide
theorem pT:fD.leastPlace=-1074:=by decide
theorem AZj:fD.fractionBits=52:=rfl
theorem AWj(a:Bool):VR (fD.word a 0) 0:=by refine⟨a,0,1074,?_,by rw[AEB,Int.zero_mul]⟩;simp_all[AJR,AZd,A1,sJ,pT]
theorem ABc(f:0<b)(a:Nat):(b*2^a).log2=b.log2+a:=by
 have c:b≠0:=by omega
 have g:=MD a;have d:b*2^a≠0:=Nat.mul_ne_zero c (by omega);have e:=(Nat.le_log2 c).1 (A2 _);have h:b<2^(b.log2+1):=(SP c).1 (Wf _);have i:b.log2+a<=(b*2^a).log2:=by rw[Nat.le_log2 d,I2];exact DG _ e
 have j:(b*2^a).log2<b.log2+1+a:=by rw[SP d,I2];simp_all
 omega
theorem AVX(b:Bool)(a:Nat):Toward.even.cut b a 0=a:=by simp[Toward.cut,Nat.mod_one]
theorem ASA(a:Toward)(c:Bool)(e:0<b):a.cut c (b*2^f) f=b:=by unfold Toward.cut;grind[min,ABc,Nat.two_pow_pos,Nat.one_shiftLeft,Nat.mul_mod_left,Nat.mul_div_cancel]
theorem AUj(a:b<=52)(c:f<9007199254740992):min ((b+1022)*4503599627370496+f) 9218868437227405312=(b+1022)*4503599627370496+f:=by omega
theorem AYU(a:4503599627370496<=f):¬(b+1022)*4503599627370496+f<4503599627370496:=by omega
theorem AYl(a:b<=52)(c:f<9007199254740992):(b+1022)*4503599627370496+f<9218868437227405312:=by omega
theorem AS6(a:4503599627370496<=f)(c:f<9007199254740992):((b+1022)*4503599627370496+f)%4503599627370496=f-4503599627370496/\((b+1022)*4503599627370496+f)/4503599627370496=b+1023:=by omega
theorem AYZ(a:4503599627370496<=b):4503599627370496+(b-4503599627370496)=b:=by omega
theorem AYr(a:b<=52):(-1074:Int)+((b+1023-1:Nat):Int)=(b:Int)-52:=by omega
theorem AZF(a:b<=52):(b:Int)-52=-((52-b:Nat):Int):=by omega
theorem AYt(a:b<=52)(c:f<9007199254740992):(b+1022)*4503599627370496+f<9223372036854775808:=by omega
theorem AIT(c:Bool){K:Nat}(k:0<b)(l:b<9007199254740992):VR (fD.nearest c (b*2^K) (-(K:Int))) (if c then-(b:Int)else b):=by
 have g:b≠0:=by omega
 have w:=ABc k K;have d:b.log2<=52:=by have:b.log2<53:=(SP g).2 (l);omega
 have m:=(Nat.le_log2 g).1 (A2 _);have n:=(SP g).1 (Wf _);have o:¬b*2^K=0:=Nat.mul_ne_zero g (by simp_all);generalize x:b.log2=a at*;have h:4503599627370496<=b*2^(52-a):=by have e:2^a*2^(52-a)<=b*2^(52-a):=DG _ m;rw[<-I2,show a+(52-a)=52 by omega]at e;exact e
 have f:b*2^(52-a)<9007199254740992:=by have e:b*2^(52-a)<2^(a+1)*2^(52-a):=A1r n (MD _);rw[<-I2,show a+1+(52-a)=53 by omega]at e;exact e
 have p:fD.nearest c (b*2^K) (-(K:Int))=fD.word c ((a+1022)*4503599627370496+b*2^(52-a)):=by unfold Format.nearest;rw[A0 o];have q:max (-(K:Int)+((b*2^K).log2:Nat)-(fD.fractionBits:Nat)) fD.leastPlace=(a:Int)-52:=by{grind[pT,AZj]};simp only[q];have r:Toward.even.cut c ((b*2^K)<<<(-(K:Int)-((a:Int)-52)).toNat) (((a:Int)-52)- -(K:Int)).toNat=b*2^(52-a):=by{by_cases y:K+a<=52;{have i:(((a:Int)-52)- -(K:Int)).toNat=0:=by{omega};have j:(-(K:Int)-((a:Int)-52)).toNat=52-a-K:=by{omega};rw[i,j,AVX,A0i,My,<-I2];congr 2;omega};have i:(((a:Int)-52)- -(K:Int)).toNat=a+K-52:=by{omega};have j:(-(K:Int)-((a:Int)-52)).toNat=0:=by{omega};have s:b*2^K=(b*2^(52-a))*2^(a+K-52):=by{rw[My,<-I2];congr 2;omega};rw[i,j,SR,s,ASA _ _ (by omega)]};have t:(((a:Int)-52)-fD.leastPlace).toNat=a+1022:=by{rw[pT];omega};rw[r,t,sJ,xH,AUj d f]
 rw[p];have u:(a+1022)*4503599627370496+b*2^(52-a)<fD.signWeight:=by rw[AZd];exact AYt d f
 refine⟨c,b*2^(52-a),52-a,?_,?_⟩;{rw[AJR c u,sJ,xH,pT,A0 (AYU h),A1 (AYl d f),(AS6 h f).1,(AS6 h f).2,AYZ h,AYr d,AZF d]};unfold signed;rw[SR];grind
theorem AVD{K:Nat}(d:signed ap b 0=i*(2:Int)^K)(j:i.natAbs<9007199254740992):VR (fD.write (.number ap b (-(K:Int)))) i:=by
 show VR (fD.nearest ap b (-(K:Int))) i;have g:=pow_pos K;have k:(2:Int)^K=((2^K:Nat):Int):=by push_cast;rfl
 by_cases l:i=0;{subst l;have e:b=0:=by{unfold signed at d;omega};subst e;have h:fD.nearest ap 0 (-(K:Int))=fD.word ap 0:=by{unfold Format.nearest;rw[A1 rfl]};rw[h];exact AWj ap};have e:b=i.natAbs*2^K/\(if ap then-(i.natAbs:Int)else i.natAbs)=i:=by unfold signed at d;rw[SR]at d;have m:(b:Int).natAbs=(i*2^K).natAbs:=by{omega};have h:(i*2^K).natAbs=i.natAbs*2^K:=by{rw[Int.natAbs_mul,k,A0k]};refine⟨by omega,?_⟩;split at d;{rename_i f;rw[A1 f];have:i<=0:=by{rcases Int.lt_or_le 0 i with c|c;{have:=Int.mul_pos c g;omega};exact c};omega};rename_i f;rw[A0 f];have:0<=i:=by{rcases Int.lt_or_le i 0 with c|c;{have:=Int.mul_neg_of_neg_of_pos c g;omega};exact c};omega
 rw[e.1];have:=AIT ap (K:=K) (by omega) j;rw[e.2]at this;exact this
theorem ANE(a:Int):signed (decide (a<0)) a.natAbs 0=a:=by simp_all[signed,SR];omega
theorem DV.sum{x d:Datum}{m:Int}(f:DV x i)(h:DV d m)(j:(i+m).natAbs<9007199254740992):∃e,x.sum d=Z e/\VR (fD.write e) (i+m):=by
 obtain⟨s,a,c,rfl,k⟩:=f;obtain⟨t,b,l,rfl,g⟩:=h;refine⟨_,rfl,?_⟩;have o:min (-(c:Int)) (-(l:Int))=-((max c l:Nat):Int):=by omega
 have p:(-(c:Int)-min (-(c:Int)) (-(l:Int))).toNat=max c l-c:=by omega
 have q:(-(l:Int)-min (-(c:Int)) (-(l:Int))).toNat=max c l-l:=by omega
 have r:signed s a (-(c:Int)-min (-(c:Int)) (-(l:Int))).toNat+signed t b (-(l:Int)-min (-(c:Int)) (-(l:Int))).toNat=(i+m)*(2:Int)^(max c l):=by rw[p,q,Ri s,Ri t,k,g,Mz,Mz,<-MA,<-MA,show c+(max c l-c)=max c l by omega,show l+(max c l-l)=max c l by omega,Int.add_mul]
 simp only[r];rw[o];generalize u:(i+m)*(2:Int)^(max c l)=v at*;refine AVD ?_ j;rw[u];split;{simp_all[AEB,trans]};exact(ANE v)
theorem ASR{m:Nat}{i:Int}(a:fD.read b=.number ap m i):i<=0\/4503599627370496<=m:=by grind[Format.read,sJ,xH,pT]
theorem AOw(b:Bool)(m a:Nat):(signed b m a).natAbs=m*2^a:=by grind[signed,Nat.shiftLeft_eq,Int.natAbs_neg,Int.natAbs_natCast]
theorem VR.of_eq{x:Nat}{m:Int}(n:VR o m)(u:m.natAbs<4503599627370496)(c:fD.order x o=Z .eq):VR x m:=by obtain⟨t,b,l,p,g⟩:=n;unfold Format.order at c;rw[p]at c;unfold VR;cases e:fD.read x with|nan s f=>rw[e]at c;simp[Datum.order]at c|infinity s=>rw[e]at c;cases s<;>simp[Datum.order]at c|number s a i=>rw[e]at c;simp only[Datum.order,DA]at c;rw[cmp_eq]at c;by_cases hi:i<=0;{refine⟨s,a,(-i).toNat,by grind,?_⟩;generalize v:(-i).toNat=d;have h:(i-min i (-(l:Int))).toNat=max d l-d:=by{omega};have j:(-(l:Int)-min i (-(l:Int))).toNat=max d l-l:=by{omega};rw[h,j,Ri s,Ri t,g,Mz,<-MA,show l+(max d l-l)=max d l by omega]at c;refine Int.eq_of_mul_eq_mul_right (a:=(2:Int)^(max d l-d)) (by have:=pow_pos (max d l-d);omega) ?_;rw[c,Mz,<-MA,show d+(max d l-d)=max d l by omega]};exfalso;have w:=(ASR e).resolve_left hi;have h:(i-min i (-(l:Int))).toNat=i.toNat+l:=by{omega};have j:(-(l:Int)-min i (-(l:Int))).toNat=0:=by{omega};rw[h,j,g]at c;have k:=congrArg Int.natAbs c;have q:(2:Int)^l=((2^l:Nat):Int):=by{push_cast;rfl};rw[AOw,Int.natAbs_mul,q,A0k,I2,<-My]at k;have z:a*2^i.toNat=m.natAbs:=Nat.eq_of_mul_eq_mul_right (MD l) k;have r:1<=2^i.toNat:=MD _;have A:a*1<=a*2^i.toNat:=Nat.mul_le_mul_left _ r;omega
theorem VR.inj{x:Nat}{c m:Int}(d:VR x c)(a:VR x m):c=m:=by have e:=VR.order d a;have b:=VR.order a a;rw[e]at b;have f:compare m m=.eq:=cmp_eq.2 rfl;rw[f]at b;exact cmp_eq.1 (CC b)
theorem Ew.calc(b:ew.calc M=Z u)(c:e u a):Ew d M ew a e:=λn=>⟨u,a,n,ER b _,c⟩
theorem Ew.run(b:∀w,ew.run M w=.ok u w)(c:e u a):Ew d M ew a e:=λn=>⟨u,a,n,b _,c⟩
open Go
theorem toList_inj{a b:E}:(a.toList==b.toList)=decide (a=b):=by rw[ByteArray.toList_eq,ByteArray.toList_eq];rw[Fo];simp[A01,<-Array.toList_inj]
theorem CF:bI h a3=decide (h=a3):=toList_inj
theorem AJS:∀(a:List UInt8),Op.bytesLess a a=U|[]=>rfl|a::x=>by simp[Op.bytesLess,AJS x]
theorem ATp:∀(a b:List UInt8),Op.bytesLess a b=U->Op.bytesLess b a=U->a=b|[],[],_,_=>rfl|[],_::_,c,_=>by simp[Op.bytesLess]at c|_::_,[],_,c=>by simp[Op.bytesLess]at c|a::x,b::f,d,e=>by simp only[Op.bytesLess,PA,Bool.and_eq_false_iff,decide_eq_false_iff_not,beq_eq_false_iff_ne]at d e;have g:a=b:=by{grind};subst g;rw[ATp x f (d.2.resolve_left (by simp)) (e.2.resolve_left (by simp))]
theorem AL1:∀(a b c:List UInt8),Op.bytesLess a b=Y->Op.bytesLess b c=Y->Op.bytesLess a c=Y|_,[],_,f,_=>by simp[Op.bytesLess]at f|_,_::_,[],_,f=>by simp[Op.bytesLess]at f|[],_::_,_::_,_,_=>by simp[Op.bytesLess]|a::x,b::g,c::h,e,d=>by simp[Op.bytesLess,Gk,As,AW,beq_iff_eq]at e d⊢;rcases e with e|⟨rfl,e⟩;{grind};rcases d with d|⟨rfl,d⟩;{exact .inl d};exact .inr ⟨rfl,AL1 x g h e d⟩
theorem FC(a:E):aS a a=false:=AJS _
theorem Fe(d:aS h a3=Y)(e:aS a3 ec=Y):aS h ec=true:=AL1 _ _ _ d e
theorem Ve(d:aS h a3=U)(e:aS a3 h=U):h=a3:=by
 have:=ATp _ _ d e;have c:bI h a3=true:=by simp[bI,this]
 rw[CF]at c;simpa using c
theorem Um(c:aS h a3=Y):aS a3 h=false:=by grind[aS,Fe,FC]
theorem TN(c:aS h a3=Y):h≠a3:=by rintro rfl;rw[FC]at c;cases c
theorem AU9(d:aS h a3=Y)(e:aS ec a3=U):aS h ec=true:=by grind[aS,Ve,Fe]
theorem AI0(d:aS a3 h=U)(e:aS ec a3=U):aS ec h=false:=by grind[aS,AU9]
theorem AVG:∀(a b:List UInt8),Op.bytesLess a b=decide (a<b)|[],[]=>by simp[Op.bytesLess]|[],_::_=>by simp[Op.bytesLess]|_::_,[]=>by simp[Op.bytesLess]|a::x,b::c=>by simp[Op.bytesLess,AVG x c,A12];grind
theorem pI(a b:E):aS a b=decide (a.data.toList<b.data.toList):=by simp[aS,ByteArray.toList_eq,AVG]
def OY:bY E where enc x:=[.string x];w:=1;len _:=rfl;pos:=by{omega};one x v a:=by simp at a;subst a;rfl
def Jc:bY Int where enc x:=[.int D x];w:=1;len _:=rfl;pos:=by{omega};one x v a:=by simp at a;subst a;rfl
theorem Cells.str{x:E}(b:Cells a a4 (OY.enc x)):ah a a4=Z (.string x):=by have c:=b 0 _ rfl;rwa[add_zero]at c
theorem Cells.int{x:Int}(b:Cells a a4 (Jc.enc x)):ah a a4=Z (.int D x):=by have c:=b 0 _ rfl;rwa[add_zero]at c
theorem Own.lt{c:bY an}{d:List an}(e:Own c y a j d)(f:j.ae=Z b):b<a.size:=by rcases e.row with⟨rfl,_⟩|⟨g,i,k,l,_⟩;{simp[Sl.ae]at f};simp_all[Sl.ae,Ap]
def Sa(a:E)(b:J0):List (E×J0)->List (E×J0)|[]=>[(a,b)]|p::m=>if p.1=a then(a,b)::m else p::Sa a b m
def Me(a:E)(m:List (E×J0)):Option J0:=(m.find? λp=>decide (p.1=a)).map (·.2)
def jP(a:E)(m:List (E×J0)):List (E×J0):=m.filter λp=>!decide (p.1=a)
theorem Jp(a:E)(p:E×J0)(m:List (E×J0)):Me a (p::m)=if p.1=a then Z p.2 else Me a m:=by unfold Me;grind
theorem wB(b:E)(c:J0)(a:E):∀m,Me a (Sa b c m)=if b=a then Z c else Me a m|[]=>by unfold Sa;rw[Jp]|p::m=>by unfold Sa;split;{simp_all[Jp]};rename_i d;rw[Jp,Jp,wB b c a m];grind
structure eQ (es:Array MapEntry) (clock:Nat) (m:List (E×J0)):Prop where
 same:es.toList.map (λe=>(e.key,e.val))=m.map λp=>(Value.string p.1,p.2)
 stamped:MapKept.Stamped es clock
 size:es.size<=maxLen
 keys: ∀p∈m,p.1.size<=maxLen
def Tj(b:W)(c:Nat)(m:List (E×J0)):Prop:=∃a clock,b[c]?=Z (.map a clock)/\eQ a clock m
theorem Tj.mod{m:List (E×J0)}(c:Tj a b m)(x:L p a k)(d:¬p b):Tj k b m:=by have⟨e,clock,f,g⟩:=c;exact⟨e,clock,x.ae f d,g⟩
theorem Tj.lt{m:List (E×J0)}(c:Tj a b m):b<a.size:=by have⟨e,clock,d,f⟩:=c;exact Ap d
theorem Tj.empty{c:Nat}(d:a[b]?=Z (.map #[] c)):Tj a b []:=⟨#[],c,d,rfl,MapKept.stamped_empty c,by simp,by simp⟩
theorem eQ.len{m:List (E×J0)}(a:eQ eq b m):eq.size=J m:=by rw[<-P2];have:=congrArg List.length a.same;simpa using this
theorem eQ.keysOf{m:List (E×J0)}(a:eQ eq b m):eq.toList.map (·.key)=m.map λp=>Value.string p.1:=by have:=congrArg (List.map Prod.fst) a.same;simpa[E0,Is]using this
theorem eQ.nodup{m:List (E×J0)}(c:eQ eq b m):(m.map (·.1)).Nodup:=by
 have a:=c.stamped.2.2;rw[c.keysOf]at a;have d:(m.map λp=>Value.string p.1)=(m.map (·.1)).map Value.string:=by simp
 rw[d]at a;exact(GB.1 a).imp λe f=>e (congrArg _ f)
theorem Yn(a:E)(g:J0):∀(b:List MapEntry)(m:List (E×J0))(i:Nat),(b.map λe=>(e.key,e.val))=(m.map λp=>(Value.string p.1,p.2))->(Instr.findNow .string (.string a) b i=Z V/\Me a m=V/\Sa a g m=m++[(a,g)]/\jP a m=m/\∀e∈b,e.key≠.string a)\/∃c u,Instr.findNow .string (.string a) b i=Z (Z (i+c,u))/\Me a m=Z u/\(∃e,b[c]?=Z e/\e.key=.string a)/\((b.modify c λe=>{e with key:=.string a,val:=g}).map λe=>(e.key,e.val))=(Sa a g m).map (λp=>(Value.string p.1,p.2))/\((m.map (·.1)).Nodup->((b.eraseIdx c).map λe=>(e.key,e.val))=(jP a m).map λp=>(Value.string p.1,p.2))|[],[],i,_=>.inl ⟨rfl,rfl,rfl,rfl,by simp⟩|[],_::_,_,d=>by simp at d|_::_,[],_,d=>by simp at d|e::b,p::m,i,d=>by simp[DM,Mb,A02]at d;obtain⟨⟨k,n⟩,l⟩:=d;have t:Instr.sameNow .string (.string a) e.key=Z (decide (a=p.1)):=by{rw[k];show Z (a==p.1)=_;congr 1;rw[Fo,MapKept.bytes_beq];simp};by_cases f:p.1=a;{refine .inr ⟨0,e.val,by simp_all[Instr.findNow,Bs],by rw[Jp,A1 f,n],⟨e,rfl,by rw[k,f]⟩,by simp_all[Sa,A1],?_⟩;intro v;simp[List.eraseIdx_zero,Tl];rw[l];congr 1;unfold jP;rw[Cp];simp[f,decide_true,R2,BW,BY];refine(I3.2 λw x=>?_).symm;grind};rcases Yn a g b m (i+1) l with⟨o,h,j,q,y⟩|⟨c,u,o,h,⟨r,j,s⟩,z,q⟩;{refine .inl ⟨?_,?_,?_,?_,?_⟩;{grind[Instr.findNow,decide_eq_false]};{rw[Jp,A0 f];exact h};{unfold Sa;rw[A0 f,j];rfl};{simp_all[jP,Cp];omega};simp_all};refine .inr ⟨c+1,u,?_,?_,⟨r,j,s⟩,?_,?_⟩;{grind[Instr.findNow,decide_eq_false]};{rw[Jp,A0 f];exact h};{simp_all[Sa,A0]};simp_all[Kp,jP,Cp]
theorem ML(b:M.underlying y=Z .string)(c:Bool)(d:Nat)(e:E)(a:World):(Instr.checkKey c (d+1) y (.string e)).run M a=.ok () a:=by simp[Instr.checkKey,CG b]
theorem JZ{P:Q1}(i:P.underlying y=Z (.map be bs))(c:P.underlying be=Z .string)(l:(zeroValue bs).calc P=Z bt){m:List (E×J0)}(o:Tj a b m)(p:e ((Me h m).getD bt) a):Ew d P (Instr.lookup y (.map (Z b)) (.string h) U) a e:=by intro n;refine⟨_,a,n,?_,p⟩;obtain⟨q,clock,r,s⟩:=o;have j:=MapKept.run_getObj_map (P:=P) (w:=d.at a n) r;rcases Yn h bt q.toList m 0 s.same with⟨f,g,_⟩|⟨v,u,f,g,_,_⟩;{simp[Instr.lookup,CG i,j,ML c,Instr.findKey,CG c,f,g,Result.andThen,ER l]};simp[Instr.lookup,CG i,j,ML c,Instr.findKey,CG c,f,g,Result.andThen]
theorem AJs:∀{m:List (E×J0)}{p:E×J0},p∈Sa h u m->p.1=h\/p∈m|[],p,a=>by simp_all[Sa]|q::m,p,a=>by unfold Sa at a;split at a;{grind};rcases AN.1 a with rfl|a;{simp_all};exact(AJs a).imp id (CT _)
theorem wC{P:Q1}(C:P.underlying y=Z (.map be bs))(o:P.underlying be=Z .string){m:List (E×J0)}(F:Tj a b m)(H:h.size<=maxLen)(ag:J m<maxLen)(q:∀f,Tj f b (Sa h bt m)->L (λc=>c=b) a f->f.size=a.size->bh f):j8 d P (Instr.mapUpdate y (.map (Z b)) (.string h) bt) a bh:=by
 intro n;obtain⟨g,clock,j,e⟩:=F;have r:=Ap j;have I:=MapKept.run_getObj_map (P:=P) (w:=d.at a n) j;have R:∀i,(setObj b i).run P (d.at a n)=.ok () (d.at (a.setIfInBounds b i) n):=λi=>MapKept.run_setObj_map i j;have s:∀p∈Sa h bt m,p.1.size<=maxLen:=λp S=>(AJs S).elim (λa=>by rw[a];exact H) (e.keys p);have ah:=e.len;rcases Yn h bt g.toList m 0 e.same with⟨z,X,l,_,W⟩|⟨B,u,z,X,⟨M,l,Q⟩,ai,_⟩;{refine⟨a.setIfInBounds b (.map (g.push {key:=.string h,val:=bt,born:=clock}) (clock+1)),n,by simp_all[Instr.mapUpdate,CG,ML,Instr.findKey,Result.andThen],q _ ⟨_,_,Dl r,?_,MapKept.stamped_push e.stamped W,by simp;omega,s⟩ (BB rfl) (by simp)⟩;rw[l];simp[e.same]};have ae:g[B]?=Z M:=by simpa using l
 refine⟨a.setIfInBounds b (.map (g.modify B λe=>{e with key:=.string h,val:=bt}) clock),n,?_,q _ ⟨_,_,Dl r,?_,MapKept.stamped_modify e.stamped _ _ (λ_ _=>rfl) (λx _ aj=>?_),by simpa using e.size,s⟩ (BB rfl) (by simp)⟩;{have af:∀w,(Instr.keyThatStays (.string h) (.string h)).run P w=.ok (.string h) w:=λw=>by{simp[Instr.keyThatStays,Instr.sameBits,(MapKept.bytes_beq h h).2 rfl]};simp[Instr.mapUpdate,CG C,I,ML o,Instr.findKey,CG o,z,ae,Q,af,Result.andThen,R]};{simp_all};simp_all
theorem ARL{P:Q1}(R:P.underlying y=Z (.map be bs))(S:P.underlying be=Z .string){m:List (E×J0)}(x:Tj a b m)(r:∀i,Tj i b (jP h m)->L (λc=>c=b) a i->i.size=a.size->e (.tuple #[]) i):Ew d P (Builtin.delete_ #[y,be] fb #[.map (Z b),.string h]) a e:=by
 intro n;obtain⟨g,clock,l,f⟩:=x;have s:=Ap l;have X:=MapKept.run_getObj_map (P:=P) (w:=d.at a n) l;have W:∀j,(setObj b j).run P (d.at a n)=.ok () (d.at (a.setIfInBounds b j) n):=λj=>MapKept.run_setObj_map j l;have v:∀p∈jP h m,p.1.size<=maxLen:=λp z=>f.keys p (Fk.1 z).1;rcases Yn h (.bool Y) g.toList m 0 f.same with⟨B,C,_,o,_⟩|⟨q,u,B,C,⟨F,H,M⟩,_,o⟩;{refine⟨_,a.setIfInBounds b (.map g clock),n,?_,r _ ⟨_,_,Dl s,by rw[o];exact f.same,f.stamped,f.size,v⟩ (BB rfl) (by simp)⟩;simp_all[Builtin.delete_,CG,ML,Instr.findKey,Result.andThen]};have I:g[q]?=Z F:=by simpa using H
 refine⟨_,a.setIfInBounds b (.map (g.eraseIdxIfInBounds q) clock),n,by simp_all[Builtin.delete_,CG,ML,Instr.findKey,Result.andThen],r _ ⟨_,_,Dl s,?_,MapKept.stamped_erase f.stamped _,?_,v⟩ (BB rfl) (by simp)⟩;{rw[Array.eraseIdxIfInBounds,dif_pos (IH.1 I).1,A14];exact o f.nodup};have:(g.eraseIdxIfInBounds q).size<=g.size:=by grind
 have:=f.size;omega
def pJ(_:J0):Option (DataW Unit×List MemPlace):=Z (.nil,[])
theorem AMN(x:Lit×DataW an):∀l:List (Lit×DataW an),(DataW.insert x l).Perm (x::l)|[]=>by simp[DataW.insert]|y::r=>by unfold DataW.insert;split;{exact N4 _};exact((AMN x r).cons y).trans (List.Perm.swap x y r)
theorem sorted_perm:∀l:List (Lit×DataW an),(l.foldr DataW.insert []).Perm l|[]=>N4 _|x::r=>(AMN x _).trans ((sorted_perm r).cons x)
theorem AO6{P:Q1}{kt:Q7}(h:P.underlying kt=Z .string){w:World}{m:List (E×J0)}(i:Tj w.heap b m):∃d:DataW Unit,w.ownsMap P kt pJ b (J m) d/\(strKeys d).Perm (m.map λp=>p.1.data.toList)/\Maps.size d=J m:=by
 obtain⟨c,clock,j,a⟩:=i;have k:∀x∈c.toList,∃s:E,x.key=.string s/\WideElems.rd P kt pJ x=Z (.string s.data.toList,.nil):=by intro x e;have:x.key∈m.map λp=>Value.string p.1:=by{rw[<-a.keysOf];grind};obtain⟨p,l,g⟩:=B9.1 this;refine⟨p.1,g.symm,?_⟩;simp[WideElems.rd,<-g,Go.WideMaps.keyOf_string_mk h (a.keys p l),pJ]
 refine⟨_,⟨c,clock,j,⟨a.size,a.stamped,λx e=>by grind⟩,by rw[a.len];exact A2 _,rfl⟩,?_,?_⟩;{refine((sorted_perm _).map _).trans ?_;have f:(c.toList.map (WideElems.rg P kt pJ)).map (λp=>strOf p.1)=(c.toList.map (·.key)).map λv=>match v with|.string s=>s.data.toList|_=>[]:=by{rw[E0,E0];refine HJ λx e=>?_;obtain⟨s,f,n⟩:=k x e;simp[Function.comp,WideElems.rg,n,f,strOf]};rw[f,a.keysOf,E0];exact List.Perm.of_eq (HJ λx _=>rfl)};show(J ((c.toList.map (WideElems.rg P kt pJ)).foldr DataW.insert []))=_;rw[(sorted_perm _).length_eq];simp[a.len]
def rM(c:List E):Prop:=c.Pairwise λa b=>aS a b=Y
theorem AOD{c:List (List UInt8)}(d:rM cy)(e:c.Perm (cy.map λx=>x.data.toList)):(c.mergeSort λx f=>decide (x<=f))=cy.map λx=>x.data.toList:=by
 have g:(cy.map λx=>x.data.toList).mergeSort leB=cy.map λx=>x.data.toList:=by refine List.mergeSort_of_pairwise (GB.2 (d.imp λ{a b}h=>?_));simp_all[pI,AW,List.le_of_lt]
 exact(mergeSort_of_perm e).trans g
theorem ARb(a:List E):(a.map λx=>x.data.toList).map Proofs.encStr=a.flatMap OY.enc:=by induction a with|nil=>rfl|cons x r b=>rw[DM,DM,b,CI];rfl
theorem wrap_u32(a:Nat):J8 .u32 (a:Int)=((a%4294967296:Nat):Int):=by simp[J8,IntKind.bits,IntKind.signed]
theorem wrap_u64(a:Nat):J8 .u64 (a:Int)=((a%18446744073709551616:Nat):Int):=by simp[J8,IntKind.bits,IntKind.signed]
theorem YY(c:b<4294967296)(d:f<4294967296):hU .u32 (b:Int) (f:Int)=((b^^^f:Nat):Int):=by
 have e:b^^^f<2^32:=R1 (c) (d);unfold hU;have g:(BitVec.ofInt (IntKind.bits .u32) (b:Int)^^^BitVec.ofInt (IntKind.bits .u32) (f:Int)).toNat=b^^^f:=by show(BitVec.ofInt 32 (b:Int)^^^BitVec.ofInt 32 (f:Int)).toNat=b^^^f;grind
 rw[g,wrap_u32,BT (e)]
theorem AYH{b:Nat}(c:f<4294967296)(d:b<4294967296):eN .u32 (f:Int) (b:Int)=((f|||b:Nat):Int):=by
 have e:f|||b<2^32:=Sp (c) (d);unfold eN;have g:(BitVec.ofInt (IntKind.bits .u32) (f:Int)|||BitVec.ofInt (IntKind.bits .u32) (b:Int)).toNat=f|||b:=by show(BitVec.ofInt 32 (f:Int)|||BitVec.ofInt 32 (b:Int)).toNat=f|||b;grind
 rw[g,wrap_u32,BT (e)]
theorem AVq(c:b<18446744073709551616)(d:f<18446744073709551616):eN .u64 (b:Int) (f:Int)=((b|||f:Nat):Int):=by
 have e:b|||f<2^64:=Sp (c) (d);unfold eN;have g:(BitVec.ofInt (IntKind.bits .u64) (b:Int)|||BitVec.ofInt (IntKind.bits .u64) (f:Int)).toNat=b|||f:=by show(BitVec.ofInt 64 (b:Int)|||BitVec.ofInt 64 (f:Int)).toNat=b|||f;grind
 rw[g,wrap_u64,BT (e)]
def xI(a b:Nat):(a:Int)*(b:Int)=((a*b:Nat):Int):=(Int.natCast_mul a b).symm
def hA(a b:Nat):Nat:=((a^^^b)*16777619)%4294967296
def hX(a b:Nat):Nat:=((a+b)%4294967296*2246822507)%4294967296
def hB(a b:Nat):Nat:=hX a b^^^(hX a b/8192)
def Xw(a:List UInt8):Nat×Nat:=a.foldl (λs c=>(hA s.1 c.toNat,hB s.2 c.toNat)) (2166136261,2538058380)
def pU(a:E):Nat:=(Xw a.data.toList).1
def sK(a:E):Nat:=(Xw a.data.toList).2|||1
theorem AZn(a b:Nat):hA a b<4294967296:=CH _ (by decide)
theorem AX1(a b:Nat):hX a b<4294967296:=CH _ (by decide)
theorem AZR(a b:Nat):hB a b<4294967296:=by have c:=AX1 a b;have:hB a b<2^32:=R1 (c) (by omega);simpa using this
theorem AFt(a:List UInt8)(b:UInt8):Xw (a++[b])=(hA (Xw a).1 b.toNat,hB (Xw a).2 b.toNat):=by simp[Xw]
theorem AM4(a:List UInt8):(Xw a).1<4294967296/\(Xw a).2<4294967296:=by rw[<-List.reverse_reverse a];cases a.reverse with|nil=>decide|cons c r=>simp_all[A0l,AFt,AZn,AZR]
def ALU(a:E):pU a<4294967296:=(AM4 _).1
theorem AZz(d:b<4294967296)(e:f<256):J8 .u32 ((hU .u32 (b:Int) (J8 .u32 (f:Int)))*(16777619:Int))=((hA b f:Nat):Int):=by rw[wrap_u32,BT (by omega),YY d (by omega),show((b^^^f:Nat):Int)*(16777619:Int)=(((b^^^f)*16777619:Nat):Int)from xI _ 16777619,wrap_u32];rfl
theorem AZN(a:b<4294967296)(d:f<256):J8 .u32 ((J8 .u32 ((b:Int)+(J8 .u32 (f:Int))))*(2246822507:Int))=((hX b f:Nat):Int):=by rw[wrap_u32 f,BT (by omega),show((b:Int)+(f:Int))=((b+f:Nat):Int)by push_cast;rfl,wrap_u32,show(((b+f)%4294967296:Nat):Int)*(2246822507:Int)=(((b+f)%4294967296*2246822507:Nat):Int)from xI _ 2246822507,wrap_u32];rfl
theorem XT(a b:Nat):(a:Int).fdiv ((2:Int)^b)=((a/2^b:Nat):Int):=by grind
theorem AZh(a:b<4294967296)(d:f<256):hU .u32 (J8 .u32 ((J8 .u32 ((b:Int)+(J8 .u32 (f:Int))))*(2246822507:Int))) ((J8 .u32 ((J8 .u32 ((b:Int)+(J8 .u32 (f:Int))))*(2246822507:Int))).fdiv ((2:Int)^(13:Nat)))=((hB b f:Nat):Int):=by have e:=AX1 b f;have g:hX b f/2^13<=hX b f:=Nat.div_le_self _ _;rw[AZN a d,XT,YY e (by omega)];rfl
theorem TS{i:Nat}{c:UInt8}(a:h.data.toList[i]?=Z c):dK h (i:Int)=(c.toNat:Int):=by
 have hi:i<J h.data.toList:=(AD.1 a).1;have b:i<h.size:=hi;unfold dK;have d:(i:Int).toNat=i:=by omega
 rw[d];have e:h[i]?=Z c:=by rw[getElem?_pos h i b];congr 1;have f:=(AD.1 a).2;rw[<-f];rw[Array.getElem_toList];rfl
 rw[e];rfl
def px(a:Nat):Int:=if a<1024 then 1024-(a:Int)else if a<2048 then 1024-(a:Int)else if a<3072 then(a:Int)-3072 else(a:Int)-3072
def Ao(a:List UInt8):E:=⟨a.toArray⟩
theorem EC(a:List UInt8):(Ao a).data.toList=a:=by simp[Ao]
theorem FE(a:E):Ao a.data.toList=a:=by simp[Ao]
theorem AY(a:List UInt8):(Ao a).size=J a:=by simp[Ao,ByteArray.size]
theorem LU{a b:List UInt8}:Ao a=Ao b↔a=b:=⟨λc=>by simp_all[Ao,congrArg],λc=>by rw[c]⟩
def Cc(a:Nat):UInt8:=UInt8.ofNat a
theorem DR(a:b<256):(Cc b).toNat=b:=by simp[Cc,A04];omega
theorem AMs(a:UInt8):Cc a.toNat=a:=by simp[Cc]
def Bt(a:Nat):List UInt8:=if a<128 then[Cc a]else Cc (a%128+128)::Bt (a/128)termination_by a decreasing_by omega
theorem F3{n:Nat}(a:n<128):Bt n=[Cc n]:=by rw[Bt,A1 a]
theorem R4{n:Nat}(a:¬n<128):Bt n=Cc (n%128+128)::Bt (n/128):=by rw[Bt,A0 a]
def PN:Nat->Nat->List UInt8->Option (Nat×List UInt8)|_,_,[]=>V|i,a,c::t=>if 10<=i\/(i=9/\1<c.toNat)\/(0<i/\c.toNat=0)then V else if c.toNat<128 then Z (a+c.toNat*128^i,t)else PN (i+1) (a+c.toNat%128*128^i) t
theorem OO{i:Nat}(a:i<=b):128^i<=128^b:=A05 (by decide) a
theorem jU(f:List UInt8):∀(n i a:Nat),n*128^i<18446744073709551616->(i=0\/0<n)->PN i a (Bt n++f)=Z (a+n*128^i,f):=by intro n;induction n using Nat.strongRecOn with|ind n h=>intro i a k l;by_cases c:n<128;{rw[F3 c];simp only[DH,CM,PN,DR (show n<256 by omega)];rw[A0,A1 c];rintro(b|⟨b,d⟩|⟨b,d⟩);{have e:=OO b;have g:1*128^i<=n*128^i:=DG _ (by omega);omega};{grind};omega};rw[R4 c];have hd:n/128<n:=by{omega};simp only[DH,PN,DR (show n%128+128<256 by omega)];rw[A0,A0 (by omega),h (n/128) hd];{have j:(n%128+128)%128=n%128:=by{omega};rw[j,GF,KB,show n%128*128^i+n/128*(128^i*128)=(n%128+128*(n/128))*128^i by grind,Nat.mod_add_div]};{have e:n/128*128<=n:=Nat.div_mul_le_self _ _;have g:n/128*128*128^i<=n*128^i:=DG _ e;rw[GF,IS (128^i) 128,<-My];omega};{omega};rintro(b|⟨b,d⟩|⟨b,d⟩);{have e:=OO b;have g:128*128^i<=n*128^i:=DG _ (by omega);omega};{grind};omega
theorem AMl:∀(l:List UInt8)(i a n:Nat)(t:List UInt8),PN i a l=Z (n,t)->∃m,n=a+m*128^i/\l=Bt m++t/\m*128^i<18446744073709551616/\(i=0\/0<m)|[],i,a,n,t,b=>by simp[PN]at b|c::l,i,a,n,t,b=>by simp only[PN]at b;split at b;{cases b};rename_i k;have o:=c.toNat_lt;split at b;{rename_i d;obtain⟨rfl,rfl⟩:=b;refine⟨c.toNat,rfl,by rw[F3 d,AMs];rfl,?_,by omega⟩;by_cases p:i=9;{grind};have q:=OO (show i<=8 by omega);have r:c.toNat*128^i<=127*128^i:=DG _ (by omega);omega};rename_i d;obtain⟨m,s,rfl,e,u⟩:=AMl l (i+1) _ n t b;have v:0<m:=by{omega};refine⟨c.toNat%128+128*m,?_,?_,?_,by omega⟩;{grind};{rw[R4 (n:=c.toNat%128+128*m) (by omega),show(c.toNat%128+128*m)%128+128=c.toNat by omega,show(c.toNat%128+128*m)/128=m by omega,AMs];rfl};rw[GF,IS (128^i) 128,<-My]at e;have w:(18446744073709551616:Nat)=144115188075855872*128:=by{decide};have x:i<=8:=by{omega};have f:(18446744073709551616:Nat)=128^(i+1)*(18446744073709551616/128^(i+1)):=by{have:i=0\/i=1\/i=2\/i=3\/i=4\/i=5\/i=6\/i=7\/i=8:=by{omega};rcases this with rfl|rfl|rfl|rfl|rfl|rfl|rfl|rfl|rfl<;>decide};have g:0<128^i:=Nat.pos_of_ne_zero (Nat.pos_iff_ne_zero.1 (Nat.pow_pos (by decide)));have h:m<18446744073709551616/128^(i+1):=by{refine Nat.lt_of_mul_lt_mul_left (a:=128^(i+1)) ?_;grind};have j:128^(i+1)*(m+1)<=128^(i+1)*(18446744073709551616/128^(i+1)):=Nat.mul_le_mul_left _ h;rw[<-f,GF]at j;have y:(c.toNat%128+128*m)*128^i<128*(m+1)*128^i:=A1r (by omega) g;have z:128*(m+1)*128^i=128^i*128*(m+1):=by{grind};omega
theorem AHZ:∀n:Nat,∃a x,Bt n=a++[x]/\(∀c∈a,128<=c.toNat)/\x.toNat<128:=by intro n;induction n using Nat.strongRecOn with|ind n e=>by_cases d:n<128;{exact⟨[],Cc n,by rw[F3 d];rfl,by simp,by grind[DR]⟩};have⟨a,x,f,g,h⟩:=e (n/128) (by omega);refine⟨Cc (n%128+128)::a,x,by rw[R4 d,f];rfl,λc b=>?_,h⟩;rcases AN.1 b with rfl|b;{grind[DR]};exact g c b
theorem AMS:∀(a n:Nat),n<128^(a+1)->J (Bt n)<=a+1:=by intro a;induction a with|zero=>simp_all[F3]|succ a b=>grind[F3,R4,Nat.div_lt_iff_lt_mul,Nat.pow_succ]
theorem Ak{n:Nat}(a:n<18446744073709551616):J (Bt n)<=10:=by refine AMS 9 n (CN a ?_);decide
def TD:List UInt8->Nat|[]=>0|c::t=>c.toNat%128+128*TD t
theorem ASq:∀n:Nat,TD (Bt n)=n:=by intro n;induction n using Nat.strongRecOn with|ind n a=>grind[F3,TD,DR,R4]
theorem AJg(a:UInt8):∀l:List UInt8,TD (l++[a])=TD l+a.toNat%128*128^J l|[]=>by simp[TD]|x::l=>by simp[DH,TD,AJg a l,Bk,GF,Nat.mul_add];grind
theorem AQe:∀l:List UInt8,TD l<128^J l|[]=>by simp[TD]|c::l=>by have:=AQe l;simp[TD,Bk,GF];omega
theorem pV(a:PN 0 0 a6=Z (b,ch)):a6=Bt b++ch/\b<18446744073709551616:=by grind[AMl]
theorem Yi(c:b<18446744073709551616)(a:List UInt8):PN 0 0 (Bt b++a)=Z (b,a):=by rw[jU a b 0 0 (by simpa using c) (.inl rfl)];simp
theorem sL{m:Nat}(a:b<18446744073709551616)(c:m<18446744073709551616)(d:Bt b++a6=Bt m++ch):b=m/\a6=ch:=by grind[Yi]
theorem ATn{i:Nat}(j:a6[i]?=Z d0)(k:d0.toNat<128)(d:∀x∈a6.take i,128<=x.toNat)(hi:i<10):PN 0 0 a6=if Bt (TD (a6.take (i+1))%18446744073709551616)=a6.take (i+1)then Z (TD (a6.take (i+1))%18446744073709551616,a6.drop (i+1))else none:=by by_cases a:Bt (TD (a6.take (i+1))%18446744073709551616)=a6.take (i+1);{rw[A1 a];grind[Yi,TD,Nat.mod_lt,List.take_append_drop]};rw[A0 a];cases e:PN 0 0 a6 with|none=>rfl|some p=>obtain⟨n,t⟩:=p;obtain⟨m,f⟩:=pV e;exfalso;obtain⟨b,x,o,q,r⟩:=AHZ n;have s:J b=i:=by{rcases LO (J b) i with u|g|v;{have:x∈a6.take i:=by{have:(a6.take i)[J b]?=Z x:=by{simp_all};exact AH this};have:=d x this;omega};{exact g};grind};have h:a6.take (i+1)=Bt n:=by{grind};rw[h,ASq,BT f]at a;exact a rfl
theorem ANs(a:∀x∈a6.take 10,128<=x.toNat):PN 0 0 a6=none:=by cases b:PN 0 0 a6 with|none=>rfl|some p=>obtain⟨n,t⟩:=p;obtain⟨e,c⟩:=pV b;have⟨d,x,f,g,h⟩:=AHZ n;have i:=Ak c;have:x∈a6.take 10:=by{have:(a6.take 10)[J d]?=Z x:=by{grind};exact AH this};have:=a x this;omega
def pW(a:Nat):Nat:=if a%2=1 then a/2^^^3988292384 else a/2
def sM:Nat->Nat->Nat|0,c=>c|k+1,c=>pW (sM k c)
def sN(a:Nat)(b:UInt8):Nat:=sM 8 (a^^^b.toNat)
def kR(a:List UInt8):Nat:=a.foldl sN 4294967295
def mJ(a:List UInt8):Nat:=4294967295-kR a
theorem ARd(a:b<4294967296):pW b<4294967296:=by unfold pW;split;{exact R1 (n:=32) (by omega) (by decide)};omega
theorem xJ(a:b<4294967296):∀k,sM k b<4294967296|0=>a|k+1=>ARd (xJ a k)
theorem AXO(d:b<4294967296)(a:UInt8):sN b a<4294967296:=by have e:=a.toNat_lt;exact xJ (R1 (n:=32) d (by omega)) 8
theorem ASX(a:List UInt8)(b:UInt8):kR (a++[b])=sN (kR a) b:=by simp[kR]
theorem AQT(a:List UInt8):kR a<4294967296:=by suffices  ∀(a:List UInt8)(c:Nat),c<4294967296->a.foldl sN c<4294967296 from this a _ (by decide);intro a;induction a with|nil=>exactλc b=>b|cons x a d=>simp_all[AXO]
def WC(a:Nat):List UInt8:=[Cc (a/16777216%256),Cc (a/65536%256),Cc (a/256%256),Cc (a%256)]
theorem Pv(a:Nat):J (WC a)=4:=rfl
def KX(a:List UInt8):List UInt8:=Bt (J a)++WC (mJ a)++a
def TH(a:List UInt8):Nat×List UInt8×List UInt8:=match PN 0 0 a with|none=>if J a<10/\∀c∈a,128<=c.toNat then(20,[],[])else(21,[],[])|some (n,r)=>if 1048576<n then(21,[],[])else if J r<4+n then(20,[],[])else if r.take 4=WC (mJ ((r.drop 4).take n))then(0,(r.drop 4).take n,r.drop (4+n))else(21,[],[])
theorem ARc(e:J a6<=1048576)(a:List UInt8):TH (KX a6++a)=(0,a6,a):=by
 unfold TH KX;rw[AI,AI,Yi (by omega)];dsimp only;rw[A0 (by omega),A0 (by simp[Pv])];have c:(WC (mJ a6)++(a6++a)).take 4=WC (mJ a6):=by rw[A1w (by simp[Pv])];exact Bm (by simp[Pv])
 have b:(WC (mJ a6)++(a6++a)).drop 4=a6++a:=by rw[A1l (by simp[Pv])];simp[WC]
 have d:(a6++a).take (J a6)=a6:=by simp
 rw[c,b,d,A1 rfl,<-Ix,b];simp
structure Rd where
 rest:List UInt8
 bad:Bool
def Gx:Rd:=⟨[],Y⟩
def Rd.dq(a:Rd):Prop:=a.bad=Y->a.rest=[]
def GJ(a:Rd):Nat×Rd:=if a.bad then(0,a)else match PN 0 0 a.rest with|none=>(0,Gx)|some (n,t)=>(n,⟨t,U⟩)
def Bj(b:Nat)(a:Rd):Nat×Rd:=if(GJ a).2.bad then(0,(GJ a).2)else if b<(GJ a).1 then(0,Gx)else GJ a
def Ig(b:Nat)(a:Rd):List UInt8×Rd:=if a.bad then([],a)else if J a.rest<b then([],Gx)else(a.rest.take b,⟨a.rest.drop b,U⟩)
def Ec(a:Rd):List UInt8×Rd:=if(GJ a).2.bad then([],(GJ a).2)else Ig (GJ a).1 (GJ a).2
def Xq(a:Rd):Bool:=!a.bad&&a.rest.isEmpty
def Bo(a:List UInt8):List UInt8:=Bt (J a)++a
theorem AMF(c:b<18446744073709551616)(a:List UInt8):GJ ⟨Bt b++a,U⟩=(b,⟨a,U⟩):=by simp[GJ,Yi c]
theorem FO{n most:Nat}(b:n<18446744073709551616)(c:n<=most)(a:List UInt8):Bj most ⟨Bt n++a,U⟩=(n,⟨a,U⟩):=by grind[Bj,AMF]
theorem AIo(a b:List UInt8):Ig (J a) ⟨a++b,U⟩=(a,⟨b,U⟩):=by simp[Ig];omega
theorem MM{l:List UInt8}(b:J l<18446744073709551616)(a:List UInt8):Ec ⟨Bo l++a,U⟩=(l,⟨a,U⟩):=by simp only[Ec,Bo,AI,AMF b,AIo];simp
variable{bk:Rd}
theorem ALn(a:bk.bad=Y):GJ bk=(0,bk):=by simp[GJ,a]
theorem Px(a:bk.dq):(GJ bk).2.dq:=by unfold GJ;split;{exact a};split;{exactλ_=>rfl};exactλa=>by cases a
theorem OC{m:Nat}(a:bk.dq):(Bj m bk).2.dq:=by unfold Bj;split;{exact Px a};split;{exactλ_=>rfl};exact Px a
theorem AO3(a:bk.dq):(Ig b bk).2.dq:=by unfold Ig;split;{exact a};split;{exactλ_=>rfl};exactλa=>by cases a
theorem SC(a:bk.dq):(Ec bk).2.dq:=by unfold Ec;split;{exact Px a};exact AO3 (Px a)
theorem AIr(a:(GJ bk).2.bad=U):bk.bad=U/\bk.rest=Bt (GJ bk).1++(GJ bk).2.rest/\(GJ bk).1<18446744073709551616:=by unfold GJ at a⊢;split at a;{simp_all};rename_i c;cases b:PN 0 0 bk.rest with|none=>rw[b]at a;cases a|some p=>grind[pV]
theorem Hz{m:Nat}(a:(Bj m bk).2.bad=U):bk.bad=U/\bk.rest=Bt (Bj m bk).1++(Bj m bk).2.rest/\(Bj m bk).1<=m:=by unfold Bj at a⊢;split at a;{simp_all};split at a;{cases a};simp_all[A0,AIr]
theorem APO(a:(Ig b bk).2.bad=U):bk.bad=U/\bk.rest=(Ig b bk).1++(Ig b bk).2.rest/\J (Ig b bk).1=b:=by unfold Ig at a⊢;split at a;{simp_all};split at a;{cases a};simp_all[A0]
theorem VM(a:(Ec bk).2.bad=U):bk.bad=U/\bk.rest=Bo (Ec bk).1++(Ec bk).2.rest:=by unfold Ec at a⊢;split at a;{simp_all};rename_i b;rw[A0 b];grind[AIr,APO,Bo,List.append_assoc]
theorem sO(a:Rd):J (GJ a).2.rest<=J a.rest:=by unfold GJ;split;{exact A2 _};split;{simp[Gx]};rename_i n t b;obtain⟨c,_⟩:=pV b;rw[c];simp
theorem GQ(m:Nat)(a:Rd):J (Bj m a).2.rest<=J a.rest:=by grind[Bj,sO,Gx]
theorem ARk(b:Nat)(a:Rd):J (Ig b a).2.rest<=J a.rest/\J (Ig b a).1<=J a.rest:=by grind[Ig,Gx]
theorem MN(a:Rd):J (Ec a).2.rest<=J a.rest/\J (Ec a).1<=J a.rest:=by grind[Ec,sO,ARk,GJ]
def IU:bY UInt8 where enc x:=[.int .u8 (x.toNat:Int)];w:=1;len _:=rfl;pos:=by{omega};one x v a:=by simp at a;subst a;rfl
theorem Cells.byte{x:UInt8}(b:Cells a a4 (IU.enc x)):ah a a4=Z (.int .u8 (x.toNat:Int)):=by have c:=b 0 _ rfl;rwa[add_zero]at c
theorem AI1:∀(l:List UInt8)(s:E),(l.map λc=>(c.toNat:Int)).foldl (λr n=>r.push (UInt8.ofNat n.toNat)) s=⟨s.data++l.toArray⟩|[],s=>by simp|c::l,s=>by simp only[DM,LS];rw[AI1 l];simp_all
theorem MI{P:Q1}(j:P.underlying y=Z (.slice bs))(m:P.underlying bs=Z (.int .u8))(o:P.underlying be=Z .string){s:Sl}{l:List UInt8}(f:View IU k s l)(p:e (.string (Ao l)) k):Ew d P (convert y be (.slice s.p s.len s.cap)) k e:=by have q:=f.len;refineλn=>⟨_,k,n,?_,p⟩;rw[run_convert_bytes_string _ y be bs _ s.len s.cap j m o];cases g:s.p with|none=>have r:l=[]:=by{cases l with|nil=>rfl|cons c l=>obtain⟨a,b,_⟩:=f.cells 0 c rfl;rw[g]at b;cases b};subst r;simp[Conv.bytesToString,Ao];rfl|some a=>have t:(loadCells a s.len).run P (d.at k n)=.ok ((l.map λc=>(c.toNat:Int)).map (Value.int .u8)).toArray (d.at k n):=by{have:=run_loadCells_list (P:=P) (w:=d.at k n) a ((l.map λc=>(c.toNat:Int)).map (Value.int .u8)) (λv u i=>by simp only[HG,Option.map_map,Hj]at i;obtain⟨c,x,rfl⟩:=i;obtain⟨B,b,z⟩:=f.cells v c x;rw[g]at b;cases b;have:=Cells.byte z;simp only[IU,Ds]at this;exact this);simpa[q]using this};rw[run_bytesToString _ a s.len s.cap _ t,AI1];simp[Ao,ByteArray.empty,ByteArray.emptyWithCapacity];rfl
theorem eS(a:E)(i b:Nat):a.extract i b=Ao ((a.data.toList.take b).drop i):=by apply A0m;grind[ByteArray.data_extract,Ao,Array.toList_inj,Array.toList_extract,List.extract_eq_take_drop,List.drop_take]
theorem ASh(a:E):J a.data.toList=a.size:=by simp_all
theorem AMR(a:E)(i:Nat):a.extract i a.size=Ao (a.data.toList.drop i):=by rw[eS,Bm (by simp_all)]
theorem AS4(a:E)(i:Nat):a.extract 0 i=Ao (a.data.toList.take i):=by rw[eS];simp
theorem wrap_u8(a:Nat):J8 .u8 (a:Int)=((a%256:Nat):Int):=by simp[J8,IntKind.bits,IntKind.signed]
theorem AXq{a b:Nat}(c:a<256)(d:b<256):eN .u8 (a:Int) (b:Int)=((a|||b:Nat):Int):=by
 have e:a|||b<2^8:=Sp (c) (d);unfold eN;have f:(BitVec.ofInt (IntKind.bits .u8) (a:Int)|||BitVec.ofInt (IntKind.bits .u8) (b:Int)).toNat=a|||b:=by show(BitVec.ofInt 8 (a:Int)|||BitVec.ofInt 8 (b:Int)).toNat=a|||b;grind
 rw[f,wrap_u8,BT (e)]
theorem AUf(c:b<256)(g:f<256):I5 .u8 (b:Int) (f:Int)=((b&&&f:Nat):Int):=by
 have d:b&&&f<2^8:=A08 Nat.and_le_left (c);unfold I5;have e:(BitVec.ofInt (IntKind.bits .u8) (b:Int)&&&BitVec.ofInt (IntKind.bits .u8) (f:Int)).toNat=b&&&f:=by show(BitVec.ofInt 8 (b:Int)&&&BitVec.ofInt 8 (f:Int)).toNat=b&&&f;grind
 rw[e,wrap_u8,BT (d)]
theorem AWq(c:b<4294967296)(g:f<4294967296):I5 .u32 (b:Int) (f:Int)=((b&&&f:Nat):Int):=by
 have d:b&&&f<2^32:=A08 Nat.and_le_left (c);unfold I5;have e:(BitVec.ofInt (IntKind.bits .u32) (b:Int)&&&BitVec.ofInt (IntKind.bits .u32) (f:Int)).toNat=b&&&f:=by show(BitVec.ofInt 32 (b:Int)&&&BitVec.ofInt 32 (f:Int)).toNat=b&&&f;grind
 rw[e,wrap_u32,BT (d)]
theorem AZ6:∀x,x<256->x|||128=x%128+128:=by decide+kernel
theorem AYp:∀x,x<256->x&&&127=x%128:=by decide+kernel
theorem AVp(c:Nat):eN .u8 (J8 .u8 (c:Int)) (128:Int)=(((Cc (c%128+128)).toNat:Nat):Int):=by have d:=AXq (a:=c%256) (b:=128) (CH _ (by decide)) (by decide);rw[wrap_u8];rw[show(128:Int)=((128:Nat):Int)from rfl,d,AZ6 _ (CH _ (by decide)),DR (by omega)];congr 1;omega
theorem xL(i:Nat):2^(7*i)=128^i:=by rw[Nat.pow_mul]
theorem AQH{x i:Nat}(hi:i<=9)(e:b<128^i)(f:x<128):eN .u64 (b:Int) (((x*128^i%18446744073709551616:Nat)):Int)=((b+x*128^i%18446744073709551616:Nat):Int):=by
 have g:0<128^i:=Nat.pow_pos (by decide);have h:=OO hi;have j:(128:Nat)^9=9223372036854775808:=by decide
 rw[AVq (by omega) (CH _ (by decide))];congr 1;have c:∃d,(18446744073709551616:Nat)=128^i*d:=by have:i=0\/i=1\/i=2\/i=3\/i=4\/i=5\/i=6\/i=7\/i=8\/i=9:=by{omega};refine⟨18446744073709551616/128^i,?_⟩;grind
 obtain⟨d,c⟩:=c;rw[c,IS x,Nat.mul_mod_mul_left,<-xL,Nat.or_comm,Nat.add_comm];exact(A1A (by rw[xL];exact e) _).symm
theorem AVV{x i:Nat}(hi:i<=9)(b:x<128):J8 .u64 ((x:Int)*((2:Int)^(min ((7*i:Nat):Int).toNat (IntKind.bits .u64))))=((x*128^i%18446744073709551616:Nat):Int):=by
 have a:min ((7*i:Nat):Int).toNat (IntKind.bits .u64)=7*i:=by have:IntKind.bits .u64=64:=rfl;omega
 rw[a,show((2:Int)^(7*i))=((2^(7*i):Nat):Int)by simp,xI,wrap_u64,xL]
def L.akF(x:G a k)(m:L p k a1)(d:∀b,p b->a.size<=b):G a a1:=L.then x (m.ag λc _ e=>.inr (d c e))
abbrev bl(a:E):List UInt8:=a.data.toList
theorem Bb(a:E):J (bl a)=a.size:=ASh a
theorem GN(a:List UInt8):bl (Ao a)=a:=EC a
theorem QI(a:E):Ao (bl a)=a:=FE a
def Ar(a:E):Bool:=decide (1<=a.size/\a.size<=16/\∀c∈bl a,33<=c.toNat/\c.toNat<=126)
theorem Fx:Ar h=Y↔1<=h.size/\h.size<=16/\∀c∈bl h,33<=c.toNat/\c.toNat<=126:=by simp[Ar]
structure bP where
 akB:Int
 name:E
 az:E
 akP:Int
 aC:Int
 akQ:Int
def bP.cells(x:bP):Array J0:=#[D x.akB,J7 x.name,J7 x.az,D x.akP,D x.aC,D x.akQ]
def Gz:bY bP where enc x:=[D x.akB,J7 x.name,J7 x.az,D x.akP,D x.aC,D x.akQ];w:=6;len _:=rfl;pos:=by{omega};one x v a:=by simp at a;rcases a with rfl|rfl|rfl|rfl|rfl|rfl<;>rfl
abbrev FB:E:=⟨#[]⟩
def bR(a lo hi:Int):Bool:=decide (lo<=a/\a<=hi)
theorem Bg{lo hi:Int}:bR i lo hi=Y↔lo<=i/\i<=hi:=by simp[bR]
def Mf(x:bP):Bool:=if x.akB=1 then((decide (x.az=FB)&&decide (x.aC=0))||(Ar x.az&&bR x.aC 1 5))&&Ar x.name&&bR x.akP 1 5&&decide (x.akQ=0)else if x.akB=2 then decide (x.name=FB)&&decide (x.az=FB)&&decide (x.akP=0)&&decide (x.aC=0)&&bR x.akQ 1 1000 else if x.akB=3 then decide (x.az=FB)&&decide (x.akP=0)&&decide (x.aC=0)&&decide (x.akQ=0)&&Ar x.name else U
structure aX where
 akC:List bP
 aw:Int
def Ej(p:aX):Bool:=decide (J p.akC<=16)&&bR p.aw 0 16000&&p.akC.all Mf
def GY(x:bP):List UInt8:=Bt x.akB.toNat++(if x.akB=1 then Bo (bl x.name)++Bt x.akP.toNat++Bo (bl x.az)++Bt x.aC.toNat else if x.akB=2 then Bt x.akQ.toNat else Bo (bl x.name))
def CE(p:aX):List UInt8:=Bt p.aw.toNat++Bt (J p.akC)++p.akC.flatMap GY
def Jk(g e h:Nat)(i:Bool)(j:Rd):bP×Rd:=let d:=Bj g j;if d.1=1 then let a:=Ec d.2;let b:=Bj e a.2;let c:=Ec b.2;let f:=Bj e c.2;(⟨1,Ao a.1,Ao c.1,b.1,f.1,0⟩,f.2)else if d.1=2 then let a:=Bj h d.2;(⟨2,FB,FB,0,0,a.1⟩,a.2)else if d.1=3\/i=Y then let a:=Ec d.2;(⟨d.1,Ao a.1,FB,0,0,0⟩,a.2)else(⟨d.1,FB,FB,0,0,0⟩,d.2)
def GL(a b c:Nat)(d:Bool):Nat->Rd->List bP×Rd|0,r=>([],r)|n+1,r=>let x:=Jk a b c d r;let e:=GL a b c d n x.2;(x.1::e.1,e.2)
def Qv(b c d e:Nat)(f:Bool)(g:List UInt8):aX×Rd:=let a:=Bj b ⟨g,U⟩;let n:=Bj 16 a.2;let s:=GL c d e f n.1 n.2;(⟨s.1,a.1⟩,s.2)
def F7(a:List UInt8):Option aX:=let x:=Qv 16000 3 5 1000 U a;if Xq x.2&&Ej x.1 then Z x.1 else V
theorem ANd:Xq bk=Y↔bk=⟨[],U⟩:=by obtain⟨l,b⟩:=bk;grind[Xq]
theorem AUU{lo hi:Int}(a:bR i lo hi=Y)(b:0<=lo):(i.toNat:Int)=i:=by rw[Bg]at a;omega
theorem ASY(a:Ar h=Y):h≠FB:=by rintro rfl;rw[Fx]at a;have:FB.size=0:=rfl;omega
theorem ARj(l:3<=b)(z:5<=f)(A:1000<=o){x:bP}(a:Mf x=Y)(j:List UInt8):Jk b f o ap ⟨GY x++j,U⟩=(x,⟨j,U⟩):=by
 obtain⟨B,name,m,p,d,C⟩:=x;have e:∀{s:E},s.size<=16->J (bl s)<18446744073709551616:=λg=>by rw[Bb];omega
 have k:∀{s:E},Ar s=Y->s.size<=16:=λg=>(Fx.1 g).2.1;unfold Mf at a;split at a;{rename_i c;subst c;simp[As,Gk,AW]at a;obtain⟨⟨⟨q,h⟩,r⟩,rfl⟩:=a;have t:m.size<=16/\0<=d/\d<=5:=by{rcases q with⟨rfl,rfl⟩|⟨g,F⟩;{exact⟨by decide,by omega,by omega⟩};grind[Bg]};rw[Bg]at r;have i:=FO (n:=(1:Int).toNat) (most:=b) (by decide) (by omega);have u:=MM (e (k h));have v:=FO (n:=p.toNat) (most:=f) (by omega) (by omega);simp only[Jk,GY,AT,AI,i,u,v,MM (e t.1),FO (n:=d.toNat) (most:=f) (by omega) (by omega)];rw[A1 (by decide)];simp[FE];omega};split at a;{rename_i w c;subst c;simp[As,AW]at a;obtain⟨⟨⟨⟨rfl,rfl⟩,rfl⟩,rfl⟩,y⟩:=a;rw[Bg]at y;simp only[Jk,GY,AT,AI,FO (n:=(2:Int).toNat) (most:=b) (by decide) (by omega)];rw[A0 (by decide),A1 (by decide),A0 (by decide),FO (by omega) (by omega)];simp;omega};split at a;{rename_i w H c;subst c;simp[As,AW]at a;obtain⟨⟨⟨⟨rfl,rfl⟩,rfl⟩,rfl⟩,h⟩:=a;have i:=FO (n:=(3:Int).toNat) (by decide) (l);simp only[Jk,GY,AT,AI,i];rw[A0 (by decide),A0 (by decide),A1 (.inl rfl),A0 (by decide),A0 (by decide),MM (e (k h))];simp[FE]};cases a
theorem AHN{all:Bool}(d:3<=b)(e:5<=f)(g:1000<=o)(a:List UInt8):∀{l:List bP},l.all Mf=Y->GL b f o all (J l) ⟨l.flatMap GY++a,U⟩=(l,⟨a,U⟩)|[],_=>rfl|x::l,c=>by simp only[Se,As]at c;simp[Bk,GL,CI,AI,ARj d e g c.1,AHN d e g a c.2]
theorem AIt{all:Bool}(m:16000<=b)(e:3<=f)(g:5<=o)(h:1000<=x){p:aX}(a:Ej p=Y):Qv b f o x all (CE p)=(p,⟨[],U⟩):=by obtain⟨l,i⟩:=p;simp only[Ej,As,AW]at a;obtain⟨⟨j,c⟩,k⟩:=a;have q:=Bg.1 c;have d:=AHN (all:=all) e g h [] k;rw[AM]at d;simp[Qv,CE,AI,FO (n:=i.toNat) (most:=b) (by omega) (by omega),FO (by omega) j,d,AUU c (by decide)]
theorem wE{p:aX}(a:Ej p=Y):F7 (CE p)=Z p:=by simp[F7,AIt (A2 _) (A2 _) (A2 _) (A2 _) a,a];rfl
theorem APE(a:(Jk b f o ap bk).2.bad=U):bk.bad=U/\(Mf (Jk b f o ap bk).1=Y->bk.rest=GY (Jk b f o ap bk).1++(Jk b f o ap bk).2.rest):=by unfold Jk at a⊢;simp only at a⊢;split at a;{rename_i c;obtain⟨l,p,_⟩:=Hz a;obtain⟨m,q⟩:=VM l;obtain⟨n,s,_⟩:=Hz m;obtain⟨d,k⟩:=VM n;obtain⟨e,i,_⟩:=Hz d;simp_all[A1,GY,AT,GN,AG,AI]};split at a;{rename_i g c;obtain⟨d,k,_⟩:=Hz a;obtain⟨e,i,_⟩:=Hz d;simp_all[A0,A1,GY,AG,trivial,AI]};split at a;{rename_i g j c;obtain⟨d,k⟩:=VM a;have⟨e,i,_⟩:=Hz d;refine⟨e,λh=>?_⟩;rw[A0 g,A0 j,A1 c]at h⊢;simp[GY,GN,AG];grind};rename_i g j c;have⟨e,i,_⟩:=Hz a;refine⟨e,λh=>?_⟩;rw[A0 g,A0 j,A0 c]at h;exfalso;unfold Mf at h;grind
theorem AEJ:∀(n:Nat){r:Rd},(GL b f o ap n r).2.bad=U->r.bad=U/\J (GL b f o ap n r).1=n/\((GL b f o ap n r).1.all Mf=Y->r.rest=(GL b f o ap n r).1.flatMap GY++(GL b f o ap n r).2.rest)|0,r,a=>⟨a,rfl,λ_=>rfl⟩|n+1,r,a=>by simp[GL]at a⊢;obtain⟨c,d,e⟩:=AEJ n a;obtain⟨g,h⟩:=APE c;simp_all
theorem TI{p:aX}(a:F7 a6=Z p):Ej p=Y/\CE p=a6:=by unfold F7 at a;simp only at a;split at a;{rename_i e;simp[As]at e;obtain⟨d,b⟩:=e;obtain rfl:=CC a;refine⟨b,?_⟩;rw[ANd]at d;have f:(Qv 16000 3 5 1000 U a6).2.bad=false:=by{rw[d]};have g:(Qv 16000 3 5 1000 U a6).2.rest=[]:=by{rw[d]};simp[Qv]at f g b⊢;obtain⟨h,i,c⟩:=AEJ _ f;obtain⟨j,k,_⟩:=Hz h;have⟨n,m,_⟩:=Hz j;simp only[Ej,As]at b;have c:=c b.2;rw[g,AM]at c;simp only[CE,AG,i];rw[<-c,AI,<-k,<-m]};cases a
theorem AOY{p:aX}:F7 a6=Z p↔Ej p=Y/\CE p=a6:=⟨TI,λ⟨a,b⟩=>by grind[wE]⟩
theorem AMP{b0 bk bt bw:Nat}{all:Bool}(d:16000<=b0)(e:3<=bk)(f:5<=bt)(g:1000<=bw)(a:List UInt8):F7 a=if Ej (Qv b0 bk bt bw all a).1=Y/\Xq (Qv b0 bk bt bw all a).2=Y/\CE (Qv b0 bk bt bw all a).1=a then Z (Qv b0 bk bt bw all a).1 else none:=by split;{simp_all[AOY]};rename_i b;cases hd:F7 a with|none=>rfl|some p=>exfalso;obtain⟨c,h⟩:=TI hd;subst h;rw[AIt d e f g c]at b;exact b ⟨c,rfl,rfl⟩
inductive Fv where
 |i (n:Int)
 |s (x:E)
 |b (x:Bool)
 deriving DecidableEq
def Fv.v:Fv->J0|.i n=>D n|.s x=>J7 x|.b x=>J3 x
def Fv.ok(a:Q1)(b:Q7):Fv->Bool|.i _=>(match a.underlying b with|some (.int D)=>Y|_=>U)|.s _=>(match a.underlying b with|some .string=>Y|_=>U)|.b _=>match a.underlying b with|some .bool=>Y|_=>U
def wF:Fv->Fv->Bool|.i _,.i _=>Y|.s _,.s _=>Y|.b _,.b _=>Y|_,_=>U
def nE(a:Q1):Nat->List Field->List Fv->Bool|_,[],[]=>Y|i,f::b,x::c=>!(f.name==String.ofList [Char.ofNat 95])&&Nat.beq f.offset i&&x.ok a f.type&&nE a (i+1) b c|_,_,_=>U
def dd:List Fv->List Fv->Bool|[],[]=>Y|x::a,b::c=>wF x b&&dd a c|_,_=>U
theorem AWo{x a:Fv}(c:x.ok M y=Y)(f:wF x a=Y)(e:World):(Op.equalIn (b+1) y x.v a.v).run M e=.ok (decide (x=a)) e:=by cases x<;>cases a<;>simp only[wF,BW]at f<;>simp only[Fv.ok]at c<;>split at c<;>(try cases c);{grind[Fv.v,run_equalIn_int,Fv.i.injEq]};{simp_all[Fv.v,run_equalIn_string,toList_inj,Fv.s.injEq]};grind[Fv.v,run_equalIn_bool',Fv.b.injEq]
theorem Fv.plain{x:Fv}(a:x.ok M y=Y):M.plainKey y=true:=by cases x<;>simp only[Fv.ok]at a<;>split at a<;>(try cases a)<;>(grind[Program.plainKey])
theorem AQK (h j:List Fv)(e:World): ∀(k:List Field) (a c:List Fv) (i:Nat),h.drop i=a->j.drop i=c->nE M i k a=Y->dd a c=Y->
  (Op.eqFields (b+1) (h.map Fv.v).toArray (j.map Fv.v).toArray k).run M e= .ok (decide (a=c)) e:=by
 intro k
 induction k with
 |nil=>
  intro a c i o p m g;cases a with
  |nil=>
   cases c with
   |nil=>simp[Op.eqFields]
   |cons n c=>simp[dd] at g
  |cons x a=>simp[nE] at m
 |cons f k v=>
  intro a c i o p m g;cases a with
  |nil=>simp[nE] at m
  |cons x a=>
   cases c with
   |nil=>simp[dd] at g
   |cons n c=>
    simp only[nE,dd,As,Nat.beq_eq] at m g;have⟨⟨⟨r,s⟩,q⟩,w⟩:=m;have y:h[i]? =Z x:=by have:=congrArg (λl:List Fv=>l[0]?) o;simpa [Fc] using this
    have z:j[i]? =Z n:=by have:=congrArg (λl:List Fv=>l[0]?) p;simpa [Fc] using this
    have A:h.drop (i+1)=a:=by rw[<- Ix,o];rfl
    have B:j.drop (i+1)=c:=by rw[<- Ix,p];rfl
    have C:(part f.type (h.map Fv.v).toArray f.offset).run M e= .ok x.v e:=run_part_plain e (Fv.plain q) (by rw[s];simp[y]);have F:(part f.type (j.map Fv.v).toArray f.offset).run M e= .ok n.v e:=run_part_plain e (Fv.plain q) (by rw[s];simp[z])
    have H : String.ofList [Char.ofNat 95] = "_" := by decide
    rw[H] at r
    have t : (f.name == "_") =U := by simpa using r
    simp[Op.eqFields,t,Sem.run_bind,Sem.run_ite,C,F,Result.andThen_ok,AWo q g.1];by_cases u:x=n
    ·simp[u,v a c (i+1) A B w g.2,Result.andThen]
    ·have I : f.name ≠ "_" := Cg t
     simp[u,Result.andThen,I]
def jk(a:Q1)(b:Q7)(c:List Fv):Bool:=!a.stoodInHeld b&&!a.eqGuardType a.depth b&&nE a 0 (a.fieldsOf b).toList c
theorem APf{b ys:List Fv}(g:M.underlying y=Z (.struct (M.fieldsOf y)))(c:jk M y b=Y)(i:dd b ys=Y){f:Array J0}(j:bn=(b.map Fv.v).toArray)(k:f=(ys.map Fv.v).toArray)(l:e (J3 (decide (b=ys))) a):Ew d M (do eqGuard .eql y cv c8 (.agg bn) (.agg f);binOp .eql y (.agg bn) (.agg f)) a e:=by simp[jk,As,GP]at c;subst j;subst k;refineλn=>⟨_,a,n,?_,l⟩;rw[Sem.run_bind,run_eqGuard_agg _ _ _ _ _ _ _ c.1.2,Result.andThen_ok,run_eql_struct,run_equalIn_agg _ _ _ _ _ g c.1.1,AQK b ys _ _ b ys 0 rfl rfl c.2 i];rfl
theorem Yq{xs ys:List Fv}(f:M.underlying y=Z (.struct (M.fieldsOf y)))(b:jk M y xs=Y)(g:dd xs ys=Y){c:Array J0}(i:bn=(xs.map Fv.v).toArray)(j:c=(ys.map Fv.v).toArray)(k:e (J3 (!decide (xs=ys))) a):Ew d M (do eqGuard .neq y cv c8 (.agg bn) (.agg c);binOp .neq y (.agg bn) (.agg c)) a e:=by simp[jk,As,GP]at b;subst i;subst j;refineλn=>⟨_,a,n,?_,k⟩;rw[Sem.run_bind,run_eqGuard_agg _ _ _ _ _ _ _ b.1.2,Result.andThen_ok,run_neq_struct,run_equalIn_agg _ _ _ _ _ f b.1.1,AQK xs ys _ _ xs ys 0 rfl rfl b.2 g];rfl
theorem Ca{d:J0}(f:a[b]?=Z (J2 #[u,bt] y (0,0)))(g:∀c,c[b]?=Z (J2 #[eu,d] y (0,0))->L (· =b) a c->c.size=a.size->bh c):aj a ⟨b,0,V⟩ eu λe=>aj e ((⟨b,0,V⟩:Q6) 1) d bh:=by refine Ac f (by simp) λe i j n=>?_;rw[CR];refine Ac i (by simp) λk l m o=>g k (l) (j.trans m) (by omega)
theorem Ta{p q r d e f g i j:J0}(s:a[b]?=Z (J2 #[u,bt,eu,p,q,r] y (0,0)))(t:∀c,c[b]?=Z (J2 #[d,e,f,g,i,j] y (0,0))->L (· =b) a c->c.size=a.size->bh c):aj a ⟨b,0,V⟩ d λk=>aj k ((⟨b,0,V⟩:Q6) 1) e λl=>aj l ((⟨b,0,V⟩:Q6) 2) f λm=>aj m ((⟨b,0,V⟩:Q6) 3) g λn=>aj n ((⟨b,0,V⟩:Q6) 4) i λo=>aj o ((⟨b,0,V⟩:Q6) 5) j bh:=by refine Ac s ?_ λk v w X=>?_;simp;rw[CR,CR,CR,CR,CR];refine Ac v ?_ λl x z W=>?_;simp;refine Ac x ?_ λm A B M=>?_;simp;refine Ac A ?_ λn C F Q=>?_;simp;refine Ac C ?_ λo H I ae=>?_;simp;refine Ac H (by simp) λP R S af=>t P (R) (((((w.trans z).trans B).trans F).trans I).trans S) (by omega)
theorem NP{t v w x z d e f g i j k l:J0}(A:a[b]?=Z (J2 #[u,bt,eu,t,v,w,x,z] y (0,0)))(B:∀c,c[b]?=Z (J2 #[d,e,f,g,i,j,k,l] y (0,0))->L (· =b) a c->c.size=a.size->bh c):aj a ⟨b,0,V⟩ d λm=>aj m ((⟨b,0,V⟩:Q6) 1) e λn=>aj n ((⟨b,0,V⟩:Q6) 2) f λo=>aj o ((⟨b,0,V⟩:Q6) 3) g λp=>aj p ((⟨b,0,V⟩:Q6) 4) i λq=>aj q ((⟨b,0,V⟩:Q6) 5) j λr=>aj r ((⟨b,0,V⟩:Q6) 6) k λs=>aj s ((⟨b,0,V⟩:Q6) 7) l bh:=by refine Ac A ?_ λm C F al=>?_;simp;rw[CR,CR,CR,CR,CR,CR,CR];refine Ac C ?_ λn H I O=>?_;simp;refine Ac H ?_ λo P R an=>?_;simp;refine Ac P ?_ λp S X ao=>?_;simp;refine Ac S ?_ λq W M ap=>?_;simp;refine Ac W ?_ λr Q ae T=>?_;simp;refine Ac Q ?_ λs af ag ar=>?_;simp;refine Ac af (by simp) λah ai ak au=>B ah (by simpa using ai) (((((((F.trans I).trans R).trans X).trans M).trans ae).trans ag).trans ak) (by omega)
theorem aj.bD{j:Nat}{dJ:Array J0}(d:a[b]?=Z (J2 bn y (0,0)))(e:j<bn.size)(f:bn.setIfInBounds j u=dJ)(g:∀c,c[b]?=Z (J2 dJ y (0,0))->L (· =b) a c->c.size=a.size->bh c):aj a ((⟨b,0,V⟩:Q6).add j) u bh:=by rw[CR,B8];exact Ac d e λi k=>g i (by rw[<-f];exact k)
structure Ev where
 id:Int
 akB:Int
 akO:Int
 akK:Int
 akI:Int
 akG:Int
 az:Bool
 data:E
def bF:bY Ev where enc x:=[D x.id,D x.akB,D x.akO,D x.akK,D x.akI,D x.akG,J3 x.az,J7 x.data];w:=8;len _:=rfl;pos:=by{omega};one x v a:=by simp at a;rcases a with rfl|rfl|rfl|rfl|rfl|rfl|rfl|rfl<;>rfl
def Ev.fv(x:Ev):List Fv:=[.i x.id,.i x.akB,.i x.akO,.i x.akK,.i x.akI,.i x.akG,.b x.az,.s x.data]
variable{r:Ev}{q b1:List Ev}
theorem AD7{x:Ev}:x.fv=r.fv↔x=r:=by cases x;cases r;simp[Ev.fv]
instance:DecidableEq Ev:=λx y=>decidable_of_iff (x.fv=y.fv) AD7
def cN(a:Int):Bool:=decide (a=3\/a=4\/a=5\/a=11\/a=7\/a=8\/a=9)
def cT(a:Int):Bool:=decide (a=6\/a=10)
def du(a:Int):Bool:=decide (a=7\/a=8\/a=9)
def dA(a:Int):Bool:=decide (a=6)
def dX(a:Int):Bool:=decide (a=1\/a=12)
def cG(b:Bool)(a lo hi:Int):Bool:=if b then bR a lo hi else decide (a=0)
def Dt(a:Ev):Bool:=bR a.akB 1 18&&bR a.id 1 500&&bR a.akO 0 1099511627776&&cG (cN a.akB) a.akK 1 (a.id-1)&&cG (cT a.akB) a.akI 0 15&&cG (du a.akB) a.akG 1 5&&(!a.az||dA a.akB)&&(decide (a.data=FB)||dX a.akB)
def Kc(a:Ev):Bool:=if a.akB=1 then(F7 (bl a.data)).isSome else if a.akB=12 then Ar a.data else Y
def Ed(a:Ev):Bool:=Dt a&&Kc a
def WS(a:Bool)(b:Int):List UInt8:=if a then Bt b.toNat else[]
def iR(a:Bool)(b:E):List UInt8:=if a then Bo (bl b)else[]
def Qu(a:Ev):List UInt8:=Bt a.id.toNat++(Bt a.akB.toNat++(Bt a.akO.toNat++(WS (cN a.akB) a.akK++(WS (cT a.akB) a.akI++(WS (du a.akB) a.akG++(WS (dA a.akB) (if a.az then 1 else 0)++iR (dX a.akB) a.data))))))
structure mC where
 id:Nat
 akB:Nat
 akO:Nat
 akK:Nat
 akI:Nat
 akG:Nat
def mC.wide(a:mC):Prop:=500<=a.id/\18<=a.akB/\1099511627776<=a.akO/\500<=a.akK/\15<=a.akI/\5<=a.akG
def gL:mC:=⟨500,18,1099511627776,500,15,5⟩
def GX(b:Bool)(m:Nat)(a:Rd):Nat×Rd:=if b then Bj m a else(0,a)
def XQ(b:Bool)(a:Rd):List UInt8×Rd:=if b then Ec a else([],a)
def Tq(c:mC)(e:Rd):Ev×Rd:=let i:=Bj c.id e;let b:=Bj c.akB i.2;let t:=Bj c.akO b.2;let a:=GX (cN b.1) c.akK t.2;let s:=GX (cT b.1) c.akI a.2;let n:=GX (du b.1) c.akG s.2;let u:=GX (dA b.1) 1 n.2;let d:=XQ (dX b.1) u.2;(⟨i.1,b.1,t.1,a.1,s.1,n.1,decide (u.1=1),Ao d.1⟩,d.2)
def mD(a:List UInt8):Option Ev:=let x:=Tq gL ⟨a,U⟩;if Xq x.2&&Ed x.1 then Z x.1 else V
theorem rN{f:Bool}{n:Int}{m:Nat}(a:cG f n 0 m=Y)(c:m<18446744073709551616)(b:List UInt8):GX f m ⟨WS f n++b,U⟩=(n.toNat,⟨b,U⟩):=by cases f with|false=>simp[cG]at a;subst a;rfl|true=>simp[cG,AT,Bg]at a;simp[GX,WS,AT];grind[FO]
theorem wG{lo hi:Int}(a:cG ap i lo hi=Y)(b:ar<=lo)(c:hi<=bq):cG ap i ar bq=true:=by cases ap with|false=>exact a|true=>simp[cG,AT,Bg]at a⊢;omega
theorem wH{lo hi:Int}(a:cG ap i lo hi=Y)(b:0<=lo):(i.toNat:Int)=i:=by cases ap with|false=>simp_all[cG]|true=>simp[cG,AT,Bg]at a;omega
theorem AU1(a:(decide (h=FB)||ap)=Y)(c:h.size<18446744073709551616)(b:List UInt8):XQ ap ⟨iR ap h++b,U⟩=(bl h,⟨b,U⟩):=by cases ap with|false=>simp at a;subst a;rfl|true=>simp_all[XQ,iR,AT,MM,Bb]
theorem OA(a:Ed r=Y):Dt r=true:=by simp_all[Ed,As]
theorem AVc{a:mC}(l:a.wide)(hi:a.akK<18446744073709551616/\a.akI<18446744073709551616/\a.akG<18446744073709551616)(g:Dt r=Y)(o:r.data.size<18446744073709551616)(h:List UInt8):Tq a ⟨Qu r++h,U⟩=(r,⟨h,U⟩):=by
 obtain⟨id,b,d,P,step,R,c,S⟩:=r;simp only[Dt,As]at g;obtain⟨⟨⟨⟨⟨⟨⟨p,hid⟩,q⟩,i⟩,j⟩,k⟩,X⟩,s⟩:=g;have⟨W,M,Q,ae,af,ag⟩:=l;have ah:=Bg.1 p;have ai:=Bg.1 hid;have aj:=Bg.1 q;have t:=FO (n:=id.toNat) (most:=a.id) (by omega) (by omega);have u:=FO (n:=b.toNat) (most:=a.akB) (by omega) (by omega);have v:=FO (n:=d.toNat) (most:=a.akO) (by omega) (by omega);have w:b.toNat=b:=by omega
 have x:=rN (wG i (by omega) (by omega)) hi.1;have y:=rN (wG j (by omega) (by omega)) hi.2.1;have z:=rN (wG k (by omega) (by omega)) hi.2.2;have A:=rN (f:=dA b) (n:=if c then 1 else 0) (m:=1) (by cases ak:dA b with|true=>simp[cG,AT,Bg];split<;>omega|false=>simp_all[cG]) (by decide);simp only[Tq,Qu,AI,t,u,v,w,x,y,z,A,AU1 s o];have B:decide ((if c=Y then(1:Int)else 0).toNat=1)=c:=by cases c<;>rfl
 have C:=wH i (by decide);have F:=wH j (by decide);have H:=wH k (by decide);have I:id.toNat=id:=by omega
 have K:d.toNat=d:=by omega
 rw[B,C,F,H,I,K,FE]
theorem YX{m:Nat}(a:(GX ap m bk).2.bad=U):bk.bad=U/\bk.rest=WS ap (GX ap m bk).1++(GX ap m bk).2.rest/\(GX ap m bk).1<=m:=by cases ap with|false=>exact⟨a,rfl,Ax _⟩|true=>simp[GX,WS,AT,AG]at a⊢;exact Hz a
theorem ASa(a:(XQ ap bk).2.bad=U):bk.bad=U/\bk.rest=iR ap (Ao (XQ ap bk).1)++(XQ ap bk).2.rest:=by cases ap with|false=>exact⟨a,rfl⟩|true=>simp_all[XQ,iR,AT,GN,VM]
theorem ARO{a:mC}(b:(Tq a bk).2.bad=U):bk.bad=U/\bk.rest=Qu (Tq a bk).1++(Tq a bk).2.rest:=by
 simp[Tq]at b⊢;obtain⟨c,d⟩:=ASa b;obtain⟨e,f,g⟩:=YX c;obtain⟨h,i,_⟩:=YX e;obtain⟨j,k,_⟩:=YX h;obtain⟨l,m,_⟩:=YX j;obtain⟨o,p,_⟩:=Hz l;obtain⟨q,s,_⟩:=Hz o;have⟨t,u,_⟩:=Hz q;refine⟨t,?_⟩;simp only[Qu,AI,AG];rw[<-d];have v:∀n:Nat,n<=1->(if decide (n=1)=Y then(1:Int)else 0)=n:=λn w=>by have:n=0\/n=1:=by{omega};rcases this with rfl|rfl<;>rfl
 rw[v _ g,<-f,<-i,<-k,<-m,<-p,<-s,<-u]
theorem AN8(a:mD a6=Z r):Ed r=Y/\Qu r=a6:=by unfold mD at a;simp only at a;split at a;{rename_i b;simp[As]at b;obtain⟨c,d⟩:=b;obtain rfl:=CC a;refine⟨d,?_⟩;rw[ANd]at c;obtain⟨_,f⟩:=ARO (by rw[c]);grind};cases a
def ATD:gL.wide:=⟨A2 _,A2 _,A2 _,A2 _,A2 _,A2 _⟩
theorem AOn(b:Dt r=Y):r.data.size<=J (Qu r):=by simp[Dt,As]at b;have a:=b.2;cases c:dX r.akB with|false=>rw[c]at a;simp at a;rw[a];exact Ax _|true=>simp[Qu,iR,c,AT,Bo,A6,Bb];omega
theorem ARh(d:J a6<18446744073709551616):mD a6=Z r↔Ed r=Y/\Qu r=a6:=by refine⟨AN8,λ⟨a,b⟩=>?_⟩;have c:=AOn (OA a);have:=AVc ATD ⟨by decide,by decide,by decide⟩ (OA a) (by rw[b]at c;omega) [];rw[AM,b]at this;unfold mD;simp[this,a];rfl
structure Jb where
 id:Int
 akI:Int
 az:Bool
 akG:Int
def fS:bY Jb where enc x:=[D x.id,D x.akI,J3 x.az,D x.akG];w:=4;len _:=rfl;pos:=by{omega};one x v a:=by simp at a;rcases a with rfl|rfl|rfl|rfl<;>rfl
structure Ck where
 id:Int
 akI:Int
 akO:Int
def ib:bY Ck where enc x:=[D x.id,D x.akI,D x.akO];w:=3;len _:=rfl;pos:=by{omega};one x v a:=by simp at a;rcases a with rfl|rfl|rfl<;>rfl
structure aJ where
 prog:aX
 akE:Int
 next:Int
 aZ:Int
 akN:Int
 akM:Int
 akH:Bool
 au:List Jb
 af:List Ck
 akL:Bool
 aD:Bool
def Gg:aJ:=⟨⟨[],0⟩,0,0,0,0,0,U,[],[],U,U⟩
def stepOf(p:aX)(a b:Int):Option bP:=if 0<=a then(p.akC[a.toNat]?).bind λx=>if x.akB=b then Z x else V else V
def Cf(p:aX)(a:Jb):Int:=match stepOf p a.akI 1 with|none=>0|some x=>if a.az then x.aC else x.akP
def MZ(b:aJ)(c d:Int):Option Nat:=b.au.findIdx? λa=>decide (a.id=c)&&decide (a.akG=d)
def De(a:aJ)(b:Ev):Option aJ:=if b.akB=2 then(if a.akN=0/\a.akM=0/\a.akH=Y then Z {a with akN:=b.id}else V)else if b.akB=3 then(if a.akN=b.akK then Z {a with akN:=0,akM:=b.id,akH:=U}else V)else if b.akB=4 then(if a.akM=b.akK then Z {a with akM:=0}else V)else(if a.akM=b.akK then Z {a with akM:=0,akH:=Y}else V)
def Mc(b:aJ)(a:Ev):Option aJ:=if a.akB=6 then(stepOf b.prog a.akI 1).bind λx=>if a.az=Y/\x.az=FB then V else Z {b with au:=b.au++[⟨a.id,a.akI,a.az,1⟩]}else(MZ b a.akK a.akG).bind λi=>(b.au[i]?).bind λc=>if a.akB=8 then(if a.akG=Cf b.prog c then V else Z {b with au:=b.au.set i {c with akG:=c.akG+1}})else if a.akB=7\/a.akG=Cf b.prog c then Z {b with au:=b.au.eraseIdx i,akH:=Y}else V
def Jn(b:aJ)(a:Ev):Option aJ:=if a.akB=10 then(stepOf b.prog a.akI 2).map λx=>{b with af:=b.af++[⟨a.id,a.akI,a.akO+x.akQ⟩]}else(b.af.findIdx? λc=>decide (c.id=a.akK)&&decide (c.akO<=a.akO)).map λi=>{b with af:=b.af.eraseIdx i,akH:=Y}
def iV(a:aJ)(b:Int):aJ:={a with akE:=b,akN:=0,akM:=0,akH:=U,au:=[],af:=[]}
def Oy(a:aJ):Prop:=a.akN=0/\a.akM=0/\a.au=[]
instance(s:aJ):Decidable (Oy s):=decidable_of_iff (s.akN=0/\s.akM=0/\J s.au=0) (by simp[Oy])
def Kr(a:aJ)(b:Ev):Option aJ:=if b.akB=12 then Z {a with akH:=Y}else if b.akB=13 then(if a.akL=Y then V else Z {a with akL:=Y,akH:=Y})else if b.akB=14 then(if a.aD=Y\/a.prog.aw=0\/b.akO<a.aZ+a.prog.aw then V else Z {a with aD:=Y,akH:=Y})else if b.akB=18 then Z (iV a 4)else if b.akB=15 then(if Oy a then Z (iV a 1)else V)else if b.akB=16 then(if Oy a then Z (iV a 2)else V)else if b.akB=17 then(if Oy a then Z (iV a 3)else V)else V
def NJ(b:aJ)(a:Ev):Option aJ:=(if 2<=a.akB/\a.akB<=5 then De b a else if 6<=a.akB/\a.akB<=9 then Mc b a else if a.akB=10\/a.akB=11 then Jn b a else Kr b a).map λt=>{t with next:=b.next+1}
def Xu(a:Ev):aJ:=⟨(F7 (bl a.data)).getD ⟨[],0⟩,0,2,a.akO,0,0,Y,[],[],U,U⟩
def BI(b:aJ)(a:Ev):Int×aJ:=if Ed a=U then(120,Gg)else if b.next=0 then(if a.akB=1/\a.id=1 then(0,Xu a)else(120,Gg))else if b.akE≠0 then(182,Gg)else if a.id≠b.next then(120,Gg)else match NJ b a with|none=>(120,Gg)|some t=>(0,t)
def CK(a:aJ):List Ev->Option aJ|[]=>Z a|e::l=>if(BI a e).1=0 then CK (BI a e).2 l else V
theorem Zk:∀{s:aJ},CK s (q++b1)=(CK s q).bind λt=>CK t b1:=by induction q with|nil=>intro s;rfl|cons c l d=>intro s;rw[DH,CK,CK];grind
variable{ao ds:aJ}
theorem AD3(a:CK ao q=Z ds)(b:(BI ds r).1=0):CK ao (q++[r])=Z (BI ds r).2:=by simp_all[Zk,CK,A1]
theorem MK(a:(BI ao r).1=0):Ed r=true:=by grind[BI]
theorem YN(a:(BI ao r).1=0):(ao.next=0->r.id=1/\(BI ao r).2.next=2)/\(ao.next≠0->r.id=ao.next/\(BI ao r).2.next=ao.next+1):=by unfold BI at a⊢;split at a;{cases a};rename_i g;rw[A0 g];split at a;{rename_i b;rw[A1 b];split at a;{rename_i c;rw[A1 c];exact⟨λ_=>⟨c.2,rfl⟩,λa=>A4 b a⟩};cases a};rename_i b;rw[A0 b];split at a;{cases a};rename_i c;rw[A0 c];split at a;{cases a};rename_i d;rw[A0 d];cases f:NJ ao r with|none=>rw[f]at a;cases a|some t=>refine⟨λa=>A4 a b,λ_=>⟨by simpa using d,?_⟩⟩;obtain⟨h,-,rfl⟩:=Hj.1 f;rfl
theorem AMd:∀{l:List Ev}{s t:aJ},CK s l=Z t->1<=s.next->t.next=s.next+J l/\∀(i:Nat)(b:Ev),l[i]?=Z b->b.id=s.next+i/\Ed b=true:=by intro l;induction l with|nil=>intro s t a c;cases a;simp_all|cons b l d=>intro s t a c;rw[CK]at a;split at a;{rename_i e;have f:=(YN e).2 (by omega);obtain⟨g,h⟩:=d a (by omega);refine⟨by grind,λi x j=>?_⟩;grind[MK]};cases a
theorem wY(a:CK Gg q=Z ao)(c:q≠[]):ao.next=J q+1/\∀(i:Nat)(b:Ev),q[i]?=Z b->b.id=i+1/\Ed b=true:=by cases q with|nil=>cases c rfl|cons b q=>rw[CK]at a;split at a;{rename_i d;have e:=(YN d).1 rfl;obtain⟨f,g⟩:=AMd a (by omega);refine⟨by grind,λi x h=>?_⟩;grind[MK]};cases a
def fK:List UInt8->Option (List UInt8)|[]=>V|a::p=>match fK p with|some b=>Z (a::b)|none=>if a<255 then Z [a+1]else V
theorem AQU{b:UInt8}(c:d0<255):b<d0+1↔¬d0<b:=by
 have e:d0.toNat<255:=I0.1 c;have d:(d0+1).toNat=d0.toNat+1:=by rw[UInt8.toNat_add];show(d0.toNat+1)%256=_;omega
 rw[I0,I0,d];omega
theorem AY3{b:UInt8}(c:¬d0<255):¬d0<b:=λd=>by rw[I0]at c d;have:b.toNat<256:=b.toNat_lt;have e:(255:UInt8).toNat=255:=rfl;omega
theorem AQY:∀(p j:List UInt8),(¬j<p/\(∀h,fK p=Z h->j<h))↔p<+:j|[],j=>by simp[fK]|a::p,[]=>by constructor;{rintro⟨c,_⟩;exact A4 (List.nil_lt_cons a p) c};intro c;exact A4 (List.prefix_nil.1 c) (by simp)|a::p,b::j=>by have s:=AQY p j;have e:∀{x q:UInt8}{l m:List UInt8},x::l<q::m↔x<q\/x=q/\l<m:=A12;rw[List.cons_prefix_cons,<-s];constructor;{rintro⟨o,f⟩;have r:¬b<a:=λc=>o (e.2 (.inl c));have t:¬a<b:=λc=>by{unfold fK at f;cases k:fK p with|some h=>rw[k]at f;rcases e.1 (f _ rfl)with d|⟨d,_⟩;{exact r d};subst d;exact SD _ c|none=>rw[k]at f;by_cases i:a<255;{have:=f [a+1] (by simp[i]);rcases e.1 this with d|⟨_,d⟩;{exact(AQU i).1 d c};exact A4 d (by simp)};exact AY3 i c};have n:a=b:=by{by_cases n:a=b;{exact n};rcases UInt8.lt_or_lt_of_ne n with c|c;{exact A4 c t};exact A4 c r};subst n;refine⟨rfl,λc=>o (e.2 (.inr ⟨rfl,c⟩)),λh g=>?_⟩;have:=f (a::h) (by unfold fK;rw[g]);rcases e.1 this with d|⟨_,d⟩;{exact A4 d (SD _)};exact d};rintro⟨rfl,o,f⟩;refine⟨λc=>?_,λh g=>?_⟩;{rcases e.1 c with d|⟨_,d⟩;{exact A4 d (SD _)};exact o d};unfold fK at g;cases k:fK p with|some u=>rw[k]at g;obtain rfl:=CC g;exact e.2 (.inr ⟨rfl,f u k⟩)|none=>rw[k]at g;by_cases i:a<255;{have n:h=[a+1]:=by{simpa[i]using g.symm};subst n;exact e.2 (.inl ((AQU i).2 (SD _)))};simp[i]at g
theorem wX:∀{p:List UInt8},(∀x∈p,¬x<255)->fK p=V|[],_=>rfl|a::p,b=>by unfold fK;rw[wX λx c=>b x (CT _ c)];simp[b a FF]
theorem AX5:∀{p:List UInt8}{i:Nat}{a:UInt8},p[i]?=Z a->a<255->(∀x∈p.drop (i+1),¬x<255)->fK p=Z (p.take i++[a+1])|[],i,a,c,_,_=>by simp at c|b::p,0,a,c,d,hd=>by simp at c;subst c;unfold fK;rw[wX (by simpa using hd)];simp[d]|b::p,i+1,a,c,d,hd=>by unfold fK;rw[AX5 (p:=p) (i:=i) (a:=a) (by simpa using c) d (by simpa using hd)];simp
def iU(p a:E):Bool:=(p.data.toList).isPrefixOf a.data.toList
theorem sr(p a:E):iU p a=Y↔p.data.toList<+:a.data.toList:=by unfold iU;rw[A09]
def QX:Nat->Nat->List UInt8|0,_=>[]|k+1,n=>QX k (n/256)++[Cc n]
theorem Rw:∀(k n:Nat),J (QX k n)=k|0,_=>rfl|k+1,n=>by rw[QX,A6,Rw k];rfl
theorem wZ(a:Nat):Cc a=Cc (a%256):=by apply UInt8.toNat_inj.1;simp[Cc,A04]
theorem ARi(c:b<256)(d:f<256)(e:Cc b=Cc f):b=f:=by have:=congrArg UInt8.toNat e;rwa[DR c,DR d]at this
def AZy(a:Nat):QX 4 a=[Cc (a/256/256/256),Cc (a/256/256),Cc (a/256),Cc a]:=rfl
theorem AWA(j:f<65536)(k:b<f):QX 4 b<QX 4 f:=by
 rw[AZy,AZy];have d:b/256/256=0:=by omega
 have e:f/256/256=0:=by omega
 rw[d,e];have lt:∀{x c:Nat},c<256->x<c->Cc x<Cc c:=λ{x c}g h=>by rw[I0,DR g,DR (by omega)];exact h
 refine List.Lex.cons (List.Lex.cons ?_);by_cases i:b/256=f/256;{rw[i];refine List.Lex.cons (List.Lex.rel ?_);rw[wZ b,wZ f];refine lt ?_ ?_<;>omega};refine List.Lex.rel (lt ?_ ?_)<;>omega
theorem AZD(p:List UInt8)(d:a6<ch):p++a6<p++ch:=by induction p with|nil=>exact d|cons c p e=>exact List.Lex.cons e
def kE:UInt8:=104
def nG(a:E):List UInt8:=kE::Bo (bl a)
def gq(a:E):E:=Ao (nG a)
def eY(a:E)(b:Nat):E:=Ao (nG a++QX 4 b)
def PH(a:E):E:=Ao (119::bl a)
def Qo(a:E):E:=Ao (114::bl a)
def nH(a b:Nat):E:=Ao (116::Cc a::QX 8 b)
def nI(a b c:Nat):E:=Ao (109::Cc a::(QX 8 b++QX 8 c))
theorem AD8(a:h.size<=16):Bo (bl h)=Cc h.size::bl h:=by unfold Bo;rw[Bb,F3 (by omega)];rfl
theorem VL(a:h.size<=16):nG h=104::Cc h.size::bl h:=by unfold nG;rw[AD8 a];rfl
theorem AUJ(a:h.size<=16)(b:Nat):(eY h b).size<=22:=by unfold eY;rw[AY,A6,Rw,VL a];simp[Bk,Bb];omega
theorem ARx(a:h.size<=16):(gq h).size<=18:=by unfold gq;rw[AY,VL a];simp[Bk,Bb];omega
theorem xn(a:E):(PH a).size=a.size+1:=by unfold PH;rw[AY,Bk,Bb]
theorem Ym(a:E):(Qo a).size=a.size+1:=by unfold Qo;rw[AY,Bk,Bb]
theorem AD5(a b:Nat):(nH a b).size=10:=by unfold nH;rw[AY];rfl
theorem ADw(a b c:Nat):(nI a b c).size=18:=by unfold nI;rw[AY];rfl
theorem pN{i:Nat}(a:b<65536)(c:i<b):aS (eY h i) (eY h b)=true:=by rw[pI,AW];unfold eY;rw[EC,EC];exact AZD _ (AWA a c)
theorem APx(a:E)(b:Nat):iU (gq a) (eY a b)=true:=by rw[sr];unfold gq eY;rw[EC,EC];exact List.prefix_append _ _
theorem AQ4(d:h.size<=16)(e:a3.size<=16)(a:iU (gq h) (eY a3 b)=Y):h=a3:=by rw[sr]at a;unfold gq eY at a;rw[EC,EC,VL d,VL e]at a;obtain⟨t,c⟩:=a;simp[DH,Mb,SM]at c;have f:=ARi (by omega) (by omega) c.1;have:=(List.append_inj c.2 (by rw[Bb,Bb];exact f)).1;rw[<-FE h,<-FE a3];exact congrArg Ao this
theorem AV2(d:h.size<=16)(e:a3.size<=16){i:Nat}(hi:i<65536)(f:b<65536)(c:eY h i=eY a3 b):h=a3/\i=b:=by have g:=AQ4 d e (by rw[<-c];exact APx h i);subst g;refine⟨rfl,?_⟩;rcases LO i b with a|a|a;{cases(TN (pN f a)) c};{exact a};cases(TN (pN hi a)) c.symm
theorem ASU(c:PH h=PH a3):h=a3:=by have:=LU.1 c;simp only[Mb,SM]at this;rw[<-FE h,<-FE a3];exact congrArg Ao this
theorem AM2(c:Qo h=Qo a3):h=a3:=by have:=LU.1 c;simp only[Mb,SM]at this;rw[<-FE h,<-FE a3];exact congrArg Ao this
def Dk(a:E):UInt8:=(bl a).headD 0
theorem sv(a:E)(b:Nat):Dk (eY a b)=104:=by unfold Dk eY;rw[GN];rfl
theorem JU(a:E):Dk (PH a)=119:=by unfold Dk PH;rw[GN];rfl
theorem Qb(a:E):Dk (Qo a)=114:=by unfold Dk Qo;rw[GN];rfl
theorem APL(a b:Nat):Dk (nH a b)=116:=by unfold Dk nH;rw[GN];rfl
theorem AOO(a b c:Nat):Dk (nI a b c)=109:=by unfold Dk nI;rw[GN];rfl
theorem xo(a:iU (gq h) a3=Y):Dk a3=104:=by rw[sr]at a;obtain⟨t,b⟩:=a;show(a3.data.toList).headD 0=104;rw[<-b];unfold gq;rw[EC];rfl
def UK(a next:Nat)(b:Bool):E:=Ao (Bt a++(Bt next++Bt (if b then 1 else 0)))
def kM(a:List UInt8)(b next:Nat):E:=Ao (Bo a++(Bt b++Bt next))
def xp(a:Nat)(b:E)(c d:Nat):E:=Ao (Bt a++(Bo (bl b)++(Bt c++Bt d)))
theorem Ip{n:Nat}(a:n<16384):J (Bt n)<=2:=AMS 1 n (by omega)
theorem AOU{kind ref turn:Nat}{wid:E}(a:kind<128)(b:wid.size<=16)(c:ref<=500)(d:turn<=5):(xp kind wid ref turn).size<=22:=by unfold xp;have:=Ip (n:=ref) (by omega);rw[AY,F3 a,AD8 b,F3 (n:=turn) (by omega)];simp[A6,Bk,Bb,Kx];omega
theorem AOr{next:Nat}(a:b<128)(c:next<=501):(UK b next ap).size<=4:=by unfold UK;have:=Ip (n:=next) (by omega);rw[AY,F3 a,F3 (n:=if ap then 1 else 0) (by split<;>omega)];simp[A6,Bk,Kx];omega
structure aR where
 akD:E
 ak:Nat
 cD:Int
 bZ:Int
 kept:Bool
 st:aJ
 akF:List Ev
 aA:List Pr
 conds:List Pr
 err:Int
 now:Int
def Zm(a:aJ):Bool:=decide (a.next<=497)
def FY(b:E)(c:Nat)(cD bZ:Int)(d:Bool)(st:aJ)(a:Int):aR:=⟨b,c,cD,bZ,d,st,[],[],[],if a<0\/1099511611776<a then 1 else 0,a⟩
def Dp(a:aR)(b:Ev):Ev:={b with id:=if 1>a.st.next then 1 else a.st.next,akO:=a.now}
def Dc(a:aR)(b:Ev):aR:=if a.err≠0 then a else if a.akF=[]/\Zm a.st=U/\b.akB≠18 then{a with err:=2}else if(BI a.st (Dp a b)).1≠0 then{a with err:=(BI a.st (Dp a b)).1}else{a with st:=(BI a.st (Dp a b)).2,akF:=a.akF++[Dp a b]}
def kN(a:aR):Int:=a.st.next-1
structure gO where
 akB:Int
 akK:Int
 akG:Int
def KN(a:gO)(b:E):Bool:=bR a.akB 1 7&&Ar b&&bR a.akK 0 500&&bR a.akG 0 5
def mG(a:gO)(b:E):E:=xp a.akB.toNat b a.akK.toNat a.akG.toNat
def SH(a:Nat)(b:Int)(c:Nat):E:=if b<0 then nH a c else nI a b.toNat c
def GD(a:aR)(b:gO)(c:Int)(d:Nat):aR:=if a.err≠0 then a else if KN b a.akD=U then{a with err:=1}else{a with aA:=a.aA++[⟨SH a.ak c d,mG b a.akD,U⟩]}
def pO(a:aR)(b val:E):aR:={a with conds:=a.conds++[⟨b,⟨#[]⟩,Y⟩],aA:=a.aA++[⟨b,val,U⟩]}
def GU(a:aR):Bool:=decide (a.akF≠[])&&(decide (a.st.akE=0)&&(a.st.akH&&(decide (a.st.akN=0)&&decide (a.st.akM=0))))
def EF(a:aR):Int×Int:=(a.st.akE,if GU a then a.st.next+1 else a.st.next)
def bG(a:aR):Pr:=if 0<a.bZ then⟨PH a.akD,UK a.cD.toNat a.bZ.toNat a.kept,U⟩else⟨PH a.akD,⟨#[]⟩,Y⟩
def TB(b:E)(a:Ev):Pr:=⟨eY b a.id.toNat,Ao (Qu a),U⟩
def F8(a:aR):List Pr:=a.akF.map (TB a.akD)++(if a.akF=[]then[]else[⟨PH a.akD,UK a.st.akE.toNat a.st.next.toNat U,U⟩])
structure aR.gb (C:aR):Prop where
 pos:C.err=0-> ∀e∈C.akF,Ed e=Y
 err0:0<=C.err
theorem Pn(a:aR)(b:Ev):(Dc a b).akD=a.akD/\(Dc a b).ak=a.ak/\(Dc a b).cD=a.cD/\(Dc a b).bZ=a.bZ/\(Dc a b).kept=a.kept/\(Dc a b).aA=a.aA/\(Dc a b).conds=a.conds/\(Dc a b).now=a.now:=by unfold Dc;split;{simp};split;{simp};split<;>simp
variable{T:aR}
theorem xt{e:Ev}(c:T.err=0)(d:T.akF≠[]\/T.st.next<=497\/e.akB=18)(f:(BI T.st (Dp T e)).1=0):Dc T e={T with st:=(BI T.st (Dp T e)).2,akF:=T.akF++[Dp T e]}:=by unfold Dc;rw[A0 (by simp[c]),A0 (by rintro⟨g,b,h⟩;rcases d with a|a|a;{exact a g};{unfold Zm at b;simp at b;omega};exact h a),A0 (by simp[f])]
def xu(a:Q6):W->Nat->List J0->(W->Prop)->Prop|h,_,[],K=>K h|h,i,v::b,K=>aj h (a.add i) v λc=>xu a c (i+1) b K
def cA(a:W)(b:Q6)(c:List J0)(d:W->Prop):Prop:=xu b a 0 c d
def gP(a:Array J0)(b:Nat)(c:List J0):Array J0:=⟨a.toList.take b++(c++a.toList.drop (b+J c))⟩
theorem ASP(a:b<bn.size):gP (bn.setIfInBounds b u) (b+1) b3=gP bn b (u::b3):=by
 obtain⟨l⟩:=bn;have a:b<J l:=a;apply congrArg Array.mk;simp[A0F,Bk];have c:l.set b u=l.take b++u::l.drop (b+1):=by rw[A0T,A1 a]
 rw[c,PF,Wr,Cd,HQ (by omega)];rw[show b+1-b=1 from by omega,A0b,Ts (by omega),show b+1+J b3-b=J b3+1 from by omega];rw[PJ (l:=l.take b) (by grind)];simp[LR,SO,CM,LL,Ix,AI,DH];rw[show b+1+J b3=b+(J b3+1)from by omega]
theorem AVQ:gP bn b []=bn:=by simp_all[gP]
theorem AVB:∀(c:List J0)(i:Nat){a:W}{d:Array J0},a[b]?=Z (J2 d y (0,0))->f+i+J c<=d.size->(∀e,e[b]?=Z (J2 (gP d (f+i) c) y (0,0))->L (· =b) a e->e.size=a.size->bh e)->xu ⟨b,f,V⟩ a i c bh|[],i,a,d,g,_,h=>h a (by rw[AVQ];exact g) ⟨A2 _,λ_ _ _=>rfl⟩ rfl|v::c,i,a,d,g,j,h=>by rw[Bk]at j;show aj a (Addr.add ⟨b,f,V⟩ i) v _;rw[CR];refine Ac g (by omega) λp k l q=>AVB c (i+1) k (by simp;omega) λm r n s=>h m ?_ (l.trans n) (by omega);grind[ASP]
def Aq{vs:List J0}(d:a[b]?=Z (J2 bn y (0,0)))(e:f+J vs<=bn.size)(g:∀c,c[b]?=Z (J2 (gP bn f vs) y (0,0))->L (· =b) a c->c.size=a.size->bh c):cA a ⟨b,f,V⟩ vs bh:=AVB vs 0 d e g
theorem DY(c:a[b]?=Z (J2 bn y bu))(d:(bn.toList.drop f).take (J b3)=b3):Cells a ⟨b,f,V⟩ b3:=λe v g=>by rw[CR];refine AL c ?_;grind
def kO:(l:List Sc)->(iN l->Prop)->Prop|[],K=>K ()|s::l,K=>∃x:s.Ty,kO l λa=>K (x,a)
theorem mH:∀{l:List Sc}{K:iN l->Prop}(x:iN l),K x->kO l K|[],_,_,a=>a|_::_,_,x,a=>⟨x.1,mH x.2 a⟩
def gQ(a:W)(b:Q6):Nat->(l:List Sc)->(iN l->Prop)->Prop|_,[],K=>K ()|i,s::l,K=>s.load a (b.add i) λx=>gQ a b (i+1) l λc=>K (x,c)
theorem Qr:∀{l:List Sc}{i:Nat}{K:iN l->Prop}(x:iN l),(∀b v,(jL l x)[b]?=Z v->ah a (a4.add (i+b))=Z v)->K x->gQ a a4 i l K|[],_,_,_,_,c=>c|s::l,i,K,x,d,c=>by have e:gQ a a4 (i+1) l λf=>K (x.1,f):=Qr x.2 (λb v g=>by have:=d (b+1) v g;rwa[<-KB,Nat.add_right_comm]at this) c;cases s<;>exact⟨_,d 0 _ rfl,e⟩
abbrev Ev.l(x:Ev):List J0:=[D x.id,D x.akB,D x.akO,D x.akK,D x.akI,D x.akG,J3 x.az,J7 x.data]
abbrev Ev.c(x:Ev):Array J0:=x.l.toArray
abbrev Ev.v(x:Ev):J0:=.agg x.l.toArray
abbrev Mi:Ev:=⟨0,0,0,0,0,0,U,⟨#[]⟩⟩
abbrev Ev.s:List Sc:=[.int D,.int D,.int D,.int D,.int D,.int D,.bool,.str]
abbrev ASz:Type:=Int×Int×Int×Int×Int×Int×Bool×E×Unit
abbrev Ev.t(x:Ev):ASz:=(x.id,x.akB,x.akO,x.akK,x.akI,x.akG,x.az,x.data,())
abbrev AT3(p:ASz):Ev:=⟨p.1,p.2.1,p.2.2.1,p.2.2.2.1,p.2.2.2.2.1,p.2.2.2.2.2.1,p.2.2.2.2.2.2.1,p.2.2.2.2.2.2.2.1⟩
def sw(a:Ev->Prop):Prop:=kO Ev.s λp=>a (AT3 p)
def Uj{a:Ev->Prop}(x:Ev)(b:a x):sw a:=mH x.t b
def pP(a:W)(b:Q6)(c:Ev->Prop):Prop:=gQ a b 0 Ev.s λp=>c (AT3 p)
theorem Dh{b:Ev->Prop}(x:Ev)(c:Cells a a4 x.l)(d:b x):pP a a4 b:=Qr x.t (λe v f=>by rw[B8];exact c e v f) d
abbrev Jb.l(x:Jb):List J0:=[D x.id,D x.akI,J3 x.az,D x.akG]
abbrev Jb.c(x:Jb):Array J0:=x.l.toArray
abbrev Jb.v(x:Jb):J0:=.agg x.l.toArray
abbrev AYe:Jb:=⟨0,0,U,0⟩
abbrev Jb.s:List Sc:=[.int D,.int D,.bool,.int D]
abbrev AVn:Type:=Int×Int×Bool×Int×Unit
abbrev Jb.t(x:Jb):AVn:=(x.id,x.akI,x.az,x.akG,())
abbrev AYj(p:AVn):Jb:=⟨p.1,p.2.1,p.2.2.1,p.2.2.2.1⟩
def AZ9(a:W)(b:Q6)(c:Jb->Prop):Prop:=gQ a b 0 Jb.s λp=>c (AYj p)
theorem Pk{b:Jb->Prop}(x:Jb)(c:Cells a a4 x.l)(d:b x):AZ9 a a4 b:=Qr x.t (λe v f=>by rw[B8];exact c e v f) d
abbrev Ck.l(x:Ck):List J0:=[D x.id,D x.akI,D x.akO]
abbrev Ck.c(x:Ck):Array J0:=x.l.toArray
abbrev Ck.v(x:Ck):J0:=.agg x.l.toArray
abbrev AYX:Ck:=⟨0,0,0⟩
abbrev Ck.s:List Sc:=[.int D,.int D,.int D]
abbrev AUs:Type:=Int×Int×Int×Unit
abbrev Ck.t(x:Ck):AUs:=(x.id,x.akI,x.akO,())
abbrev AX6(p:AUs):Ck:=⟨p.1,p.2.1,p.2.2.1⟩
def AZk(a:W)(b:Q6)(c:Ck->Prop):Prop:=gQ a b 0 Ck.s λp=>c (AX6 p)
theorem xA{b:Ck->Prop}(x:Ck)(c:Cells a a4 x.l)(d:b x):AZk a a4 b:=Qr x.t (λe v f=>by rw[B8];exact c e v f) d
abbrev bP.l(x:bP):List J0:=[D x.akB,J7 x.name,J7 x.az,D x.akP,D x.aC,D x.akQ]
abbrev bP.c(x:bP):Array J0:=x.l.toArray
abbrev bP.v(x:bP):J0:=.agg x.l.toArray
abbrev TP:bP:=⟨0,⟨#[]⟩,⟨#[]⟩,0,0,0⟩
abbrev bP.s:List Sc:=[.int D,.str,.str,.int D,.int D,.int D]
abbrev APv:Type:=Int×E×E×Int×Int×Int×Unit
abbrev bP.t(x:bP):APv:=(x.akB,x.name,x.az,x.akP,x.aC,x.akQ,())
abbrev AP4(p:APv):bP:=⟨p.1,p.2.1,p.2.2.1,p.2.2.2.1,p.2.2.2.2.1,p.2.2.2.2.2.1⟩
def AX2(a:bP->Prop):Prop:=kO bP.s λp=>a (AP4 p)
def xB{a:bP->Prop}(x:bP)(b:a x):AX2 a:=mH x.t b
def AXi(a:W)(b:Q6)(c:bP->Prop):Prop:=gQ a b 0 bP.s λp=>c (AP4 p)
theorem Sg{b:bP->Prop}(x:bP)(c:Cells a a4 x.l)(d:b x):AXi a a4 b:=Qr x.t (λe v f=>by rw[B8];exact c e v f) d
structure bQ where
 akC:Sl
 aw:Int
 akE:Int
 next:Int
 aZ:Int
 akN:Int
 akM:Int
 akH:Bool
 au:Sl
 af:Sl
 akL:Bool
 aD:Bool
abbrev bQ.l(x:bQ):List J0:=[J4 x.akC.p x.akC.len x.akC.cap,D x.aw,D x.akE,D x.next,D x.aZ,D x.akN,D x.akM,J3 x.akH,J4 x.au.p x.au.len x.au.cap,J4 x.af.p x.af.len x.af.cap,J3 x.akL,J3 x.aD]
abbrev bQ.c(x:bQ):Array J0:=x.l.toArray
abbrev bQ.v(x:bQ):J0:=.agg x.l.toArray
abbrev Cj:bQ:=⟨⟨V,0,0⟩,0,0,0,0,0,0,U,⟨V,0,0⟩,⟨V,0,0⟩,U,U⟩
abbrev bQ.s:List Sc:=[.sl,.int D,.int D,.int D,.int D,.int D,.int D,.bool,.sl,.sl,.bool,.bool]
abbrev AQh:Type:=Sl×Int×Int×Int×Int×Int×Int×Bool×Sl×Sl×Bool×Bool×Unit
abbrev bQ.t(x:bQ):AQh:=(x.akC,x.aw,x.akE,x.next,x.aZ,x.akN,x.akM,x.akH,x.au,x.af,x.akL,x.aD,())
abbrev AQZ(p:AQh):bQ:=⟨p.1,p.2.1,p.2.2.1,p.2.2.2.1,p.2.2.2.2.1,p.2.2.2.2.2.1,p.2.2.2.2.2.2.1,p.2.2.2.2.2.2.2.1,p.2.2.2.2.2.2.2.2.1,p.2.2.2.2.2.2.2.2.2.1,p.2.2.2.2.2.2.2.2.2.2.1,p.2.2.2.2.2.2.2.2.2.2.2.1⟩
def pQ(a:bQ->Prop):Prop:=kO bQ.s λp=>a (AQZ p)
def EP{a:bQ->Prop}(x:bQ)(b:a x):pQ a:=mH x.t b
def PZ(a:W)(b:Q6)(c:bQ->Prop):Prop:=gQ a b 0 bQ.s λp=>c (AQZ p)
theorem CX{b:bQ->Prop}(x:bQ)(c:Cells a a4 x.l)(d:b x):PZ a a4 b:=Qr x.t (λe v f=>by rw[B8];exact c e v f) d
structure dH where
 akE:Int
 next:Int
 kept:Bool
abbrev dH.l(x:dH):List J0:=[D x.akE,D x.next,J3 x.kept]
abbrev dH.c(x:dH):Array J0:=x.l.toArray
abbrev dH.v(x:dH):J0:=.agg x.l.toArray
abbrev VU:dH:=⟨0,0,U⟩
abbrev dH.s:List Sc:=[.int D,.int D,.bool]
abbrev APw:Type:=Int×Int×Bool×Unit
abbrev dH.t(x:dH):APw:=(x.akE,x.next,x.kept,())
abbrev APp(p:APw):dH:=⟨p.1,p.2.1,p.2.2.1⟩
def AXy(a:dH->Prop):Prop:=kO dH.s λp=>a (APp p)
def AOt{a:dH->Prop}(x:dH)(b:a x):AXy a:=mH x.t b
def sB(a:W)(b:Q6)(c:dH->Prop):Prop:=gQ a b 0 dH.s λp=>c (APp p)
theorem SY{b:dH->Prop}(x:dH)(c:Cells a a4 x.l)(d:b x):sB a a4 b:=Qr x.t (λe v f=>by rw[B8];exact c e v f) d
structure cJ where
 akD:E
 ak:Int
 me:dH
 aI:Sl
 st:bQ
abbrev cJ.l(x:cJ):List J0:=[J7 x.akD,D x.ak,D x.me.akE,D x.me.next,J3 x.me.kept,J4 x.aI.p x.aI.len x.aI.cap,J4 x.st.akC.p x.st.akC.len x.st.akC.cap,D x.st.aw,D x.st.akE,D x.st.next,D x.st.aZ,D x.st.akN,D x.st.akM,J3 x.st.akH,J4 x.st.au.p x.st.au.len x.st.au.cap,J4 x.st.af.p x.st.af.len x.st.af.cap,J3 x.st.akL,J3 x.st.aD]
abbrev cJ.c(x:cJ):Array J0:=x.l.toArray
abbrev cJ.v(x:cJ):J0:=.agg x.l.toArray
abbrev Dg:cJ:=⟨⟨#[]⟩,0,⟨0,0,U⟩,⟨V,0,0⟩,⟨⟨V,0,0⟩,0,0,0,0,0,0,U,⟨V,0,0⟩,⟨V,0,0⟩,U,U⟩⟩
abbrev cJ.s:List Sc:=[.str,.int D,.int D,.int D,.bool,.sl,.sl,.int D,.int D,.int D,.int D,.int D,.int D,.bool,.sl,.sl,.bool,.bool]
abbrev AQG:Type:=E×Int×Int×Int×Bool×Sl×Sl×Int×Int×Int×Int×Int×Int×Bool×Sl×Sl×Bool×Bool×Unit
abbrev cJ.t(x:cJ):AQG:=(x.akD,x.ak,x.me.akE,x.me.next,x.me.kept,x.aI,x.st.akC,x.st.aw,x.st.akE,x.st.next,x.st.aZ,x.st.akN,x.st.akM,x.st.akH,x.st.au,x.st.af,x.st.akL,x.st.aD,())
abbrev AQu(p:AQG):cJ:=⟨p.1,p.2.1,⟨p.2.2.1,p.2.2.2.1,p.2.2.2.2.1⟩,p.2.2.2.2.2.1,⟨p.2.2.2.2.2.2.1,p.2.2.2.2.2.2.2.1,p.2.2.2.2.2.2.2.2.1,p.2.2.2.2.2.2.2.2.2.1,p.2.2.2.2.2.2.2.2.2.2.1,p.2.2.2.2.2.2.2.2.2.2.2.1,p.2.2.2.2.2.2.2.2.2.2.2.2.1,p.2.2.2.2.2.2.2.2.2.2.2.2.2.1,p.2.2.2.2.2.2.2.2.2.2.2.2.2.2.1,p.2.2.2.2.2.2.2.2.2.2.2.2.2.2.2.1,p.2.2.2.2.2.2.2.2.2.2.2.2.2.2.2.2.1,p.2.2.2.2.2.2.2.2.2.2.2.2.2.2.2.2.2.1⟩⟩
def AXf(a:cJ->Prop):Prop:=kO cJ.s λp=>a (AQu p)
def Du{a:cJ->Prop}(x:cJ)(b:a x):AXf a:=mH x.t b
def sC(a:W)(b:Q6)(c:cJ->Prop):Prop:=gQ a b 0 cJ.s λp=>c (AQu p)
theorem JC{b:cJ->Prop}(x:cJ)(c:Cells a a4 x.l)(d:b x):sC a a4 b:=Qr x.t (λe v f=>by rw[B8];exact c e v f) d
structure dB where
 akB:Int
 akD:E
 akK:Int
 akG:Int
abbrev dB.l(x:dB):List J0:=[D x.akB,J7 x.akD,D x.akK,D x.akG]
abbrev dB.c(x:dB):Array J0:=x.l.toArray
abbrev dB.v(x:dB):J0:=.agg x.l.toArray
abbrev Yd:dB:=⟨0,⟨#[]⟩,0,0⟩
abbrev dB.s:List Sc:=[.int D,.str,.int D,.int D]
abbrev AQ2:Type:=Int×E×Int×Int×Unit
abbrev dB.t(x:dB):AQ2:=(x.akB,x.akD,x.akK,x.akG,())
abbrev AXX(p:AQ2):dB:=⟨p.1,p.2.1,p.2.2.1,p.2.2.2.1⟩
def AXz(a:W)(b:Q6)(c:dB->Prop):Prop:=gQ a b 0 dB.s λp=>c (AXX p)
theorem Su{b:dB->Prop}(x:dB)(c:Cells a a4 x.l)(d:b x):AXz a a4 b:=Qr x.t (λe v f=>by rw[B8];exact c e v f) d
structure bj where
 akB:Int
 aH:E
 akD:E
 name:E
 akC:Sl
 aw:Int
 bS:Sl
 akK:Int
 akG:Int
 bA:Int
 ak:Int
 aF:Bool
abbrev bj.l(x:bj):List J0:=[D x.akB,J7 x.aH,J7 x.akD,J7 x.name,J4 x.akC.p x.akC.len x.akC.cap,D x.aw,J4 x.bS.p x.bS.len x.bS.cap,D x.akK,D x.akG,D x.bA,D x.ak,J3 x.aF]
abbrev bj.c(x:bj):Array J0:=x.l.toArray
abbrev bj.v(x:bj):J0:=.agg x.l.toArray
abbrev sD:bj:=⟨0,⟨#[]⟩,⟨#[]⟩,⟨#[]⟩,⟨V,0,0⟩,0,⟨V,0,0⟩,0,0,0,0,U⟩
abbrev bj.s:List Sc:=[.int D,.str,.str,.str,.sl,.int D,.sl,.int D,.int D,.int D,.int D,.bool]
abbrev AQm:Type:=Int×E×E×E×Sl×Int×Sl×Int×Int×Int×Int×Bool×Unit
abbrev bj.t(x:bj):AQm:=(x.akB,x.aH,x.akD,x.name,x.akC,x.aw,x.bS,x.akK,x.akG,x.bA,x.ak,x.aF,())
abbrev AWC(p:AQm):bj:=⟨p.1,p.2.1,p.2.2.1,p.2.2.2.1,p.2.2.2.2.1,p.2.2.2.2.2.1,p.2.2.2.2.2.2.1,p.2.2.2.2.2.2.2.1,p.2.2.2.2.2.2.2.2.1,p.2.2.2.2.2.2.2.2.2.1,p.2.2.2.2.2.2.2.2.2.2.1,p.2.2.2.2.2.2.2.2.2.2.2.1⟩
def AXc(a:W)(b:Q6)(c:bj->Prop):Prop:=gQ a b 0 bj.s λp=>c (AWC p)
theorem Eh{b:bj->Prop}(x:bj)(c:Cells a a4 x.l)(d:b x):AXc a a4 b:=Qr x.t (λe v f=>by rw[B8];exact c e v f) d
structure bH where
 err:Int
 akE:Int
 next:Int
 task:dB
 name:E
 aI:Sl
abbrev bH.l(x:bH):List J0:=[D x.err,D x.akE,D x.next,D x.task.akB,J7 x.task.akD,D x.task.akK,D x.task.akG,J7 x.name,J4 x.aI.p x.aI.len x.aI.cap]
abbrev bH.c(x:bH):Array J0:=x.l.toArray
abbrev bH.v(x:bH):J0:=.agg x.l.toArray
abbrev BR:bH:=⟨0,0,0,⟨0,⟨#[]⟩,0,0⟩,⟨#[]⟩,⟨V,0,0⟩⟩
abbrev bH.s:List Sc:=[.int D,.int D,.int D,.int D,.str,.int D,.int D,.str,.sl]
abbrev AP3:Type:=Int×Int×Int×Int×E×Int×Int×E×Sl×Unit
abbrev bH.t(x:bH):AP3:=(x.err,x.akE,x.next,x.task.akB,x.task.akD,x.task.akK,x.task.akG,x.name,x.aI,())
abbrev AQy(p:AP3):bH:=⟨p.1,p.2.1,p.2.2.1,⟨p.2.2.2.1,p.2.2.2.2.1,p.2.2.2.2.2.1,p.2.2.2.2.2.2.1⟩,p.2.2.2.2.2.2.2.1,p.2.2.2.2.2.2.2.2.1⟩
def WE(a:bH->Prop):Prop:=kO bH.s λp=>a (AQy p)
def A8{a:bH->Prop}(x:bH)(b:a x):WE a:=mH x.t b
def PX(a:W)(b:Q6)(c:bH->Prop):Prop:=gQ a b 0 bH.s λp=>c (AQy p)
theorem DN{b:bH->Prop}(x:bH)(c:Cells a a4 x.l)(d:b x):PX a a4 b:=Qr x.t (λe v f=>by rw[B8];exact c e v f) d
structure dY where
 akQ:Int
 q:bj
 take:Bool
 lh:Bool
abbrev dY.l(x:dY):List J0:=[D x.akQ,D x.q.akB,J7 x.q.aH,J7 x.q.akD,J7 x.q.name,J4 x.q.akC.p x.q.akC.len x.q.akC.cap,D x.q.aw,J4 x.q.bS.p x.q.bS.len x.q.bS.cap,D x.q.akK,D x.q.akG,D x.q.bA,D x.q.ak,J3 x.q.aF,J3 x.take,J3 x.lh]
abbrev dY.c(x:dY):Array J0:=x.l.toArray
abbrev dY.v(x:dY):J0:=.agg x.l.toArray
abbrev pR:dY:=⟨0,⟨0,⟨#[]⟩,⟨#[]⟩,⟨#[]⟩,⟨V,0,0⟩,0,⟨V,0,0⟩,0,0,0,0,U⟩,U,U⟩
abbrev dY.s:List Sc:=[.int D,.int D,.str,.str,.str,.sl,.int D,.sl,.int D,.int D,.int D,.int D,.bool,.bool,.bool]
abbrev AQk:Type:=Int×Int×E×E×E×Sl×Int×Sl×Int×Int×Int×Int×Bool×Bool×Bool×Unit
abbrev dY.t(x:dY):AQk:=(x.akQ,x.q.akB,x.q.aH,x.q.akD,x.q.name,x.q.akC,x.q.aw,x.q.bS,x.q.akK,x.q.akG,x.q.bA,x.q.ak,x.q.aF,x.take,x.lh,())
abbrev AWR(p:AQk):dY:=⟨p.1,⟨p.2.1,p.2.2.1,p.2.2.2.1,p.2.2.2.2.1,p.2.2.2.2.2.1,p.2.2.2.2.2.2.1,p.2.2.2.2.2.2.2.1,p.2.2.2.2.2.2.2.2.1,p.2.2.2.2.2.2.2.2.2.1,p.2.2.2.2.2.2.2.2.2.2.1,p.2.2.2.2.2.2.2.2.2.2.2.1,p.2.2.2.2.2.2.2.2.2.2.2.2.1⟩,p.2.2.2.2.2.2.2.2.2.2.2.2.2.1,p.2.2.2.2.2.2.2.2.2.2.2.2.2.2.1⟩
def AXl(a:W)(b:Q6)(c:dY->Prop):Prop:=gQ a b 0 dY.s λp=>c (AWR p)
theorem La{b:dY->Prop}(x:dY)(c:Cells a a4 x.l)(d:b x):AXl a a4 b:=Qr x.t (λe v f=>by rw[B8];exact c e v f) d
structure iW where
 key:E
 val:E
 akK:Int
 akG:Int
 aF:Bool
abbrev iW.l(x:iW):List J0:=[J7 x.key,J7 x.val,D x.akK,D x.akG,J3 x.aF]
abbrev iW.c(x:iW):Array J0:=x.l.toArray
abbrev iW.v(x:iW):J0:=.agg x.l.toArray
abbrev AaF:iW:=⟨⟨#[]⟩,⟨#[]⟩,0,0,U⟩
abbrev iW.s:List Sc:=[.str,.str,.int D,.int D,.bool]
abbrev AP7:Type:=E×E×Int×Int×Bool×Unit
abbrev iW.t(x:iW):AP7:=(x.key,x.val,x.akK,x.akG,x.aF,())
abbrev AaD(p:AP7):iW:=⟨p.1,p.2.1,p.2.2.1,p.2.2.2.1,p.2.2.2.2.1⟩
abbrev ad(a:Nat):Q6:=⟨a,0,V⟩
def Dv{a:an->ev}{b:an}{c:an->Prop}(d:c b):∃x,a b=a x/\c x:=⟨_,rfl,d⟩
def kP{a:Sl->Prop}(b:a j):∃x:Sl,Value.slice j.p j.len j.cap=J4 x.p x.len x.cap/\a x:=⟨_,rfl,b⟩
abbrev HP:=W->Prop
abbrev aO(x:HP):HP:=x
abbrev jN{a:Type}(b:a->HP)(c:(a->HP)->HP):HP:=aO λd=>fQ b λK=>c K d
abbrev N(b:Bool)(c d:HP):HP:=aO λa=>cZ b (c a) (d a)
abbrev aT(p:Q2)(b:Q6->HP):HP:=aO λc=>At p λa=>b a c
abbrev iX(p:Q2)(b:Nat)(i:Int)(c:Q6->HP):HP:=aO λd=>j5 p b i λa=>c a d
abbrev cK(a:Prop)(b:HP):HP:=aO λc=>dx a (b c)
abbrev aN(b c:HP):HP:=aO λa=>And (b a) (c a)
abbrev oK(a:Bool)(b:HP):HP:=aO λc=>qy a (b c)
abbrev nW(a:Obj)(c:Q6->HP):HP:=aO λd=>bW d a λb=>c (ad b)
abbrev nM(a:Nat->HP):HP:=aO λb=>bW b (.map #[] 0) a
abbrev sT(a:Q6)(b:J0)(c:HP):HP:=aO λd=>aj d a b c
abbrev sA(a:Q6)(b:List J0)(c:HP):HP:=aO λd=>cA d a b c
abbrev rU(a:ai)(m:Sem Unit)(b:HP):HP:=aO λc=>j8 a P m c b
abbrev dF(a:Nat)(c:HP):HP:=aO λb=>b[a]?=Z (.deferred (Z []))/\c (b.setIfInBounds a (.deferred V))
def gA:List (Q6×J0)->HP|[],_=>True|[x],a=>ah a x.1=Z x.2|x::l,a=>ah a x.1=Z x.2/\gA l a
abbrev gT(b:List (Q6×J0))(c:HP):HP:=aO λa=>And (gA b a) (c a)
abbrev cB(b:ai)(c:Q8)(d:Array J0)(e:Bool->HP):HP:=aO λf=>AJ b P c d f λv g=>∃a:Bool,v=J3 a/\e a g
abbrev cEv(b:ai)(c:Q8)(d:Array J0)(e:Ev->HP):HP:=aO λf=>AJ b P c d f λv g=>sw λa=>v=a.v/\e a g
abbrev cI(b:ai)(c:Q8)(d:Array J0)(e:Int->HP):HP:=aO λf=>AJ b P c d f λv g=>∃a:Int,v=D a/\e a g
abbrev cL(b:ai)(c:Q8)(d:Array J0)(e:Sl->HP):HP:=aO λf=>AJ b P c d f λv g=>∃a:Sl,v=J4 a.p a.len a.cap/\e a g
abbrev cP(b:ai)(c:Q8)(d:Array J0)(e:(Q2)->HP):HP:=aO λf=>AJ b P c d f λv g=>∃a:Q2,v=J5 a/\e a g
abbrev Hw(b:ai)(c:Q8)(d:Array J0)(e:bH->HP):HP:=aO λf=>AJ b P c d f λv g=>WE λa=>v=a.v/\e a g
abbrev cS(b:ai)(c:Q8)(d:Array J0)(e:E->HP):HP:=aO λf=>AJ b P c d f λv g=>∃a:E,v=J7 a/\e a g
abbrev jc(b:ai)(c:Q8)(d:Array J0)(e:bQ->HP):HP:=aO λf=>AJ b P c d f λv g=>pQ λa=>v=a.v/\e a g
abbrev cV(b:ai)(c:Q8)(d:Array J0)(e:J0->HP):HP:=aO λf=>AJ b P c d f λv g=>∃a:J0,v=a/\e a g
abbrev AMq(i:ai)(j:Q8)(k:Array J0)(l:Int->Int->Int->Int->Int->Int->Bool->E->HP):HP:=aO λm=>AJ i P j k m λv n=>∃a:Int,∃b:Int,∃c:Int,∃d:Int,∃e:Int,∃f:Int,∃g:Bool,∃h:E,v=.agg #[D a,D b,D c,D d,D e,D f,J3 g,J7 h]/\l a b c d e f g h n
abbrev nh(c:ai)(d:Q8)(e:Array J0)(f:Sl->Int->HP):HP:=aO λg=>AJ c P d e g λv h=>∃a:Sl,∃b:Int,v=.agg #[J4 a.p a.len a.cap,D b]/\f a b h
abbrev AZb(c:ai)(d:Q8)(e:Array J0)(f:Sl->Sl->HP):HP:=aO λg=>AJ c P d e g λv h=>∃a:Sl,∃b:Sl,v=.agg #[J4 a.p a.len a.cap,J4 b.p b.len b.cap]/\f a b h
abbrev KQ(m:ai)(n:Q8)(o:Array J0)(p:(Q2)->(Q2)->(Q2)->(Q2)->(Q2)->(Q2)->(Q2)->(Q2)->(Q2)->(Q2)->(Q2)->(Q2)->HP):HP:=aO λq=>AJ m P n o q λv r=>∃a:Q2,∃b:Q2,∃c:Q2,∃d:Q2,∃e:Q2,∃f:Q2,∃g:Q2,∃h:Q2,∃i:Q2,∃j:Q2,∃k:Q2,∃l:Q2,v=.agg #[J5 a,J5 b,J5 c,J5 d,J5 e,J5 f,J5 g,J5 h,J5 i,J5 j,J5 k,J5 l]/\p a b c d e f g h i j k l r
abbrev ct(a:ai)(b:Q8)(c:Array J0)(d:HP):HP:=aO λe=>AJ a P b c e λv f=>v=J1 #[]/\d f
abbrev qY(c:ai)(d:Q8)(e:Array J0)(f:Ev->Bool->HP):HP:=aO λg=>AJ c P d e g λv h=>sw λa=>∃b:Bool,v=J1 #[a.v,J3 b]/\f a b h
abbrev AXn(c:ai)(d:Q8)(e:Array J0)(f:Ev->Int->HP):HP:=aO λg=>AJ c P d e g λv h=>sw λa=>∃b:Int,v=J1 #[a.v,D b]/\f a b h
abbrev Mo(c:ai)(d:Q8)(e:Array J0)(f:cJ->Int->HP):HP:=aO λg=>AJ c P d e g λv h=>AXf λa=>∃b:Int,v=J1 #[a.v,D b]/\f a b h
abbrev qZ(c:ai)(d:Q8)(e:Array J0)(f:Int->Bool->HP):HP:=aO λg=>AJ c P d e g λv h=>∃a:Int,∃b:Bool,v=J1 #[D a,J3 b]/\f a b h
abbrev iM(c:ai)(d:Q8)(e:Array J0)(f:Int->Int->HP):HP:=aO λg=>AJ c P d e g λv h=>∃a:Int,∃b:Int,v=J1 #[D a,D b]/\f a b h
abbrev AZW(d:ai)(e:Q8)(f:Array J0)(g:Int->Sl->Bool->HP):HP:=aO λh=>AJ d P e f h λv i=>∃b:Int,∃a:Sl,∃c:Bool,v=J1 #[D b,J4 a.p a.len a.cap,J3 c]/\g b a c i
abbrev AX3(d:ai)(e:Q8)(f:Array J0)(g:Int->E->Int->HP):HP:=aO λh=>AJ d P e f h λv i=>∃a:Int,∃b:E,∃c:Int,v=J1 #[D a,J7 b,D c]/\g a b c i
abbrev pd(c:ai)(d:Q8)(e:Array J0)(f:Int->J0->HP):HP:=aO λg=>AJ c P d e g λv h=>∃a:Int,∃b:J0,v=J1 #[D a,b]/\f a b h
abbrev ra(c:ai)(d:Q8)(e:Array J0)(f:Sl->Bool->HP):HP:=aO λg=>AJ c P d e g λv h=>∃a:Sl,∃b:Bool,v=J1 #[J4 a.p a.len a.cap,J3 b]/\f a b h
abbrev AZT(d:ai)(e:Q8)(f:Array J0)(g:Sl->Bool->Bool->HP):HP:=aO λh=>AJ d P e f h λv i=>∃a:Sl,∃b:Bool,∃c:Bool,v=J1 #[J4 a.p a.len a.cap,J3 b,J3 c]/\g a b c i
abbrev WI(c:ai)(d:Q8)(e:Array J0)(f:Sl->Int->HP):HP:=aO λg=>AJ c P d e g λv h=>∃a:Sl,∃b:Int,v=J1 #[J4 a.p a.len a.cap,D b]/\f a b h
abbrev AYR(c:ai)(d:Q8)(e:Array J0)(f:dH->Int->HP):HP:=aO λg=>AJ c P d e g λv h=>AXy λa=>∃b:Int,v=J1 #[a.v,D b]/\f a b h
abbrev kH(c:ai)(d:Q8)(e:Array J0)(f:(Q2)->Int->HP):HP:=aO λg=>AJ c P d e g λv h=>∃a:Q2,∃b:Int,v=J1 #[J5 a,D b]/\f a b h
abbrev AXb(d:ai)(e:Q8)(f:Array J0)(g:(Q2)->Sl->Int->HP):HP:=aO λh=>AJ d P e f h λv i=>∃b:Q2,∃a:Sl,∃c:Int,v=J1 #[J5 b,J4 a.p a.len a.cap,D c]/\g b a c i
abbrev pg(d:ai)(e:Q8)(f:Array J0)(g:(Q2)->(Q2)->Bool->HP):HP:=aO λh=>AJ d P e f h λv i=>∃a:Q2,∃b:Q2,∃c:Bool,v=J1 #[J5 a,J5 b,J3 c]/\g a b c i
abbrev vC(c:ai)(d:Q8)(e:Array J0)(f:E->Bool->HP):HP:=aO λg=>AJ c P d e g λv h=>∃a:E,∃b:Bool,v=J1 #[J7 a,J3 b]/\f a b h
abbrev lW(d:ai)(e:Q8)(f:Array J0)(g:E->Bool->Int->HP):HP:=aO λh=>AJ d P e f h λv i=>∃a:E,∃b:Bool,∃c:Int,v=J1 #[J7 a,J3 b,D c]/\g a b c i
abbrev Ps(c:ai)(d:Q8)(e:Array J0)(f:E->Int->HP):HP:=aO λg=>AJ c P d e g λv h=>∃a:E,∃b:Int,v=J1 #[J7 a,D b]/\f a b h
abbrev ALW(e:ai)(f:Q8)(g:Array J0)(h:E->bH->Bool->Int->HP):HP:=aO λi=>AJ e P f g i λv j=>∃a:E,WE λb=>∃c:Bool,∃d:Int,v=J1 #[J7 a,b.v,J3 c,D d]/\h a b c d j
abbrev AZ3(d:ai)(e:Q8)(f:Array J0)(g:E->E->Int->HP):HP:=aO λh=>AJ d P e f h λv i=>∃a:E,∃b:E,∃c:Int,v=J1 #[J7 a,J7 b,D c]/\g a b c i
abbrev ph(c:ai)(d:Q8)(e:Array J0)(f:bQ->Bool->HP):HP:=aO λg=>AJ c P d e g λv h=>pQ λa=>∃b:Bool,v=J1 #[a.v,J3 b]/\f a b h
abbrev vD(c:ai)(d:Q8)(e:Array J0)(f:bQ->Int->HP):HP:=aO λg=>AJ c P d e g λv h=>pQ λa=>∃b:Int,v=J1 #[a.v,D b]/\f a b h
abbrev re(d:ai)(e:Q8)(f:Array J0)(g:bQ->Int->Int->HP):HP:=aO λh=>AJ d P e f h λv i=>pQ λa=>∃b:Int,∃c:Int,v=J1 #[a.v,D b,D c]/\g a b c i
abbrev rh(c:ai)(d:Q8)(e:Array J0)(f:bP->Bool->HP):HP:=aO λg=>AJ c P d e g λv h=>AX2 λa=>∃b:Bool,v=J1 #[a.v,J3 b]/\f a b h
abbrev Uv(d:ai)(e:Q8)(f:Array J0)(g:Sl->Int->Int->HP):HP:=aO λh=>AJ d P e f h λv i=>∃a:Sl,∃b:Int,∃c:Int,v=J1 #[.agg #[J4 a.p a.len a.cap,D b],D c]/\g a b c i
abbrev Eu(d:ai)(e:Q8)(f:Array J0)(g:Sl->Sl->bH->HP):HP:=aO λh=>AJ d P e f h λv i=>∃a:Sl,∃b:Sl,WE λc=>v=J1 #[.agg #[J4 a.p a.len a.cap,J4 b.p b.len b.cap],c.v]/\g a b c i
abbrev AMH(e:ai)(f:Q8)(g:Array J0)(h:E->E->Bool->Bool->HP):HP:=aO λi=>AJ e P f g i λv j=>∃a:E,∃b:E,∃c:Bool,∃d:Bool,v=J1 #[.agg #[J7 a,J7 b,J3 c],J3 d]/\h a b c d j
abbrev UI(m:ai)(n:Q8)(o:Array J0)(p:E->E->Int->Int->Int->Int->E->Int->Int->E->Sl->Bool->HP):HP:=aO λq=>AJ m P n o q λv r=>∃b:E,∃c:E,∃d:Int,∃e:Int,∃f:Int,∃g:Int,∃h:E,∃i:Int,∃j:Int,∃k:E,∃a:Sl,∃l:Bool,v=J1 #[.agg #[J7 b,J7 c,D d,D e,D f,D g,J7 h,D i,D j,J7 k,J4 a.p a.len a.cap],J3 l]/\p b c d e f g h i j k a l r
abbrev ri(c:ai)(d:Q8)(e:Array J0)(f:Int->Int->HP):HP:=aO λg=>AJ c P d e g λv h=>∃a:Int,∃b:Int,v=J1 #[.int .u32 a,.int .u32 b]/\f a b h
abbrev AX7(c:ai)(d:Q8)(e:Array J0)(f:Int->Int->HP):HP:=aO λg=>AJ c P d e g λv h=>∃a:Int,∃b:Int,v=J1 #[.int .u64 a,D b]/\f a b h
abbrev vE(d:ai)(e:Q8)(f:Array J0)(g:Int->E->Bool->HP):HP:=aO λh=>AJ d P e f h λv i=>∃a:Int,∃b:E,∃c:Bool,v=J1 #[.int .u64 a,J7 b,J3 c]/\g a b c i
abbrev AY2(c:ai)(d:Q8)(e:Array J0)(f:Int->J0->HP):HP:=aO λg=>AJ c P d e g λv h=>∃a:Int,∃b:J0,v=J1 #[.int .u64 a,b]/\f a b h
abbrev vG(b:ai)(c:Q8)(d:Array J0)(e:Int->HP):HP:=aO λf=>AJ b P c d f λv g=>∃a:Int,v=.int .u32 a/\e a g
abbrev pj(b:ai)(c:Q8)(d:Array J0)(e:Int->HP):HP:=aO λf=>AJ b P c d f λv g=>∃a:Int,v=.int .u64 a/\e a g
abbrev eB(b:ai)(c:Q8)(d:Array J0)(e:Bool->HP):HP:=aO λf=>uW b P c d f λv g=>∃a:Bool,v=J3 a/\e a g
abbrev lB(b:Q6)(c:Bool->HP):HP:=aO λa=>lH a b λx=>c x a
abbrev lI(b:Q6)(c:Int->HP):HP:=aO λa=>KY D a b λx=>c x a
abbrev AZc(b:Q6)(c:Int->HP):HP:=aO λa=>KY .u8 a b λx=>c x a
abbrev lL(b:Q6)(c:Sl->HP):HP:=aO λa=>JR a b λx=>c x a
abbrev lM(b:Q6)(c:(Option Nat)->HP):HP:=aO λa=>tI a b λx=>c x a
abbrev lP(b:Q6)(c:(Q2)->HP):HP:=aO λa=>kB a b λx=>c x a
abbrev lS(b:Q6)(c:E->HP):HP:=aO λa=>KT a b λx=>c x a
abbrev lV(b:Q6)(c:J0->HP):HP:=aO λa=>qt a b λx=>c x a
abbrev rj(b:Q6)(c:Ck->HP):HP:=aO λa=>AZk a b λx=>c x a
abbrev jJ(b:Q6)(c:dY->HP):HP:=aO λa=>AXl a b λx=>c x a
abbrev Je(b:Q6)(c:Ev->HP):HP:=aO λa=>pP a b λx=>c x a
abbrev JG(b:Q6)(c:cJ->HP):HP:=aO λa=>sC a b λx=>c x a
abbrev jK(b:Q6)(c:Jb->HP):HP:=aO λa=>AZ9 a b λx=>c x a
abbrev lX(b:Q6)(c:dH->HP):HP:=aO λa=>sB a b λx=>c x a
abbrev CP(b:Q6)(c:bH->HP):HP:=aO λa=>PX a b λx=>c x a
abbrev PD(b:Q6)(c:bj->HP):HP:=aO λa=>AXc a b λx=>c x a
abbrev CB(b:Q6)(c:bQ->HP):HP:=aO λa=>PZ a b λx=>c x a
abbrev lY(b:Q6)(c:bP->HP):HP:=aO λa=>AXi a b λx=>c x a
abbrev ni(b:Q6)(c:dB->HP):HP:=aO λa=>AXz a b λx=>c x a
abbrev AZp(c:ai)(d:J0)(e:String)(f:Array J0)(g:Sl->Int->HP):HP:=aO λh=>ze c P d e f h λv i=>∃a:Sl,∃b:Int,v=J1 #[J4 a.p a.len a.cap,D b]/\g a b i
abbrev rB(b:ai)(m:Sem J0)(c:Bool->HP):HP:=aO λd=>Ew b P m d λv e=>∃a:Bool,v=J3 a/\c a e
abbrev rI(b:ai)(m:Sem J0)(c:Int->HP):HP:=aO λd=>Ew b P m d λv e=>∃a:Int,v=D a/\c a e
abbrev rL(b:ai)(m:Sem J0)(c:Sl->HP):HP:=aO λd=>Ew b P m d λv e=>∃a:Sl,v=J4 a.p a.len a.cap/\c a e
abbrev rP(b:ai)(m:Sem J0)(c:(Q2)->HP):HP:=aO λd=>Ew b P m d λv e=>∃a:Q2,v=J5 a/\c a e
abbrev rS(b:ai)(m:Sem J0)(c:E->HP):HP:=aO λd=>Ew b P m d λv e=>∃a:E,v=J7 a/\c a e
abbrev AZo(c:ai)(m:Sem J0)(d:Int->Int->HP):HP:=aO λe=>Ew c P m e λv f=>∃a:Int,∃b:Int,v=.agg #[D a,D b]/\d a b f
abbrev rt(a:ai)(m:Sem J0)(b:HP):HP:=aO λc=>Ew a P m c λv d=>v=J1 #[]/\b d
abbrev rl(b:ai)(m:Sem J0)(c:Int->HP):HP:=aO λd=>Ew b P m d λv e=>∃a:Int,v=.int .u64 a/\c a e
abbrev vB(b:ai)(c:J0)(d:Array J0)(e:Bool->HP):HP:=aO λf=>JF b P c d f λv g=>∃a:Bool,v=J3 a/\e a g
abbrev aV:Lv:=.one (.int D)
abbrev aL:Lv:=.one .bool
abbrev eX:Lv:=.one .str
abbrev dW:Lv:=.one .sl
abbrev iu:Lv:=.one .ptr
instance:Coe Int J0:=⟨.int D⟩
instance:Coe Nat J0:=⟨λn=>D (n:Int)⟩
instance:Coe Bool J0:=⟨.bool⟩
instance:Coe E J0:=⟨.string⟩
instance:Coe (Q2) J0:=⟨.pointer⟩
instance:Coe Sl J0:=⟨λs=>J4 s.p s.len s.cap⟩
def Ae(m:List (Nat×Live))(b:c7=semAt d P c3 m b3 a e)(c:c7):AJ d P c3 b3.toArray a e:=ANl mixed (b▸c)
end Go.Lf
