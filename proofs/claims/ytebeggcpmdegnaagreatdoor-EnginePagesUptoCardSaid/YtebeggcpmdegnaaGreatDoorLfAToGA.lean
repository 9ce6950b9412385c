/-
 LIFT, part A: worlds as heaps beside a fixed rest; one operation's outcome at the level of values; a region that draws its order, walked in the text's order.
-/
import Derived.WalkKit
import Derived.OrdersIn
import Derived.RangeFuncIn
import Derived.RangeFuncLeaves
import Derived.RangeFuncCalls
import Derived.TacticsInMore
import Derived.RangeFuncRecord
import Derived.Test.YtebeggcpmdegnaaGreatDoorProg
import Derived.Laws.FloatArith
import Derived.MapKept
import Derived.Maps.Own
import Derived.Lib.Bytealg
import Derived.Sort.KeysCollected
import Derived.StringKeys
import Derived.Laws.BytesString
import Derived.Laws.BytesArg
import Derived.Laws.StructEq
import Derived.ChangeKeysEq
set_option maxRecDepth 100000
set_option linter.unusedVariables false
set_option linter.unusedSimpArgs false
set_option linter.defProp false
open Go.IntKind renaming i64→D,wrap→J8
open Go.Value renaming string→J7,int→J6,pointer→J5,slice→J4,bool→J3,tuple→J1
open Go.Obj renaming cells→J2
open Go renaming Value→J0,Addr→Q6,TypeId→Q7,FuncId→Q8,Program→Q1
open Go.Addr renaming add→Q9,mk→Q5
open Option renaming some→Z,none→V
open Bool renaming true→Y,false→U
open List renaming length→J
namespace Go.Lf
abbrev Q2:=Option Q6
instance:CoeFun Q6 λ_=>Nat->Q6:=⟨Q9⟩
instance:CoeFun IntKind λ_=>Int->J0:=⟨J6⟩
abbrev E:=ByteArray
abbrev A0:=@if_neg
abbrev A1:=@if_pos
abbrev A2:=@Nat.le_refl
abbrev A3:=@List.getElem?_eq_getElem
abbrev A4:=@absurd
abbrev A5:=@of_decide_eq_true
abbrev A6:=@List.length_append
abbrev An:=@decide_eq_false
abbrev As:=@Bool.and_eq_true
abbrev Ax:=@List.getElem?_eq_some_iff
abbrev AD:=@Nat.le_trans
abbrev AE:=@Int.toNat_natCast
abbrev AF:=@Nat.zero_le
abbrev AG:=@of_decide_eq_false
abbrev AH:=@List.mem_of_getElem?
abbrev AI:=@List.append_assoc
abbrev AK:=@List.append_nil
abbrev AM:=@List.mem_singleton
abbrev AN:=@List.mem_append
abbrev AS:=@List.mem_cons
abbrev AT:=@if_true
abbrev AW:=@decide_eq_true_eq
abbrev B8:=@Nat.zero_add
abbrev B9:=@decide_eq_true
abbrev Bk:=@List.take_of_length_le
abbrev Bm:=@List.mem_map
abbrev Bs:=@List.length_cons
abbrev By:=@List.pairwise_cons
abbrev BE:=@List.take_add_one
abbrev BT:=@List.length_take
abbrev BW:=@Nat.mod_eq_of_lt
abbrev BY:=@Bool.false_eq_true
abbrev Cd:=@if_false
abbrev Cl:=@List.filter_cons
abbrev Cp:=@List.take_length
abbrev CA:=@Decidable.byContradiction
abbrev CC:=@List.flatMap_cons
abbrev CD:=@List.getElem_mem
abbrev CH:=@Option.some.inj
abbrev CI:=@Nat.lt_of_lt_of_le
abbrev CM:=@List.mem_cons_of_mem
abbrev CN:=@List.nil_append
abbrev CT:=@List.getElem?_of_mem
abbrev Dd:=@Nat.mul_one
abbrev Ds:=@Option.some.injEq
abbrev DA:=@Bool.true_and
abbrev DB:=@Nat.mod_lt
abbrev DE:=@Nat.add_mul
abbrev DG:=@Nat.mul_le_mul_right
abbrev DH:=@List.map_cons
abbrev DM:=@List.drop_eq_getElem_cons
abbrev DO:=@List.cons_append
abbrev DP:=@List.all_eq_true
abbrev DQ:=@Option.toList_some
abbrev DS:=@List.find?_cons
abbrev E0:=@List.map_map
abbrev Ek:=@Iff.rfl
abbrev F0:=@List.mem_of_mem_take
abbrev Fc:=@List.getElem?_drop
abbrev Fk:=@List.mem_filter
abbrev Fl:=@List.getElem_of_mem
abbrev Fm:=@List.drop_length
abbrev Fo:=@Bool.eq_iff_iff
abbrev Ft:=@decide_eq_decide
abbrev FA:=@List.take_append_drop
abbrev FF:=@Bool.or_eq_true
abbrev FG:=@List.mem_cons_self
abbrev G0:=@Bool.false_and
abbrev G3:=@List.mem_append_left
abbrev G4:=@List.length_map
abbrev Ge:=@List.pairwise_map
abbrev Gk:=@List.map_append
abbrev GB:=@Nat.add_zero
abbrev GC:=@Nat.pow_succ
abbrev GF:=@Array.toList_setIfInBounds
abbrev GO:=@Bool.not_eq_true'
abbrev GP:=@Bool.false_or
abbrev GS:=@List.findIdx?_eq_some_iff_getElem
abbrev GW:=@Option.bind_some
abbrev Hb:=@List.filterMap_cons
abbrev Hc:=@Nat.min_eq_left
abbrev Hh:=@Option.getD_some
abbrev Hi:=@Option.bind_eq_some_iff
abbrev Hj:=@List.find?_eq_none
abbrev Hk:=@Option.map_eq_some_iff
abbrev Hn:=@List.drop_zero
abbrev Hv:=@List.length_singleton
abbrev HA:=@List.filterMap_append
abbrev HC:=@List.getElem?_take
abbrev HD:=@Array.toList_inj
abbrev HE:=@List.eq_nil_of_length_eq_zero
abbrev HG:=@Array.getElem?_eq_getElem
abbrev HI:=@List.getElem?_map
abbrev HJ:=@List.mem_range
abbrev HK:=@List.map_congr_left
abbrev HL:=@Array.getElem?_setIfInBounds_ne
abbrev HM:=@List.findIdx?_eq_none_iff
abbrev HN:=@List.length_eq_zero_iff
abbrev HQ:=@Bool.eq_false_iff
abbrev HS:=@Nat.le_add_right
abbrev HT:=@List.mem_append_right
abbrev HU:=@Nat.le_succ
abbrev HW:=@Bool.or_true
abbrev HX:=@UInt8.lt_iff_toNat_lt
abbrev I0:=@Nat.pow_add
abbrev I2:=@List.filter_eq_self
abbrev I3:=@Function.comp_def
abbrev Is:=@List.length_filterMap_le
abbrev It:=@List.take_succ_eq_append_getElem
abbrev Iv:=@List.length_pos_iff
abbrev Ix:=@List.drop_drop
abbrev ID:=@Nat.zero_mul
abbrev IF:=@List.getElem?_set_self
abbrev IH:=@List.length_drop
abbrev IN:=@Array.getElem?_eq_some_iff
abbrev IS:=@List.length_set
abbrev IT:=@Nat.mul_comm
abbrev Jx:=@List.getElem?_append_left
abbrev JT:=@Int.le_refl
abbrev Kd:=@List.getElem?_cons_zero
abbrev Kp:=@List.filter_append
abbrev Ks:=@List.nodup_cons
abbrev Kx:=@List.length_nil
abbrev KB:=@Nat.add_assoc
abbrev KK:=@List.set_getElem_self
abbrev Lk:=@List.pairwise_iff_getElem
abbrev Ln:=@List.filter_sublist
abbrev Lo:=@List.set_append_right
abbrev Lq:=@List.flatMap_append
abbrev Ly:=@List.getElem?_append_right
abbrev Lz:=@List.drop_succ_cons
abbrev LI:=@Nat.lt_or_ge
abbrev LL:=@Nat.lt_trichotomy
abbrev LN:=@List.take_succ_cons
abbrev LO:=@List.foldl_cons
abbrev LR:=@List.cons.injEq
abbrev LS:=@Nat.sub_zero
abbrev Mb:=@Nat.mul_assoc
abbrev Mn:=@Int.mul_assoc
abbrev My:=@Int.pow_add
abbrev Mz:=@Nat.two_pow_pos
abbrev MA:=@List.nodup_iff_pairwise_ne
abbrev MD:=@List.filter_congr
abbrev MT:=@List.mem_of_find?_eq_some
abbrev MY:=@List.Perm.refl
abbrev N3:=@Nat.eq_of_beq_eq_true
abbrev N4:=@Bool.true_or
abbrev N5:=@List.countP_le_length
abbrev Nd:=@List.countP_append
abbrev No:=@List.countP_singleton
abbrev Nx:=@List.append_eq_nil_iff
abbrev NO:=@Decidable.not_not
abbrev NX:=@List.getElem?_set_ne
abbrev Of:=@Option.none_or
abbrev On:=@List.filter_nil
abbrev OF:=@Option.toList_none
abbrev OK:=@Array.getElem?_modify
abbrev ON:=@Array.length_toList
abbrev OR:=@List.mem_of_mem_drop
abbrev OS:=@List.foldl_append
abbrev P0:=@List.sum_cons
abbrev P2:=@Option.map_some
abbrev P3:=@Bool.or_eq_false_iff
abbrev P4:=@List.append_cancel_left
abbrev Pa:=@List.take_append
abbrev Pc:=@List.drop_of_length_le
abbrev PA:=@Option.isSome_map
abbrev PB:=@Nat.xor_lt_two_pow
abbrev PC:=@Bool.not_true
abbrev PF:=@List.getElem?_eq_none
abbrev PJ:=@Nat.min_eq_right
abbrev R0:=@List.find?_nil
abbrev R1:=@Nat.lt_succ_self
abbrev R2:=@List.mem_filterMap
abbrev Rg:=@List.takeWhile_cons
abbrev Rr:=@List.getElem?_toArray
abbrev RC:=@List.toList_toArray
abbrev RE:=@Nat.lt_or_gt_of_ne
abbrev RM:=@Nat.add_sub_cancel
abbrev RR:=@List.foldl_nil
abbrev RT:=@List.all_cons
abbrev RW:=@ByteArray.data_append
abbrev S7:=@ByteArray.size_append
abbrev Se:=@Nat.or_lt_two_pow
abbrev Sf:=@Nat.one_mul
abbrev Sh:=@UInt8.lt_irrefl
abbrev Sp:=@Array.toList_modify
abbrev Ss:=@true_and
abbrev SD:=@List.take_zero
abbrev SJ:=@Nat.log2_lt
abbrev SM:=@Nat.shiftLeft_zero
abbrev SO:=@List.getElem_inj
abbrev SR:=@List.not_mem_nil
abbrev SW:=@List.nodup_nil
abbrev SZ:=@List.length_replicate
abbrev T3:=@List.singleton_append
abbrev T4:=@List.tail_cons
abbrev T6:=@List.set_set
abbrev Tl:=@List.drop_take
abbrev To:=@List.ne_nil_of_length_pos
abbrev Tr:=@Option.ne_none_iff_exists'
abbrev Ts:=@List.getElem?_append
abbrev TO:=@List.find?_append
abbrev TX:=@Option.or_none
abbrev UP:=@List.mem_reverse
abbrev US:=@Nat.sub_self
abbrev V0:=@List.mapM_cons
abbrev Vc:=@List.mem_flatMap
abbrev Wa:=@List.drop_append
abbrev Wb:=@Array.size_setIfInBounds
abbrev Wc:=@List.map_set
abbrev Wf:=@List.set_cons_succ
abbrev Wg:=@List.pairwise_append
abbrev Wr:=@List.findSome?_eq_none_iff
abbrev WD:=@ByteArray.ext_iff
abbrev Xs:=@Prod.mk.injEq
abbrev Ys:=@UInt8.toNat_ofNat'
abbrev Zs:=@Nat.pow_le_pow_right
abbrev ZD:=@Array.toList_append
abbrev ZS:=@List.map_id
abbrev A00:=@Nat.lt_of_le_of_lt
abbrev A01:=@List.isPrefixOf_iff_prefix
abbrev A03:=@List.take_take
abbrev A04:=@Option.isSome_iff_exists
abbrev A05:=@List.any_eq_false
abbrev A06:=@Int.add_zero
abbrev A07:=@Bool.or_false
abbrev A08:=@List.find?_some
abbrev A09:=@List.append_of_mem
abbrev A0a:=@Nat.shiftLeft_eq
abbrev A0c:=@Int.natAbs_natCast
abbrev A0d:=@List.reverse_cons
abbrev A0e:=@ByteArray.ext
abbrev A0m:=@List.getElem?_replicate
abbrev A0p:=@List.reverse_singleton
abbrev A0r:=@List.exists_cons_of_ne_nil
abbrev A0t:=@List.length_eq_one_iff
abbrev A0w:=@List.mem_or_eq_of_mem_set
abbrev A0x:=@Nat.div_div_eq_div_mul
abbrev A0y:=@List.setIfInBounds_toArray
abbrev A0z:=@Array.mapM_eq_mapM_toList
abbrev A0A:=@Nat.le_of_ble_eq_true
abbrev A0C:=@List.takeWhile_sublist
abbrev A0H:=@List.drop_eq_nil_of_le
abbrev A0I:=@List.getElem?_eq_none_iff
abbrev A0M:=@List.set_eq_take_append_cons_drop
abbrev A0N:=@List.getElem?_concat_length
abbrev A0O:=@List.pairwise_singleton
abbrev A0Q:=@List.exists_of_findSome?_eq_some
abbrev A0R:=@Array.getElem?_toList
abbrev A0T:=@Array.mem_of_getElem?
abbrev A0V:=@List.mem_of_mem_erase
abbrev A0X:=@List.cons_lt_cons_iff
abbrev A0Z:=@Array.toList_eraseIdx
abbrev A19:=@Array.getElem?_push_size
abbrev A1b:=@List.length_filter_le
abbrev A1e:=@List.length_eraseIdx_le
abbrev A1g:=@List.drop_append_of_le_length
abbrev A1h:=@List.filter_filterMap
abbrev A1m:=@Nat.mul_lt_mul_of_pos_right
abbrev A1r:=@List.take_append_of_le_length
abbrev A1s:=@ByteArray.data_extract
abbrev A1v:=@Nat.two_pow_add_eq_or_of_lt
abbrev A1z:=@Array.getElem?_append_left
abbrev A1B:=@List.getElem?_singleton
structure ai where
 tape:Nat->Question->Nat
 os:Os
 output:Array (Nat×E)
abbrev Q:=Array Obj
abbrev A3U:=J0->Q->Prop
def ai.at(a:ai)(b:Q)(c:Nat):World:={heap:=b,tape:=a.tape,drawn:=c,os:=a.os,output:=a.output}
abbrev Fw(a:Option Nat):Fence:={fn:=λ_=>True,depth:=V,alive:=U,round:=a}
theorem y5(a:Option Nat)(b:Nat):(Fw a).room b:=λ_ c=>by simp at c
variable{b1:Option Nat}{b f:Nat}{x:Program}{cy:FuncId}{bi:Array Value}{a9:World}{fd:Ending->World->Prop}{cx d4:Code}{e2:Value->World->Prop}{b8:Oper}{er:Operand->Value}{bd:Act}{c0:Exit->Act->World->Prop}{d:ai}{a:Q}{e:A3U}{r:Value}{ca:Value->Prop}{c3:Prop}
def ZY:CallsIn (Fw b1) b x cy bi a9 fd↔Calls x cy bi a9 fd:=callsIn_wide
def nX(a:Q1)(b:Nat)(c:Q8)(d:Array J0)(e f:Code)(g:World)(h:J0->World->Prop):Prop:=RoundIn (Fw V) 0 a b c d e f g (λi j=>∃v,i=.returned v/\h v j)
def nX.mono{a:J0->World->Prop}(d:nX x b cy bi cx d4 a9 e2)(e:∀v c,e2 v c->a v c):nX x b cy bi cx d4 a9 a:=RoundIn.mono d λ_ _⟨v,g,h⟩=>⟨v,g,e _ _ h⟩
def ANw(a:RoundIn (Fw V) 0 x f cy bi cx d4 a9 fd):RoundIn (Fw b1) b x f cy bi cx d4 a9 fd:=⟨trivial,λc d _=>a.2 c d (y5 V _)⟩
def Next.out(c:Q1)(b:J0->World->Prop):Result Next->Prop|.ok (.value v) a=>b v a|.ok .skip a=>b undef a|.ok (.enter f args) a=>Calls c f args a (λd e=>∃v,d=.returned v/\b v e)|.ok (.round l f tmps assign body) a=>nX c l f tmps assign body a b|_=>False
def EV(a:Q1)(b:Oper)(c:Operand->J0)(d:World)(e:J0->World->Prop):Prop:=Next.out a e ((execOp c b).run a d)
theorem NE{c:Q1}{d:J0->World->Prop}(b:∀v w,e2 v w->d v w){x:Result Next}(a:Next.out c e2 x):Next.out c d x:=by cases x with|ok e w=>{cases e<;>simp only[Next.out]at a⊢<;>first|exact b _ _ a|exact Calls.mono a λ_ _⟨v,f,g⟩=>⟨v,f,b _ _ g⟩|exact nX.mono a b}|halt x w=>simp[Next.out]at a
def EV.mono{a:J0->World->Prop}(b:EV x b8 er a9 e2)(c:∀v a9,e2 v a9->a v a9):EV x b8 er a9 a:=NE c b
theorem Calls.some(c:Calls x cy bi a9 fd):∃a b,fd a b:=let⟨a,b,_,r,_⟩:=c [];⟨a,b,r⟩
theorem EV.some(a:EV x b8 er a9 e2):∃v b,e2 v b:=by unfold EV at a;cases e:(execOp er b8).run x a9 with|ok g b=>rw[e]at a;cases g<;>simp only[Next.out]at a;(case value v=>exact⟨_,_,a⟩);(case skip=>exact⟨_,_,a⟩);(case enter f args=>obtain⟨h,c,v,_,d⟩:=Calls.some a;exact⟨v,c,d⟩);case round l f tmps assign body=>have⟨h,c,⟨v,_,d⟩,_⟩:=a.2 default [] (y5 V _);exact⟨v,c,d⟩|halt g b=>rw[e]at a;simp[Next.out]at a
def Mr(a:Oper):Bool:=match a.op with|.defer _=>U|.select ..=>U|_=>Y
theorem EV.wpIn{m:Nat}{d:Q1}{i:Act->World->Prop}(k:Mr b8=Y)(b:EV d b8 bd.eval a9 λv e=>i (bd.put b8.dst v) e):b8.wpIn (Fw b1) m d bd a9 i c0:=by refine⟨λ_ _=>trivial,?_⟩;rw[Oper.semAt_eq b1 bd.eval b8 (λc n=>by simp[Mr,n]at k)];unfold EV at b;generalize(execOp bd.eval b8).run d a9=x at b;cases x with|ok j e=>cases j<;>simp only[Next.out]at b<;>simp only[Oper.uponIn];(case value v=>exact b);(case skip=>exact b);(case enter f args=>refine⟨λg=>by simp at g,ZY.2 (Calls.mono b ?_)⟩;rintro p q⟨v,rfl,h⟩;exact h);case round l f tmps assign body=>refine⟨λg=>by simp at g,ANw (RoundIn.mono b ?_)⟩;rintro p q⟨v,rfl,h⟩;exact h|halt j e=>simp[Next.out]at b
def ju(d:Q1)(a:ai)(e:Oper)(f:Operand->J0)(g:J0)(b:Q):Prop:=∀c,(execOp f e).run d (a.at b c)=.ok (.value g) (a.at b c)
def un(b:Nat->Nat->Bool)(i a:Nat):Bool:=!(b (max i a) (min i a))
def PU(a:Oper):Prop:=∀c b,a.op≠.select c b
def ya(a:Array Oper):Nat->Nat->Bool:=let b:=Region.before a;λi c=>(b.getD i 0).testBit c
def left(a:Nat)(b:Array Bool):List Nat:=(List.range a).filter λi=>!b.getD i U
theorem mem_left{a:Array Bool}{i:Nat}:i∈left b a↔i<b/\a.getD i U=false:=by simp[left]
theorem range_split{n i:Nat}(c:i<n):List.range n=List.range i++i::(List.range' (i+1) (n-i-1)):=by
 rw[List.range_eq_range',List.range_eq_range'];have a:List.range' 0 n=List.range' 0 i++List.range' i (n-i):=by have:=List.range'_append_1 (s:=0) (m:=i) (n:=n-i);rw[B8]at this;rw[this];congr 1;omega
 rw[a];congr 1;have b:n-i=(n-i-1)+1:=by omega
 rw[b,List.range'_succ];simp
theorem AN9{i:Nat}{a:Array Bool}(hi:i<b)(j:a.size=b)(g:a.getD i U=U):∃e f,left b a=e++i::f/\left b (a.setIfInBounds i Y)=e++f/\∀c∈e,c<i/\a.getD c U=false:=by refine⟨(List.range i).filter λc=>!a.getD c U,(List.range' (i+1) (b-i-1)).filter λc=>!a.getD c U,?_,?_,?_⟩;{unfold left;rw[range_split hi,Kp,Cl];simp only[g,Bool.not_false,AT]};{unfold left;have h:(a.setIfInBounds i Y).getD i U=true:=by{have:i<a.size:=by{omega};simp[this]};rw[range_split hi,Kp,Cl];simp only[h,PC,BY,Cd];congr 1;{refine MD λc d=>?_;have:=HJ.1 d;rw[getD_set_ne U (by omega)]};refine MD λc d=>?_;have:=(List.mem_range'_1.1 d).1;rw[getD_set_ne U (by omega)]};intro c d;simp only[Fk,HJ,GO]at d;exact d
def iy(d:Nat->Nat->Bool)(c:Array Bool):Prop:=∀a b,c.getD a U=Y->b<a->d a b=Y->c.getD b U=Y
theorem yb(a:Mr b8=Y):PU b8:=λd b c=>by simp[Mr,c]at a
theorem ATL(a:Nat):left a (Array.replicate a U)=List.range a:=by unfold left;rw[I2];intro i _;by_cases b:i<a<;>simp[b]
def ah(b:Q)(a:Q6):Option J0:=match b[a.block]? with|some (.cells c _ _)=>if a.spot.isSome then V else c[a.off]?|_=>V
def gV(b:Q)(a:Q6):Bool:=match b[a.block]? with|some (.cells _ _ (lo,hi))=>lo<=a.off&&a.off<hi|_=>U
def cO(b:Q)(a:Q6)(d:J0):Q:=b.modify a.block λ|.cells c e frozen=>.cells (if a.spot.isSome then c else c.setIfInBounds a.off d) e frozen|o=>o
theorem AVl(c:ai)(a:Q)(d:Nat)(b:Q6):(c.at a d).cell? b=ah a b:=rfl
theorem gf(a:ai)(b:Q)(c:Nat)(d:Q6)(e:J0):(a.at b c).setCell d e=a.at (cO b d e) c:=rfl
def At(p:Q2)(b:Q6->Prop):Prop:=match p with|some a=>b a|none=>False
def cX(a:Bool)(b c:Prop):Prop:=match a with|true=>b|false=>c
def bW(a:Q)(b:Obj)(c:Nat->Q->Prop):Prop:=c a.size (a.push b)
def pX(a:Q)(b:Q6)(c:J0->Prop):Prop:=∃v,ah a b=Z v/\c v
def KP(b:IntKind)(c:Q)(d:Q6)(e:Int->Prop):Prop:=∃a,ah c d=Z (.int b a)/\e a
def lr(a:Q)(c:Q6)(d:Bool->Prop):Prop:=∃b,ah a c=Z (.bool b)/\d b
def KJ(a:Q)(b:Q6)(c:E->Prop):Prop:=∃s,ah a b=Z (.string s)/\c s
def jZ(a:Q)(b:Q6)(c:Q2->Prop):Prop:=∃p,ah a b=Z (.pointer p)/\c p
structure Sl where
 p:Q2
 len:Nat
 cap:Nat
def Sl.v(a:Sl):J0:=.slice a.p a.len a.cap
def JP(a:Q)(b:Q6)(c:Sl->Prop):Prop:=∃s:Sl,ah a b=Z (.slice s.p s.len s.cap)/\c s
def th(a:Q)(b:Q6)(c:Option Nat->Prop):Prop:=∃r,ah a b=Z (.map r)/\c r
def aj(a:Q)(b:Q6)(c:J0)(d:Q->Prop):Prop:=(∃u,ah a b=Z u)/\gV a b=U/\d (cO a b c)
def iT(p:Q2)(b:Nat)(i:Int)(c:Q6->Prop):Prop:=∃a,p=Z a/\(0<=i/\i<b)/\c a
def dt(a b:Prop):Prop:=a/\b
def fP{a:Type}(c:a->Q->Prop)(d:(a->Q->Prop)->Prop):Prop:=∀K:a->Q->Prop,(∀x b,c x b->K x b)->d K
def Loop{a:Type}(c:(a->Q->Prop)->a->Q->Prop)(x:a)(b:Q):Prop:=∀K:a->Q->Prop,(∀x b,c K x b->K x b)->K x b
def El(a:ai)(c:Q1)(m:Sem J0)(d:Q)(e:A3U):Prop:=∀f,∃v b g,m.run c (a.at d f)=.ok v (a.at b g)/\e v b
def AJ(a:ai)(c:Q1)(d:Q8)(e:Array J0)(f:Q)(g:A3U):Prop:=∀h,Calls c d e (a.at f h) λi j=>∃v,i=.returned v/\∃b k,j=a.at b k/\g v b
def AJ.mono{b:A3U}(c:AJ d x cy bi a e)(g:∀v a,e v a->b v a):AJ d x cy bi a b:=λi=>Calls.mono (c i) λ_ _⟨v,j,k,l,m,n⟩=>⟨v,j,k,l,m,g _ _ n⟩
def JB(a:ai)(b:Q1)(e:J0)(f:Array J0)(g:Q)(h:A3U):Prop:=∀i,Next.out b (λv j=>∃c k,j=a.at c k/\h v c) ((do let d<-Deferred.ofValue e f;invoke d.target d.args:Sem Next).run b (a.at g i))
def yi(a:ai)(b:Q1)(d:J0)(e:String)(f:Array J0)(g:Q)(h:A3U):Prop:=∀i,Next.out b (λv j=>∃c k,j=a.at c k/\h v c) ((callMethod d e f:Sem Next).run b (a.at g i))
def JB.mono{b:A3U}(c:JB d x r bi a e)(f:∀v a,e v a->b v a):JB d x r bi a b:=λg=>NE (λ_ _⟨i,j,k,l⟩=>⟨i,j,k,f _ _ l⟩) (c g)
theorem Wt(c:b≠f):Nat.beq b f=false:=by grind[Nat.beq,absurd,Nat.eq_of_beq_eq_true]
structure Env where
 get:Nat->Option J0
 ds:List Nat
def mB(a:Nat):Deferred:={target:=.collected a,args:=#[]}
structure Fits (f4:Nat) (a:Act) (e:Env):Prop where
 size:a.tmps.size=f4
 get: ∀t v,e.get t=Z v->a.tmps[t]? =Z v
 ds:a.defers=e.ds.map mB
def Env.set(a:Env)(b:Nat)(c:J0):Env:={get:=λt=>bif Nat.beq t b then Z c else a.get t,ds:=a.ds}
def Env.put(b:Env)(a:Option Tmp)(c:J0):Env:=match a with|none=>b|some a=>b.set a c
def pY(b:Nat)(a:Option Tmp):Bool:=match a with|none=>Y|some a=>Nat.blt a b
variable{bw:Env}
theorem Fits.set(g:Fits b bd bw)(i:f<b):Fits b (bd.put (Z f) r) (bw.set f r):=by refine⟨by simp[Act.put,g.size],?_,g.ds⟩;intro t u c;unfold Env.set at c;simp only at c;by_cases h:t=f;{subst h;have:Nat.beq t t=true:=by{simp};rw[this]at c;simp[cond_true,Ds]at c;subst c;simp[Act.put,g.size,i]};have:=Wt h;rw[this]at c;simp[cond_false]at c;have:=g.get t u c;simp[Act.put];rw[HL (Ne.symm h)];exact this
theorem Fits.put(d:Fits b bd bw){c:Option Tmp}(f:pY b c=Y):Fits b (bd.put c r) (bw.put c r):=by cases c with|none=>exact d|some c=>exact d.set (by simpa[pY]using f)
theorem Fits.sR(g:Fits b bd bw)(i:bd.tmps[f]?=Z r):Fits b bd (bw.set f r):=by refine⟨g.size,?_,g.ds⟩;intro t u c;unfold Env.set at c;simp only at c;by_cases h:t=f;{simp_all};have:Nat.beq t f=false:=Wt h;rw[this]at c;exact g.get t u c
def rdv(a:Env)(x:Operand):Option J0:=match x with|.tmp t=>a.get t|.const v=>Z v|.global g=>Z (.pointer (Z ⟨g,0,V⟩))|.func f=>Z (.func (.func f) #[] #[])
theorem Fits.rdv(d:Fits b bd bw){x:Operand}(c:rdv bw x=Z r):bd.eval x=r:=by cases x with|tmp t=>have:=d.get t r c;simp[Act.eval];simp[this]|const u=>simpa[Lf.rdv,Act.eval]using c|global g=>simpa[Lf.rdv,Act.eval]using c|func f=>simpa[Lf.rdv,Act.eval]using c
def rd(a:Env)(x:Operand)(b:J0->Prop):Prop:=match rdv a x with|some v=>b v|none=>False
theorem CB(f:Fits b bd bw){x:Operand}(c:rd bw x ca):ca (bd.eval x):=by unfold rd at c;cases d:rdv bw x with|none=>rw[d]at c;exact c.elim|some v=>rw[d]at c;rw[f.rdv d];exact c
def ρof(a:Env)(x:Operand):J0:=match rdv a x with|some v=>v|none=>undef
def known(a:Env)(c:List Operand)(b:Prop):Prop:=match c with|[]=>b|x::r=>(match rdv a x with|some _=>known a r b|none=>False)
theorem LA(g:Fits b bd bw):∀{l:List Operand},known bw l c3->(∀x∈l,ρof bw x=bd.eval x)/\c3|[],c=>⟨λ_ c=>(by cases c),c⟩|x::r,c=>by unfold known at c;cases d:rdv bw x with|none=>simp_all|some v=>rw[d]at c;obtain⟨h,i⟩:=LA g c;refine⟨λj f=>?_,i⟩;rcases AS.1 f with rfl|f;{unfold ρof;rw[d,g.rdv d]};exact h j f
end Go.Lf
namespace Go
open Lf
def Sem.calc{b:Type}(c:Q1):Sem b->Option b|.pure a=>Z a|.program f=>(f c).calc c|_=>V
end Go
namespace Go.Lf
variable{an:Type}{x:Program}
theorem EG{c:Sem an}:∀{a:an},c.calc x=Z a->∀w,c.run x w=.ok a w:=by induction c with|pure a=>simp_all[Sem.calc,Ds]|program f d=>intro b e w;exact d x e w|_=>simp_all[Sem.calc]
def Tu{b:Type}(c:Q1)(d:Sem b)(e:b->Prop):Prop:=match d.calc c with|some a=>e a|none=>False
theorem P8{b:Sem an}{c:an->Prop}(d:Tu x b c):∃a,(∀w,b.run x w=.ok a w)/\c a:=by grind[Tu,EG]
def P9:J0->Bool|.agg _|.tuple _=>U|_=>Y
end Go.Lf
namespace Go
open Lf
def Sem.vc{g:Type}(d:Q1):Sem g->Q->(g->Q->Prop)->Prop|.pure a,c,K=>K a c|.program f,c,K=>(f d).vc d c K|.new h f,c,K=>bW c h λb e=>(f b).vc d e K|.load _ a f,c,K=>pX c a λv=>(f v).vc d c K|.store _ a v f,c,K=>(match P9 v with|true=>aj c a v λe=>f.vc d e K|false=>False)|.mark _ f,c,K=>f.vc d c K|_,_,_=>False
end Go
namespace Go.Lf
variable{an:Type}{d:ai}{x:Program}{a2:Addr}{r bp:Value}{a:Q}{b:Nat}
theorem yj{m:Mode}{c:Sem an}(e:P9 r=Y)(f:ah a a2=Z bp)(g:gV a a2=U):(Sem.store m a2 r c).run x (d.at a b)=c.run x (d.at (cO a a2 r) b):=by have i:(d.at a b).cell? a2=Z bp:=f;have j:(d.at a b).frozen? a2=false:=g;cases r<;>first|(simp[P9]at e;done)|(simp[Sem.run,i,j,gf])
theorem AS9{i:Q1}{j:Sem an}:∀{e:Q}{K:an->Q->Prop},j.vc i e K->∀g,∃v k l,j.run i (d.at e g)=.ok v (d.at k l)/\K v k:=by induction j with|pure a=>intro e K b g;exact⟨a,e,g,rfl,b⟩|program f h=>intro e K b g;exact h i b g|mark m f h=>intro e K b g;exact h b g|new n f h=>intro e K b g;exact h _ b g|load m a f h=>intro e K b g;obtain⟨v,p,b⟩:=b;simp_all[Sem.run,AVl]|store m a v f h=>{intro e K b g;unfold Sem.vc at b;cases o:P9 v with|false=>simp_all|true=>rw[o]at b;obtain⟨⟨u,q⟩,s,b⟩:=b;simp_all[yj]}|shape r f _=>intro e K b;exact b.elim|freeze a g f _=>intro e K b;exact b.elim|frozen a f _=>intro e K b;exact b.elim|getObj r f _=>intro e K b;exact b.elim|setObj r n f _=>intro e K b;exact b.elim|choose t f _=>intro e K b;exact b.elim|sys c f _=>intro e K b;exact b.elim|halt x=>intro e K b;exact b.elim
inductive Sc where
 |int (k:IntKind)|bool|str|ptr|sl|map|any
def Sc.Ty:Sc->Type|.int _=>Int|.bool=>Bool|.str=>E|.ptr=>Q2|.sl=>Sl|.map=>Option Nat|.any=>J0
def Sc.val:(s:Sc)->s.Ty->J0|.int a,(c:Int)=>.int a c|.bool,(b:Bool)=>.bool b|.str,(s:E)=>.string s|.ptr,(p:Q2)=>.pointer p|.sl,(s:Sl)=>.slice s.p s.len s.cap|.map,(r:Option Nat)=>.map r|.any,(v:J0)=>v
def Sc.load(a:Q)(b:Q6):(s:Sc)->(s.Ty->Prop)->Prop|.int c,K=>KP c a b K|.bool,K=>lr a b K|.str,K=>KJ a b K|.ptr,K=>jZ a b K|.sl,K=>JP a b K|.map,K=>th a b K|.any,K=>pX a b K
theorem Vh:∀{s:Sc}{K:s.Ty->Prop},s.load a a2 K->∃x,ah a a2=Z (s.val x)/\K x|.int _,_,b=>b|.bool,_,b=>b|.str,_,b=>b|.ptr,_,b=>b|.sl,_,b=>b|.map,_,b=>b|.any,_,b=>b
def tj(a:Q)(b:Q6):Nat->List Sc->(List J0->Prop)->Prop|_,[],K=>K []|i,s::l,K=>s.load a (b.add i) λx=>tj a b (i+1) l λc=>K (s.val x::c)
def tm:List Sc->(List J0->Prop)->Prop|[],K=>K []|s::l,K=>∃x:s.Ty,tm l λa=>K (s.val x::a)
theorem yo:∀{l:List Sc}{K:List J0->Prop},tm l K->∃b,K b|[],_,a=>⟨[],a⟩|_::_,_,⟨_,a⟩=>let⟨b,c⟩:=yo a;⟨_,c⟩
def lx(a:Q1):Nat->Q7->List Sc|0,_=>[]|d+1,t=>match a.underlying t with|some .bool=>[.bool]|some (.int b)=>[.int b]|some .string=>[.str]|some (.pointer _)=>[.ptr]|some (.slice _)=>[.sl]|some (.map _ _)=>[.map]|some (.struct c)=>c.toList.flatMap λf=>lx a d f.type|some (.array e g)=>(List.replicate e (lx a d g)).flatten|_=>[.any]
def Zk(a:Q1)(b:Q7):Bool:=match a.underlying b with|some (.struct _)=>Y|some (.array _ _)=>Y|_=>U
mutual
def pZ(a:Q1):Nat->Q7->(J0->Prop)->Prop
 |0,_,K=> ∃v,K v
 |d+1,t,K=>
  match a.underlying t with
  |some (.tuple ts)=>qa a d ts.toList λb=>K (.tuple b.toArray)
  |_=>match Zk a t with
   |true=>tm (lx a 20 t) λb=>K (.agg b.toArray)
   |false=>match lx a 20 t with
    | [s]=> ∃x:s.Ty,K (s.val x)
    |_=>False
def qa(a:Q1):Nat->List Q7->(List J0->Prop)->Prop
 |_,[],K=>K []
 |0,_::_,_=>False
 |d+1,t::ts,K=>pZ a d t λu=>qa a d ts λb=>K (u::b)
end
theorem ATl(c:Q1):∀b,(∀(t:Q7)(K:J0->Prop),pZ c b t K->∃v,K v)/\(∀(ts:List Q7)(K:List J0->Prop),qa c b ts K->∃d,K d):=by intro b;induction b with|zero=>{refine⟨λt K a=>a,λts K a=>?_⟩;cases ts with|nil=>exact⟨[],a⟩|cons t ts=>exact a.elim}|succ b f=>refine⟨λt K a=>?_,λts K a=>?_⟩;{unfold pZ at a;split at a;{grind};split at a;{exact let⟨g,e⟩:=yo a;⟨_,e⟩};grind};cases ts with|nil=>exact⟨[],a⟩|cons t ts=>grind[qa]
def Vt(a:Q1)(b:Q7)(c:J0)(d:J0->Prop):Prop:=pZ a 8 b λu=>c=u/\d u
variable{x:Program}{bc u bo e3:TypeId}{r bp ek:Value}{ca:Value->Prop}{ey:Addr->Prop}{en:Sem Value}{a9 ej:World}{co c4:Operand}{b f n w aw:Nat}{bd d5:Act}{bw:Env}{b8:Oper}{ef:BinOp}{al ex:Bool}{o:Nat->Prop}{cg:IntKind}{i ap bm:Int}{c3 eo:Prop}{ep e4:Option Value}{bi:Array Value}{a k M:Q}{a2:Addr}{b2:List Value}{d:ai}{b6:Array Oper}{cl:Oper->Bool}{cc:Nat->Nat->Bool}{bz dj:List Nat}{b1:Option Nat}{c0:Exit->Act->World->Prop}{er:Operand->Value}{e:A3U}{be:Q->Prop}{ee:Env->Q->Prop}{ez:Act->Q->Prop}{ev:Fence}{cx d4:Code}{c5:Obj}{fb:Func}{fd:Ending->World->Prop}{cy:FuncId}{bs:Nat×Nat}{c1:Nat->Q->Prop}{an el:Type}{j:Sl}{d9:Sl->Q->Prop}{h a1 d6:E}{eh:Array MapEntry}{cu:List E}{a4 cf:List UInt8}{df:UInt8}
theorem Pi(a:Vt x bc r ca):ca r:=by obtain⟨u,rfl,a⟩:=(ATl x 8).1 _ _ a;exact a
def bM(a b:E):Bool:=a.toList==b.toList
def aQ(a b:E):Bool:=Op.bytesLess a.toList b.toList
def dI(a:E)(i:Int):Int:=((a[i.toNat]?).getD 0).toNat
def YX(b:Q1)(c:Q7)(a:Operand):Bool:=match b.underlying c with|some (.pointer _)=>(match a with|.const (.pointer V)=>Y|_=>U)|some (.slice _)=>(match a with|.const (.slice V 0 0)=>Y|_=>U)|some (.map _ _)=>(match a with|.const (.map V)=>Y|_=>U)|some (.func _ _ _)=>(match a with|.const .nilFunc=>Y|_=>U)|some (.interface _)=>(match a with|.const .nilIface=>Y|_=>U)|_=>U
def ly:J0->Prop|.func ..=>True|.nilFunc=>True|_=>False
def lA:J0->Bool|.nilFunc=>Y|_=>U
def od:J0->Prop|.iface ..=>True|.nilIface=>True|_=>False
def mC:J0->Bool|.nilIface=>Y|_=>U
def og(c:Q1)(d:Q7)(a:J0)(b:Bool->Prop):Prop:=match c.underlying d with|some (.pointer _)=>(match a with|.pointer p=>b p.isNone|_=>False)|some (.slice _)=>(match a with|.slice p _ _=>b p.isNone|_=>False)|some (.map _ _)=>(match a with|.map r=>b r.isNone|_=>False)|some (.func _ _ _)=>dt (ly a) (b (lA a))|some (.interface _)=>dt (od a) (b (mC a))|_=>False
def ZM(b:BinOp)(a:Bool):J0:=match b with|.eql=>.bool a|_=>.bool !a
def tq(e:BinOp)(f g:J0)(d:J0->Prop):Prop:=match f,g with|.int c a,.int h b=>(match decide (c=h)with|true=>(match e with|.quo=>dt (b≠0) (d (.int c (c.wrap (a.tdiv b))))|.rem=>dt (b≠0) (d (.int c (a.tmod b)))|_=>False)|false=>False)|_,_=>False
def tr(e:BinOp)(f g:J0)(d:J0->Prop):Prop:=match f,g with|.int c a,.int _ b=>(match e with|.shl=>dt (0<=b) (d (.int c (c.wrap (a*2^(min b.toNat c.bits)))))|.shr=>dt (0<=b) (d (.int c (a.fdiv (2^(min b.toNat c.bits)))))|_=>False)|_,_=>False
def tt(c d:J0)(e:J0->Prop):Prop:=match c,d with|.string a,.string b=>dt (((a.size+b.size:Nat):Int)<=D.max) (e (.string (a++b)))|_,_=>False
inductive AYD where
 |eZ|div|shift|cat|kP|kQ|no
def isConst:Operand->Bool|.const _=>Y|_=>U
def Xn(a:Q1)(d:BinOp)(b:Q7)(x c:Operand):AYD:=match d with|.quo|.rem=>(match a.underlying b with|some (.int _)=>(match isConst c with|true=>.eZ|false=>.div)|_=>.no)|.shl|.shr=>(match isConst c with|true=>.eZ|false=>.shift)|.add=>(match a.underlying b with|some .string=>.cat|some (.int _)=>.eZ|_=>.no)|.eql|.neq=>(match a.underlying b with|some (.int _)=>.eZ|some .string=>.eZ|some .bool=>.eZ|some (.pointer _)|some (.slice _)|some (.map _ _)|some (.func _ _ _)|some (.interface _)=>(match YX a b c with|true=>.kP|false=>match YX a b x with|true=>.kQ|false=>.no)|_=>.no)|_=>match a.underlying b with|some (.int _)=>.eZ|some .string=>.eZ|_=>.no
def tu(g:Q1)(a:BinOp)(f:Q7)(x h:Operand)(c d:J0)(e:J0->Prop):Prop:=match Xn g a f x h with|.eZ=>Tu g (do eqGuard a f x h c d;binOp a f c d) e|.div=>tq a c d e|.shift=>tr a c d e|.cat=>tt c d e|.kP=>og g f c λb=>e (ZM a b)|.kQ=>og g f d λb=>e (ZM a b)|.no=>False
def tv(c:Q1)(h:Q7)(f i:J0)(g:J0->Prop):Prop:=match c.underlying h with|some (.slice d)=>(match f,i,c.info? d with|.slice p len _,.int _ b,Z e=>iT p len b λa=>g (.pointer (Z (a.add (b.toNat*e.size))))|_,_,_=>False)|some (.array len d)=>(match f,i,c.info? d with|.pointer p,.int _ b,Z e=>At p λa=>dt (0<=b/\b<(len:Int)) (g (.pointer (Z (a.add (b.toNat*e.size)))))|_,_,_=>False)|_=>False
def tw(b:Q1)(c:Q7)(d i:J0)(e:J0->Prop):Prop:=match b.underlying c with|some .string=>(match d,i with|.string s,.int _ a=>dt (0<=a/\a<(s.size:Int)) (e (.int .u8 (dI s a)))|_,_=>False)|some (.array _ _)=>Tu b (Instr.index c d i) e|_=>False
def iz(x:Option J0)(c max:Nat)(b:Nat->Prop):Prop:=match x with|some (.int _ a)=>dt (0<=a/\a<=(max:Int)) (b a.toNat)|none=>b c|_=>False
def BB(p:Q2)(b a c:Nat):Q2:=if b=a then p else p.map (·.add (a*c))
def tx(d:Q1)(j:Q7)(e:J0)(lo hi:Option J0)(f:J0->Prop):Prop:=match d.underlying j with|some .string=>(match e with|.string s=>iz hi s.size s.size λb=>iz lo 0 b λl=>f (.string (s.extract l b))|_=>False)|some (.slice g)=>(match e,d.info? g with|.slice p len h,Z i=>iz hi len h λb=>iz lo 0 b λl=>f (.slice (BB p h l i.size) (b-l) (h-l))|_,_=>False)|some (.array c g)=>(match e,d.info? g with|.pointer p,Z i=>At p λa=>iz hi c c λb=>iz lo 0 b λl=>f (.slice (Z (if c=l then a else a.add (l*i.size))) (b-l) (c-l))|_,_=>False)|_=>False
def tz(c:Q1)(d:Q7)(e:J0)(lo hi:Option J0)(f:J0)(g:J0->Prop):Prop:=match c.underlying d with|some (.slice h)=>(match e,c.info? h,hi,f with|.slice p _ i,Z j,Z (.int _ b),.int _ a=>dt (0<=a/\a<=(i:Int)) (dt (0<=b/\b<=(a.toNat:Int)) (iz lo 0 b.toNat λl=>g (.slice (BB p a.toNat l j.size) (b.toNat-l) (a.toNat-l))))|_,_,_,_=>False)|_=>False
def tA(c:Bool)(d e:Option J0)(a:J0->Prop):Prop:=match d,e with|some (.bool x),Z (.bool b)=>a (.bool (cond c x b))|some x,Z b=>cX c (a x) (a b)|some x,V=>cX c (a x) False|none,Z b=>cX c False (a b)|none,V=>False
def yp(b:J0)(c:J0->Prop):Prop:=match b with|.pointer p=>At p λa=>c (.pointer (Z a))|_=>False
def oh(b:Env)(x:Option Operand)(a:Option J0->Prop):Prop:=match x with|none=>a V|some x=>rd b x λv=>a (Z v)
def qc(a:Bool)(b:Prop):Prop:=match a with|true=>b|false=>False
def om(c:Q1)(d:Q7)(a:J0)(b:Array J0->Prop):Prop:=match Zk c d with|true=>b a.cells|false=>qc (P9 a) (b #[a])
theorem AOB(a:P9 r=Y):r.cells=#[r]:=by cases r<;>first|rfl|(simp[P9]at a)
theorem Ud{c:Array J0->Prop}(a:om x u r c):c r.cells:=by unfold om at a;split at a;{exact a};cases b:P9 r with|false=>rw[b]at a;exact a.elim|true=>rw[b]at a;rw[AOB b];exact a
def mD(d:Nat->Option (Nat×Nat))(a:Array J0):List (Nat×Array J0)->Option (Array J0)|[]=>Z a|(i,b)::rest=>match d i with|none=>V|some (off,e)=>if b.size≠e||off+b.size>a.size then V else mD d (b.zipIdx.foldl (λf(c,g)=>f.setIfInBounds (off+g) c) a) rest
theorem qd(a:Nat->Option (Nat×Nat)):∀(l:List (Nat×J0))(cells:Array J0),Instr.fill a cells l=mD a cells (l.map λp=>(p.1,p.2.cells))|[],cells=>rfl|(i,v)::rest,cells=>by simp[Instr.fill,DH,mD];cases a i with|none=>rfl|some p=>simp[];split<;>first|rfl|exact qd a rest _
def AX2(b:Q1)(c:Q7)(i:Nat):Option Q7:=match b.underlying c with|some (.struct d)=>(d[i]?).map (·.type)|some (.array _ a)=>Z a|some (.slice a)=>Z a|_=>V
def ox(a:Q1)(b:Q7)(c:Env):List (Nat×Operand)->(List (Nat×Array J0)->Prop)->Prop|[],K=>K []|(i,x)::r,K=>match AX2 a b i with|some ft=>rd c x λv=>om a ft v λd=>ox a b c r λl=>K ((i,d)::l)|none=>False
def placesOf(a:Q1):List Field->Option (List (Nat×Nat))|[]=>Z []|f::r=>match a.info? f.type with|some i=>(match placesOf a r with|some l=>Z ((f.offset,i.size)::l)|none=>V)|none=>V
def tB(a:Q1)(b:Q7)(c:List (Nat×Array J0)):Option (Array J0):=match a.info? b with|some i=>(match i.zero with|some d=>(match a.underlying b with|some (.struct f)=>(match placesOf a f.toList with|some l=>mD (l.toArray[·]?) d.cells c|none=>V)|some (.array _ g)=>(match a.info? g with|some e=>mD (λh=>Z (h*e.size,e.size)) d.cells c|none=>V)|_=>V)|none=>V)|none=>V
def AXX(a:Q1)(b:Q7)(c:Array (Nat×Operand))(d:Env)(e:J0->Prop):Prop:=ox a b d c.toList λl=>match tB a b l with|some cells=>e (.agg cells)|none=>False
def qe(f:Q1)(g:Oper)(d:Env)(e:J0->Prop):Prop:=match g.op with|.nilCheck x=>rd d x λv=>yp v e|.binOp op t x j _=>rd d x λv=>rd d j λu=>tu f op t x j v u e|.indexAddr t x i=>rd d x λv=>rd d i λu=>tv f t v u e|.index t x i=>rd d x λv=>rd d i λu=>tw f t v u e|.slice t x lo hi k=>(match k with|none=>rd d x λv=>oh d lo λl=>oh d hi λh=>tx f t v l h e|some m=>rd d x λv=>oh d lo λl=>oh d hi λh=>rd d m λn=>tz f t v l h n e)|.pick c a b=>(rd d c λv=>match v with|.bool c=>tA c (rdv d a) (rdv d b) e|_=>False)|.build t o=>AXX f t o d e|.fieldAddr t x i=>(rd d x λv=>match v with|.pointer p=>At p λa=>Tu f (Instr.fieldAt t (.pointer (Z a)) i) e|_=>False)|_=>known d g.op.operands.toList (Tu f (execOp (ρof d) g) λx=>match x with|.value v=>e v|_=>False)
theorem VQ{p:Q2}(b:At p ey):∃a,p=Z a/\ey a:=by cases p with|none=>exact b.elim|some a=>exact⟨a,rfl,b⟩
theorem lC(a:en.run x a9=.ok r ej):(do pure (.value (<-en)):Sem Next).run x a9=.ok (.value r) ej:=by rw[Sem.run_bind,a];rfl
theorem AY2{a:Sem Unit}(b:a.run x a9=.ok () ej):(do a;pure .skip:Sem Next).run x a9=.ok .skip ej:=by rw[Sem.run_bind,b];rfl
theorem CG{a:TypeDesc}(b:x.underlying u=Z a):(underlying u).run x a9=.ok a a9:=run_underlying b a9
theorem yq{i:TypeInfo}(a:x.info? u=Z i):(typeInfo u).run x a9=.ok i a9:=by simp[typeInfo,a]
theorem run_sizeOf{i:TypeInfo}(a:x.info? u=Z i):(sizeOf u).run x a9=.ok i.size a9:=by simp[sizeOf,yq a]
def XH(a:Q1)(b:Q7):Option J0:=match a.underlying b with|some (.pointer _)=>Z (.pointer V)|some (.slice _)=>Z (.slice V 0 0)|some (.map _ _)=>Z (.map V)|some (.func _ _ _)=>Z .nilFunc|some (.interface _)=>Z .nilIface|_=>V
theorem yt(a:YX x bc co=Y):∃u,co=.const u/\XH x bc=Z u:=by unfold YX at a;unfold XH;grind
theorem AJN(g:Nat){h:Bool->Prop}(c:og x u r h)(d:XH x u=Z bp):∃b,(∀w,(Op.equalIn (g+1) u r bp).run x w=.ok b w)/\(∀w,(Op.equalIn (g+1) u bp r).run x w=.ok b w)/\h b:=by unfold og at c;unfold XH at d;cases e:x.underlying u with|none=>simp_all|some j=>rw[e]at c d;(cases j<;>simp only[]at c d<;>try exact c.elim);(case pointer i=>simp[Ds]at d;subst d;(cases r<;>simp only[]at c<;>try exact c.elim);case pointer p=>refine⟨_,λw=>by cases p<;>simp[Op.equalIn,CG e],λw=>by cases p<;>simp[Op.equalIn,CG e],c⟩);(case slice i=>simp[Ds]at d;subst d;(cases r<;>simp only[]at c<;>try exact c.elim);case slice p a b=>refine⟨_,λw=>by cases p<;>simp[Op.equalIn,CG e],λw=>by cases p<;>simp[Op.equalIn,CG e],c⟩);(case map k i=>simp[Ds]at d;subst d;(cases r<;>simp only[]at c<;>try exact c.elim);case map p=>refine⟨_,λw=>by cases p<;>simp[Op.equalIn,CG e],λw=>by cases p<;>simp[Op.equalIn,CG e],c⟩);(case func ps l m=>simp[Ds]at d;subst d;obtain⟨f,c⟩:=c;cases r<;>simp only[ly]at f;{refine⟨_,λw=>?_,λw=>?_,c⟩<;>simp[Op.equalIn,CG e,lA]};simp_all[Op.equalIn,CG,lA]);case interface n=>simp[Ds]at d;subst d;obtain⟨f,c⟩:=c;cases r<;>simp only[od]at f;{refine⟨_,λw=>?_,λw=>?_,c⟩<;>simp[Op.equalIn,CG e,mC]};simp_all[Op.equalIn,CG,mC]
def PR(a:Q1)(b:Sem J0)(c:J0->Prop):Prop:=∃v,(∀w,b.run a w=.ok v w)/\c v
theorem AHu{d:Q1}(f:Fits b bd bw)(g:PU b8)(h:known bw b8.op.operands.toList (Tu d (execOp (ρof bw) b8) λx=>match x with|.value v=>ca v|_=>False)):∃v,(∀w,(execOp bd.eval b8).run d w=.ok (.value v) w)/\ca v:=by obtain⟨i,j⟩:=LA f h;obtain⟨x,c,k⟩:=P8 j;rw[execOp_congr b8 g (λx c=>i x (by simpa using c))]at c;grind
theorem AQs{f:Q1}{x:Operand}(g:ef=.quo\/ef=.rem)(c:tq ef r bp ca):PR f (do eqGuard ef u x co r bp;binOp ef u r bp) ca:=by
 unfold tq at c;cases r<;>cases bp<;>simp only[]at c<;>try exact c.elim
 rename_i h a i b;by_cases e:h=i;{subst e;rcases g with rfl|rfl;{simp[decide_true]at c;obtain⟨d,c⟩:=c;exact⟨_,λw=>by simp[eqGuard,binOp,Op.intDiv,d],c⟩};simp[decide_true]at c;obtain⟨d,c⟩:=c;exact⟨_,λw=>by simp[eqGuard,binOp,Op.intDiv,d],c⟩};rw[An e]at c;exact c.elim
theorem AUt{c:Q1}{x:Operand}(d:ef=.shl\/ef=.shr)(a:tr ef r bp ca):PR c (do eqGuard ef u x co r bp;binOp ef u r bp) ca:=by
 unfold tr at a;cases r<;>cases bp<;>simp only[]at a<;>try exact a.elim
 rcases d with rfl|rfl;{simp[]at a;have⟨b,a⟩:=a;exact⟨_,λw=>by simp[eqGuard,binOp,Op.shift,Int.not_lt.2 b],a⟩};simp[]at a;obtain⟨b,a⟩:=a;exact⟨_,λw=>by simp[eqGuard,binOp,Op.shift,Int.not_lt.2 b],a⟩
theorem ARS{b:Q1}{x:Operand}(a:tt r bp ca):PR b (do eqGuard .add u x co r bp;binOp .add u r bp) ca:=by
 unfold tt at a;cases r<;>cases bp<;>simp only[]at a<;>try exact a.elim
 have⟨c,a⟩:=a;refine⟨_,λw=>?_,a⟩;simp_all[Int.not_lt,eqGuard,binOp,Op.stringOp,A0]
def zw{a:Bool->Prop}(c:og x u r a)(d:XH x u=Z bp):∃b,(∀w,(Op.equal u r bp).run x w=.ok b w)/\(∀w,(Op.equal u bp r).run x w=.ok b w)/\a b:=AJN 9999 c d
theorem binOp_eql(d:ef=.eql\/ef=.neq)(e:XH x u=Z bp)(a:(Op.equal u r bp).run x a9=.ok al a9):(binOp ef u r bp).run x a9=.ok (ZM ef al) a9/\True:=by
 have c:bp=.pointer V\/bp=.slice V 0 0\/bp=.map V\/bp=.nilFunc\/bp=.nilIface:=by grind[XH]
 refine⟨?_,trivial⟩;rcases d with rfl|rfl;{rcases c with rfl|rfl|rfl|rfl|rfl<;>cases r<;>simp[binOp,a,ZM]};rcases c with rfl|rfl|rfl|rfl|rfl<;>cases r<;>simp[binOp,a,ZM]
theorem ANJ(d:ef=.eql\/ef=.neq)(e:XH x u=Z bp)(a:(Op.equal u bp r).run x a9=.ok al a9):(binOp ef u bp r).run x a9=.ok (ZM ef al) a9/\True:=by
 have c:bp=.pointer V\/bp=.slice V 0 0\/bp=.map V\/bp=.nilFunc\/bp=.nilIface:=by grind[XH]
 refine⟨?_,trivial⟩;rcases d with rfl|rfl;{rcases c with rfl|rfl|rfl|rfl|rfl<;>cases r<;>simp[binOp,a,ZM]};rcases c with rfl|rfl|rfl|rfl|rfl<;>cases r<;>simp[binOp,a,ZM]
theorem zx{a:Q1}{x:Operand}(b:ef=.eql\/ef=.neq)(f:XH a u=Z bp)(d:(∃c,x=.const c)\/(∃c,co=.const c)):(eqGuard ef u x co r bp).run a a9=.ok () a9/\(eqGuard ef u x co bp r).run a a9=.ok () a9:=by
 have e:bp=.pointer V\/bp=.slice V 0 0\/bp=.map V\/bp=.nilFunc\/bp=.nilIface:=by grind[XH]
 rcases b with rfl|rfl<;>rcases d with⟨c,rfl⟩|⟨c,rfl⟩<;>rcases e with rfl|rfl|rfl|rfl|rfl<;>cases r<;>exact⟨by simp[eqGuard],by simp[eqGuard]⟩
theorem ARa{e:Q1}{x:Operand}(j:∀c,x=.const c->r=c)(k:∀c,co=.const c->bp=c)(a:tu e ef u x co r bp ca):PR e (do eqGuard ef u x co r bp;binOp ef u r bp) ca:=by unfold tu at a;cases d:Xn e ef u x co with|eZ=>rw[d]at a;exact P8 a|no=>rw[d]at a;exact a.elim|div=>rw[d]at a;refine AQs ?_ a;unfold Xn at d;grind|shift=>rw[d]at a;refine AUt ?_ a;unfold Xn at d;grind|cat=>rw[d]at a;have:ef=.add:=by{unfold Xn at d;grind};subst this;exact ARS a|kP=>rw[d]at a;have f:(ef=.eql\/ef=.neq)/\YX e u co=true:=by{unfold Xn at d;grind};obtain⟨f,g⟩:=f;obtain⟨c,l,h⟩:=yt g;obtain⟨b,m,_,i⟩:=zw a h;refine⟨ZM ef b,λw=>?_,i⟩;simp_all[Sem.run_bind,zx,binOp_eql]|kQ=>rw[d]at a;have f:(ef=.eql\/ef=.neq)/\YX e u x=true:=by{unfold Xn at d;grind};obtain⟨f,g⟩:=f;obtain⟨c,n,h⟩:=yt g;obtain⟨b,_,o,i⟩:=zw a h;refine⟨ZM ef b,λw=>?_,i⟩;simp_all[Sem.run_bind,zx,ANJ]
theorem AHI{i:J0}(b:tv x u r i ca):PR x (Instr.indexAt u r i) ca:=by unfold tv at b;split at b;{rename_i h d;split at b;{rename_i p len c j k l e;obtain⟨a,rfl,⟨f,g⟩,b⟩:=b;refine⟨_,λw=>?_,b⟩;simp[Instr.indexAt,asIntOf,CG d,run_sizeOf e,f,g]};exact b.elim};{rename_i len h d;split at b;{rename_i p j k l e;obtain⟨a,rfl,b⟩:=VQ b;have⟨⟨f,g⟩,b⟩:=b;refine⟨_,λw=>?_,b⟩;simp[Instr.indexAt,asIntOf,CG d,run_sizeOf e,f,g,Instr.sureAddr]};exact b.elim};exact b.elim
theorem ALx{i:J0}(a:tw x u r i ca):PR x (Instr.index u r i) ca:=by unfold tw at a;split at a;{rename_i b;split at a;{rename_i s c d;obtain⟨⟨e,f⟩,a⟩:=a;refine⟨_,λw=>?_,a⟩;simp_all[Instr.index,asIntOf,CG,dI]};exact a.elim};{exact P8 a};exact a.elim
theorem YB{x:Option J0}{max:Nat}(a:iz x b max o):(x=V/\o b)\/∃e c,x=Z (.int e c)/\0<=c/\c<=(max:Int)/\o c.toNat:=by unfold iz at a;split at a;{rename_i e c;obtain⟨⟨f,g⟩,a⟩:=a;grind};{exact .inl ⟨rfl,a⟩};exact a.elim
theorem run_sliceBound{c:BoundsCode}(d:0<=i)(e:i<=(b:Int))(a:World):(Instr.sliceBound (.int cg i) b c).run x a=.ok i.toNat a:=by simp[Instr.sliceBound,asIntOf,d,e]
theorem QV{P:Q1}{b:Bool}{lo hi:Option J0}{h:Nat->Nat->Prop}(k:iz hi f n λd=>iz lo 0 d λl=>h l d):∃l d,(∀w,(Instr.sliceBounds b f n lo hi V).run P w=.ok (l,d,n) w)/\h l d:=by obtain⟨e,g⟩|⟨r,s,e,m,o,g⟩:=YB k;{obtain⟨c,a⟩|⟨p,q,c,i,j,a⟩:=YB g;{exact⟨_,_,λw=>by simp[Instr.sliceBounds,e,c],a⟩};exact⟨_,_,λw=>by simp[Instr.sliceBounds,e,c,run_sliceBound i j],a⟩};obtain⟨c,a⟩|⟨p,q,c,i,j,a⟩:=YB g;{exact⟨_,_,λw=>by simp[Instr.sliceBounds,e,c,run_sliceBound m o],a⟩};exact⟨_,_,λw=>by simp_all[Instr.sliceBounds,run_sliceBound],a⟩
theorem ALg{P:Q1}{lo hi:Option J0}(c:tx P u r lo hi ca):PR P (Instr.sliceAt u r lo hi V) ca:=by unfold tx at c;split at c;{rename_i d;split at c;{rename_i s;obtain⟨l,g,e,c⟩:=QV (P:=P) (b:=U) c;refine⟨_,λw=>?_,c⟩;simp[Instr.sliceAt,Instr.slice,CG d,e]};exact c.elim};{rename_i h d;split at c;{rename_i p len k i f;obtain⟨l,g,e,c⟩:=QV (P:=P) (b:=Y) c;refine⟨_,λw=>?_,c⟩;simp[Instr.sliceAt,Instr.slice,CG d,e,run_sizeOf f,BB]};exact c.elim};{rename_i m h d;split at c;{rename_i p i f;obtain⟨a,rfl,j⟩:=VQ c;have⟨l,g,e,c⟩:=QV (P:=P) (b:=U) j;refine⟨_,λw=>?_,c⟩;simp[Instr.sliceAt,CG d,e,run_sizeOf f,Instr.sureAddr]};exact c.elim};exact c.elim
theorem AKB{lo hi:Option J0}(a:tz x u r lo hi bp ca):PR x (Instr.sliceAt u r lo hi (Z bp)) ca:=by unfold tz at a;split at a;{rename_i l d;split at a;{rename_i p len m n o q b s e;obtain⟨⟨f,g⟩,⟨h,i⟩,a⟩:=a;obtain⟨c,b⟩|⟨y,z,c,j,k,b⟩:=YB a;{refine⟨_,λw=>?_,b⟩;simp[Instr.sliceAt,Instr.slice,Instr.sliceBounds,CG d,run_sizeOf e,BB,c,run_sliceBound f g,run_sliceBound h i]};refine⟨_,λw=>?_,b⟩;simp[Instr.sliceAt,Instr.slice,Instr.sliceBounds,CG d,run_sizeOf e,BB,c,run_sliceBound f g,run_sliceBound h i,run_sliceBound j k]};exact a.elim};exact a.elim
theorem uB(a:cX al c3 eo):(al=Y->c3)/\(al=U->eo):=by cases al;{exact⟨λa=>(by cases a),λ_=>a⟩};exact⟨λ_=>a,λa=>by cases a⟩
theorem ANL(e:∀v,ep=Z v->r=v)(f:∀v,e4=Z v->bp=v)(d:tA al ep e4 ca):ca (if al then r else bp):=by unfold tA at d;split at d;{rename_i x g;rw[e _ rfl,f _ rfl];cases al<;>exact d};{rename_i x g _;rw[e _ rfl,f _ rfl];cases al<;>exact d};{rename_i x;rw[e _ rfl];cases al;{exact d.elim};exact d};{rename_i g;rw[f _ rfl];cases al;{exact d};exact d.elim};exact d.elim
theorem Un(f:Fits b bd bw){x:Option Operand}{c:Option J0->Prop}(d:oh bw x c):c (x.map bd.eval):=by cases x with|none=>exact d|some x=>exact CB f d
theorem VS{P:Q1}(d:Fits b bd bw):∀{l:List (Nat×Operand)}{K:List (Nat×Array J0)->Prop},ox P u bw l K->K (l.map λp=>(p.1,(bd.eval p.2).cells))|[],K,c=>c|(i,x)::r,K,c=>by unfold ox at c;split at c;{have f:=VS (P:=P) d (Ud (CB d c));exact f};exact c.elim
theorem ADb{P:Q1}:∀(a:List Field),placesOf P a=a.mapM (λf=>(P.info? f.type).map λi=>(f.offset,i.size))|[]=>rfl|f::r=>by simp[placesOf,V0,Option.bind_eq_bind,Option.pure_def,ADb (P:=P) r];grind
theorem AOW{d:Q1}{b:Array (Nat×J0)}(a:tB d u (b.toList.map λp=>(p.1,p.2.cells))=Z bi)(c:World):(Instr.build u b).run d c=.ok (.agg bi) c:=by unfold tB at a;split at a;{rename_i k g;split at a;{rename_i h i;split at a;{rename_i m e;split at a;{rename_i l f;rw[<-qd]at a;rw[ADb]at f;have j:Instr.fill (λx=>l[x]?) h.cells b.toList=Z bi:=by{simpa using a};simp[Instr.build,run_underlying e,typeInfo,zeroValue,g,i,A0z,run_places c _ _ f,j]};cases a};{rename_i n o e;split at a;{simp_all[qd,Instr.build,run_underlying,sizeOf,typeInfo,zeroValue]};cases a};cases a};cases a};cases a
theorem AEc{k:Q1}(g:Fits f bd bw)(r:PU b8)(d:qe k b8 bw ca):∃v,(∀w,(execOp bd.eval b8).run k w=.ok (.value v) w)/\ca v:=by
 have lift:∀{s:Sem J0},PR k s ca->(execOp bd.eval b8=do pure (.value (<-s)))->∃v,(∀w,(execOp bd.eval b8).run k w=.ok (.value v) w)/\ca v:=by intro s⟨v,l,z⟩A;simp_all
 unfold qe at d;cases h:b8.op;case nilCheck x=>rw[h]at d;have d:=CB g d;unfold yp at d;cases n:bd.eval x<;>rw[n]at d<;>simp only[]at d;rename_i p;obtain⟨b,rfl,d⟩:=VQ d;exact⟨_,λw=>by simp[execOp,h,n],d⟩
 case binOp op t x u t'=>rw[h]at d;refine lift (ARa (λc j=>by subst j;rfl) (λc j=>by subst j;rfl) (CB g (CB g d))) ?_;simp[execOp,h]
 case indexAddr t x i=>rw[h]at d;refine lift (AHI (CB g (CB g d))) ?_;simp[execOp,h]
 case index t x i=>rw[h]at d;refine lift (ALx (CB g (CB g d))) ?_;simp[execOp,h]
 case slice t x lo hi y=>rw[h]at d;cases y with|some m=>refine lift (AKB (CB g (Un g (Un g (CB g d))))) ?_;simp[execOp,h]|none=>refine lift (ALg (Un g (Un g (CB g d)))) ?_;simp[execOp,h]
 case build t B=>rw[h]at d;have d:=VS g d;split at d;{rename_i cells j;refine⟨_,λw=>?_,d⟩;simp only[execOp,h];refine lC (AOW ?_ w);rw[<-j];congr 1;simp};exact d.elim
 case pick c x u=>rw[h]at d;have d:=CB g d;cases j:bd.eval c<;>rw[j]at d<;>simp only[]at d;rename_i b;exact⟨_,λw=>by simp[execOp,h,j,asBool],ANL (λv l=>g.rdv l) (λv l=>g.rdv l) d⟩
 case fieldAddr t x i=>rw[h]at d;have d:=CB g d;cases n:bd.eval x<;>rw[n]at d<;>simp only[]at d;obtain⟨b,rfl,q⟩:=VQ d;unfold Tu at q;split at q;{rename_i v j;exact⟨v,λw=>by simp_all[execOp,lC,EG],q⟩};exact q.elim
 all_goals(rw[h]at d;simp[]at d;rw[<-h]at d;exact AHu g r d)
def Rh(a:Q)(b:Q6):Nat->List J0->Prop|_,[]=>True|i,[v]=>ah a (b.add i)=Z v|i,v::c=>ah a (b.add i)=Z v/\Rh a b (i+1) c
def loadT(a:Q1)(b:Q7)(e:Q)(c:Q6)(f:J0->(Q->Prop)->Prop):Prop:=match Zk a b with|true=>(match a.info? b with|some i=>(match Nat.beq (J (lx a 20 b)) i.size with|true=>tj e c 0 (lx a 20 b) λg=>f (.agg g.toArray) (λd=>Rh d c 0 g)|false=>False)|none=>False)|false=>match a.underlying b with|some _=>(match lx a 20 b with|[s]=>s.load e c λx=>f (s.val x) (λd=>ah d c=Z (s.val x))|_=>False)|none=>False
def qF(b:Q1)(c:Oper)(d:Env)(e:Q)(f:J0->(Q->Prop)->Prop):Prop:=match c.op with|.load t x=>(rd d x λv=>match v with|.pointer p=>At p λa=>loadT b t e a f|_=>False)|_=>False
theorem ZJ{i:Nat}:Rh a a2 i (r::b2)↔ah a (a2.add i)=Z r/\Rh a a2 (i+1) b2:=by grind[Rh]
theorem ZL:∀{l:List Sc}{i:Nat}{K:List J0->Prop},tj a a2 i l K->∃c,J c=J l/\Rh a a2 i c/\K c|[],_,_,b=>⟨[],rfl,trivial,b⟩|s::l,i,K,b=>by obtain⟨x,d,b⟩:=Vh b;obtain⟨c,e,f,b⟩:=ZL b;grind[ZJ]
theorem run_loadCellsFrom{P:Q1}:∀{c:List J0}{i:Nat}{e:Array J0},Rh a a2 i c->(loadCellsFrom a2 i (J c) e).run P (d.at a b)=.ok (e++c.toArray) (d.at a b)|[],_,e,_=>by simp[loadCellsFrom]|v::c,i,e,f=>by obtain⟨g,j⟩:=ZJ.1 f;have k:(load (a2.add i)).run P (d.at a b)=.ok v (d.at a b):=by{have l:(d.at a b).cell? (a2.add i)=Z v:=g;simp[load,Sem.run,l]};simp only[Bs,loadCellsFrom,Sem.run_bind,k,Result.andThen_ok,run_loadCellsFrom (P:=P) j];simp
theorem AIi(b:∃a,x.underlying u=Z a):(isAgg u).run x a9=.ok (Zk x u) a9:=by obtain⟨a,hd⟩:=b;unfold isAgg Zk;rw[hd];cases a<;>simp[CG hd]
theorem ADh{d:Q1}{A:ai}{k:J0->(Q->Prop)->Prop}(b:loadT d u a a2 k):∃v st,(∀c,st c->∀e,(loadVar u a2).run d (A.at c e)=.ok v (A.at c e))/\st a/\k v st:=by unfold loadT at b;cases f:Zk d u with|true=>rw[f]at b;simp[]at b;have i:∃g,d.underlying u=Z g:=by{cases i:d.underlying u with|none=>simp[Zk,i]at f|some g=>exact⟨g,rfl⟩};split at b;{rename_i r l;split at b;{rename_i m;have⟨w,n,o,b⟩:=ZL b;refine⟨_,_,λc j e=>?_,o,b⟩;simp[loadVar,Sem.run_bind,AIi i,f,Result.andThen_ok,AT,run_sizeOf l];rw[<-N3 m,<-n];simp only[loadCells,run_loadCellsFrom j,Result.andThen_ok];simp};exact b.elim};exact b.elim|false=>rw[f]at b;simp[]at b;split at b;{rename_i g hd;split at b;{rename_i s _;have⟨x,p,b⟩:=Vh b;refine⟨_,_,λc j e=>?_,p,b⟩;have q:(A.at c e).cell? a2=Z (s.val x):=j;simp[loadVar,AIi ⟨g,hd⟩,f,load,Sem.run,q]};exact b.elim};exact b.elim
theorem AGH{g:Q1}{A:ai}(j:Fits f bd bw){i:J0->(Q->Prop)->Prop}(c:qF g b8 bw a i):∃v st,(∀d,st d->ju g A b8 bd.eval v d)/\st a/\i v st:=by unfold qF at c;split at c;{rename_i t x k;have c:=CB j c;split at c;{rename_i p d;obtain⟨b,rfl,c⟩:=VQ c;obtain⟨v,st,m,l,c⟩:=ADh (A:=A) c;refine⟨v,st,λn q r=>?_,l,c⟩;simp only[execOp,k,d];refine lC ?_;simp_all[Instr.loadAt,Instr.sureAddr,Sem.run_bind,Sem.run_pure,Result.andThen_ok]};exact c.elim};exact c.elim
abbrev Kt:=Act->Q->List (Nat×(Q->Prop))->Prop
def G6(f:Q1)(c:ai)(j:Array Oper)(k:Oper->Bool)(l:Nat->Nat->Bool)(i:Nat)(g:Kt):Kt:=λa d e=>match j[i]? with|none=>False|some b=>if Region.wanted b (yielded j a.tmps)=Y then if k b=Y then∃v,ju f c b a.eval v d/\g (a.put b.dst v) d ((i,ju f c b a.eval v)::e)else∀m,EV f b a.eval (c.at d m) λv n=>∃h o,n=c.at h o/\(∀p∈e,un l i p.1=Y->p.2 h)/\g (a.put b.dst v) h e else g (a.put b.dst undef) d e
def oX(b:Kt):Prop:=∀a c d e,b a c d->(∀p∈e,p∈d)->b a c e
variable{fa:Kt}
theorem G6.mono{i:Nat}{f:Kt}(j:∀bd a c,fa bd a c->f bd a c){c:List (Nat×(Q->Prop))}(b:G6 x d b6 cl cc i fa bd a c):G6 x d b6 cl cc i f bd a c:=by unfold G6 at b⊢;cases g:b6[i]? with|none=>rw[g]at b;exact b|some m=>rw[g]at b;simp only at b⊢;split;{rename_i e;rw[A1 e]at b;split;{grind};rename_i k;rw[A0 k]at b;intro l;refine(b l).mono ?_;grind};rename_i e;rw[A0 e]at b;exact j _ _ _ b
theorem AAe{i:Nat}(c:oX fa):oX (G6 x d b6 cl cc i fa):=by intro a s t u b e;unfold G6 at b⊢;cases j:b6[i]? with|none=>rw[j]at b;exact b|some w=>rw[j]at b;simp only at b⊢;split;{rename_i f;rw[A1 f]at b;split;{rename_i g;rw[A1 g]at b;obtain⟨v,l,h⟩:=b;refine⟨v,l,c _ _ _ _ h (λp k=>?_)⟩;grind};rename_i g;rw[A0 g]at b;intro m;refine(b m).mono ?_;rintro v y⟨n,o,q,r,h⟩;exact⟨n,o,q,λp k=>r p (e p k),c _ _ _ _ h e⟩};rename_i f;rw[A0 f]at b;exact c _ _ _ _ b e
theorem G6.swap{i:Nat}{e:Oper}(hi:b6[i]?=Z b8)(g:b6[b]?=Z e)(H:b8.apart b6 e=Y)(I:PU b8)(R:PU e)(aj:un cc i b=Y)(m:cl e=Y)(S:oX fa){r:List (Nat×(Q->Prop))}(c:G6 x d b6 cl cc b (G6 x d b6 cl cc i fa) bd a r):G6 x d b6 cl cc i (G6 x d b6 cl cc b fa) bd a r:=by
 obtain⟨s,X,t⟩:=Oper.apart_spec H;have w:=λu=>execOp_put b8 I bd e.dst u t;have ak:=λu=>execOp_put e R bd b8.dst u s;have y:=λu=>wanted_put b8 bd e.dst u t;have n:∀u,Region.wanted e (yielded b6 (bd.put b8.dst u).tmps)=Region.wanted e (yielded b6 bd.tmps):=λu=>wanted_put e bd b8.dst u s;have z:∀u,ju x d b8 (bd.put e.dst u).eval=ju x d b8 bd.eval:=λu=>by grind[ju]
 have o:∀u,ju x d e (bd.put b8.dst u).eval=ju x d e bd.eval:=λu=>by grind[ju]
 have B:∀v u,(bd.put b8.dst v).put e.dst u=(bd.put e.dst u).put b8.dst v:=λv u=>Act.put_comm bd v u X;unfold G6 at c⊢;rw[g]at c;rw[hi];simp only at c⊢;by_cases f:Region.wanted e (yielded b6 bd.tmps)=Y;{rw[A1 f]at c;rw[A1 m]at c;obtain⟨N,ac,c⟩:=c;rw[hi]at c;simp only[y,z]at c;by_cases k:Region.wanted b8 (yielded b6 bd.tmps)=Y;{rw[A1 k]at c⊢;by_cases l:cl b8=Y;{rw[A1 l]at c⊢;obtain⟨C,ae,c⟩:=c;refine⟨C,ae,?_⟩;rw[g];simp only[n,o];rw[A1 f,A1 m];refine⟨N,ac,?_⟩;rw[B];exact S _ _ _ _ c λp F=>by grind};rw[A0 l]at c⊢;intro q;have:=c q;unfold EV at this;rw[w]at this;refine EV.mono this ?_;rintro C al⟨af,ag,ah,F,c⟩;refine⟨af,ag,ah,λp ai=>F p (CM _ ai),?_⟩;rw[g];simp only[n,o];rw[A1 f,A1 m];grind[List.mem_cons_self]};rw[A0 k]at c⊢;rw[g];simp[n,o];rw[A1 f,A1 m];grind};rw[A0 f]at c;rw[hi]at c;simp[y,z]at c;by_cases k:Region.wanted b8 (yielded b6 bd.tmps)=Y;{rw[A1 k]at c⊢;by_cases l:cl b8=Y;{rw[A1 l]at c⊢;simp_all};rw[A0 l]at c⊢;intro q;have:=c q;unfold EV at this⊢;rw[w]at this;refine NE ?_ this;simp_all};rw[A0 k]at c⊢;rw[g];simp[n];rw[A0 f,B];exact c
def UY(a:Nat->Nat->Bool)(b:List Nat)(i:Nat):Bool:=b.all λc=>!a i c
def Wp(a:Array Oper)(b:Oper->Bool)(i:Nat):Bool:=match a[i]? with|some c=>b c|none=>U
def mW(b:Array Oper)(c:Oper->Bool)(d:Nat->Nat->Bool)(a:List Nat):Option Nat:=a.find? λi=>Wp b c i&&UY d a i
def FT(e:Q1)(f:ai)(c:Array Oper)(d:Oper->Bool)(b:Nat->Nat->Bool)(h:Act->Q->Prop):Nat->List Nat->Kt|_,[]=>λa g _=>h a g|0,_::_=>λ_ _ _=>False|k+1,x::l=>λa g j=>match mW c d b (x::l)with|some i=>G6 e f c d b i (FT e f c d b h k ((x::l).erase i)) a g j|none=>∀i∈x::l,UY b (x::l) i=Y->G6 e f c d b i (FT e f c d b h k ((x::l).erase i)) a g j
theorem YI{P:Q1}{A:ai}{ops:Array Oper}{qb:Oper->Bool}{ord:Nat->Nat->Bool}{f8:Act->Q->Prop}:∀(k:Nat)(l:List Nat),oX (FT P A ops qb ord f8 k l)|_,[]=>by intro a c _ _ b _;unfold FT at b⊢;exact b|0,_::_=>by intro a c _ _ b _;unfold FT at b;exact b.elim|k+1,x::l=>by intro a c g h b d;unfold FT at b⊢;split;{rename_i i hi;rw[hi]at b;exact AAe (YI (P:=P) (A:=A) (ops:=ops) (qb:=qb) (ord:=ord) (f8:=f8) k _) _ _ _ _ b d};rename_i hi;rw[hi]at b;exactλi e f=>AAe (YI (P:=P) (A:=A) (ops:=ops) (qb:=qb) (ord:=ord) (f8:=f8) k _) _ _ _ _ (b i e f) d
def rh(a:Array Oper)(g:Oper->Bool)(e:Nat->Nat->Bool):Bool:=(a.toList.all λh=>Mr h)&&(List.range a.size).all λi=>match a[i]? with|none=>U|some d=>(d.after.toList.all λb=>!Region.binds .any b||decide (b.on<i))&&(List.range a.size).all λc=>match a[c]? with|none=>U|some f=>if decide (c<i)then if e i c then d.after.toList.any λb=>Region.binds .any b&&(b.on==c||(decide (c<b.on)&&e b.on c))else(!(g d||g f))||(d.apart a f&&f.apart a d)else !e i c
structure oY (ops:Array Oper) (qb:Oper->Bool) (ord:Nat->Nat->Bool):Prop where
 nd: ∀(i:Nat) (o:Oper),ops[i]? =Z o->Mr o=Y
 back: ∀(i:Nat) (o:Oper),ops[i]? =Z o-> ∀e∈o.after,Region.binds .any e=Y->e.on<i
 low: ∀i j,i<ops.size->j<ops.size->ord i j=Y->j<i
 pair: ∀(i j:Nat) (oi oj:Oper),ops[i]? =Z oi->ops[j]? =Z oj->j<i->
   (ord i j=Y/\ ∃e∈oi.after,Region.binds .any e=Y/\(e.on=j\/(j<e.on/\ord e.on j=Y)))\/
   (ord i j=U/\(qb oi=Y\/qb oj=Y->oi.apart ops oj=Y/\oj.apart ops oi=Y))
theorem AK8(a:rh b6 cl cc=Y):oY b6 cl cc:=by unfold rh at a;simp only[As,DP,HJ]at a;obtain⟨d,g⟩:=a;refine⟨λi b c=>d b (by grind),λi b c h j k=>?_,λi e hi f c=>?_,λi e l m hi f n=>?_⟩;{grind};{grind};grind
theorem ri{i:Nat}(a:UY cc bz i=Y)(c:b∈bz):cc i b=false:=by simp_all[UY,DP,GO]
theorem Uk{i:Nat}(a:UY cc bz i=Y):UY cc (bz.erase b) i=true:=by grind[UY,List.all_eq_true,List.mem_of_mem_erase]
theorem VZ(a:mW b6 cl cc bz=Z b):b∈bz/\Wp b6 cl b=Y/\UY cc bz b=true:=by unfold mW at a;grind
theorem ANx(a:mW b6 cl cc bz=V)(c:b∈bz)(d:Wp b6 cl b=Y):UY cc bz b=false:=by simp_all[mW,Hj,DA]
theorem AEX{i:Nat}(b:Wp b6 cl i=Y):∃a,b6[i]?=Z a/\cl a=true:=by unfold Wp at b;grind
theorem oY.swap(g:oY b6 cl cc){i:Nat}(s:i≠b)(hi:i<b6.size)(t:Wp b6 cl b=Y)(u:cc i b=U)(v:cc b i=U)(m:oX fa){j:List (Nat×(Q->Prop))}:(G6 x d b6 cl cc b (G6 x d b6 cl cc i fa) bd a j->G6 x d b6 cl cc i (G6 x d b6 cl cc b fa) bd a j)/\(Wp b6 cl i=Y->G6 x d b6 cl cc i (G6 x d b6 cl cc b fa) bd a j->G6 x d b6 cl cc b (G6 x d b6 cl cc i fa) bd a j):=by
 obtain⟨k,e,n⟩:=AEX t;have f:=HG hi;have o:=yb (g.nd _ _ f);have p:=yb (g.nd _ _ e);have r:(b6[i]).apart b6 k=Y/\k.apart b6 (b6[i])=true:=by rcases RE s with l|l;{rcases g.pair b i k _ e f l with⟨c,_⟩|⟨_,c⟩;{rw[v]at c;cases c};simp_all};rcases g.pair i b _ k f e l with⟨c,_⟩|⟨_,c⟩;{rw[u]at c;cases c};exact c (.inr n)
 have w:un cc i b=true:=by grind[un,Nat.lt_or_gt_of_ne,Nat.max_eq_right,Nat.min_eq_left,Nat.max_eq_left,Nat.min_eq_right]
 have y:un cc b i=true:=by unfold un at*;grind
 exact⟨G6.swap f e r.1 o p w n m,λz=>G6.swap e f r.2 p o y (by grind[AEX]) m⟩
theorem AQl{P:Q1}{A:ai}{f8:Act->Q->Prop}(B:oY b6 cl cc):∀(g:Nat)(l:List Nat),J l=g+1->(∀i∈l,i<b6.size)->∀(i:Nat),i∈l->UY cc l i=Y->(∀a c d,FT P A b6 cl cc f8 (g+1) l a c d->G6 P A b6 cl cc i (FT P A b6 cl cc f8 g (l.erase i)) a c d)/\(Wp b6 cl i=Y->∀a c d,G6 P A b6 cl cc i (FT P A b6 cl cc f8 g (l.erase i)) a c d->FT P A b6 cl cc f8 (g+1) l a c d):=by intro g;induction g with|zero=>intro l w q i hi k;obtain⟨x,rfl⟩:=A0t.1 w;have:i=x:=by{simpa using hi};subst this;constructor;{intro a c d e;unfold FT at e;split at e;{rename_i b h;have:=(VZ h).1;have:b=i:=by{simpa using this};subst this;exact e};exact e i (by simp) k};intro h a c d e;unfold FT;split;{rename_i b y;have:=(VZ y).1;have:b=i:=by{simpa using this};subst this;exact e};intro C F _;have:C=i:=by{simpa using F};subst this;exact e|succ g r=>intro l w q i hi k;obtain⟨x,f,rfl⟩:∃x f,l=x::f:=by{cases l with|nil=>cases w|cons x f=>exact⟨x,f,rfl⟩};have s:∀{b},b∈x::f->J ((x::f).erase b)=g+1:=λh=>by{simp_all};have t:∀{b},∀i∈(x::f).erase b,i<b6.size:=λi hi=>q i (A0V hi);have u:∀{p b},p∈x::f->p≠b->p∈(x::f).erase b:=λH I=>(List.mem_erase_of_ne I).2 H;constructor;{intro a c d e;unfold FT at e;split at e;{rename_i b h;obtain⟨m,v,n⟩:=VZ h;by_cases j:b=i;{subst j;exact e};have z:=G6.mono (λa c d=>(r ((x::f).erase b) (s m) t i (u hi (Ne.symm j)) (Uk k)).1 a c d) e;have o:=(B.swap (Ne.symm j) (q i hi) v (ri k m) (ri n hi) (YI _ _)).1 z;rw[List.erase_comm]at o;exact G6.mono (λa c d=>(r ((x::f).erase i) (s hi) t b (u m j) (Uk n)).2 v a c d) o};exact e i hi k};intro h a c d e;unfold FT;split;{rename_i b y;obtain⟨m,v,n⟩:=VZ y;by_cases j:b=i;{subst j;exact e};have z:=G6.mono (λa c d=>(r ((x::f).erase i) (s hi) t b (u m j) (Uk n)).1 a c d) e;have o:=(B.swap (Ne.symm j) (q i hi) v (ri k m) (ri n hi) (YI _ _)).2 h z;rw[List.erase_comm]at o;exact G6.mono (λa c d=>(r ((x::f).erase b) (s m) t i (u hi (Ne.symm j)) (Uk k)).2 h a c d) o};rename_i K;have:=ANx K hi h;rw[k]at this;cases this
theorem ANA{i:Nat}{a:Array Bool}(hi:i<b)(c:a.size=b)(d:a.getD i U=U):left b (a.setIfInBounds i Y)=(left b a).erase i:=by grind[AN9,List.erase_append_right]
theorem FT.any{P:Q1}{A:ai}{f8:Act->Q->Prop}{m:Nat}(ac:∀a e d,f8 a e->c0 .normal a (A.at e d))(j:oY b6 cl cc):∀(fuel:Nat)(listed:Array Bool)(a:Act)(e:Q)(aJ:List (Nat×(Q->Prop))),J (left b6.size listed)=fuel->listed.size=b6.size->iy cc listed->FT P A b6 cl cc f8 fuel (left b6.size listed) a e aJ->∀d,wpAnyIn (Fw b1) m P .any b6 c0 fuel listed a (A.at e d):=by intro fuel;induction fuel with|zero=>intro listed a e aJ w x _ l d;have n:=HE w;refine⟨?_,?_⟩;{simp_all[Region.ready,mem_ready,IN,left,mem_left]};rw[n]at l;unfold FT at l;exact ac _ _ _ l|succ fuel y=>intro listed a e aJ w x K l d;refine⟨λae=>?_,λi hi=>?_⟩;{exfalso;have af:∀g i,i<g->i∈left b6.size listed->False:=by{intro g;induction g with|zero=>intro i hi;omega|succ g ag=>intro i _ hi;obtain⟨o,ah⟩:=mem_left.1 hi;have s:=HG o;by_cases p:∀f∈b6[i].after,Region.binds .any f=Y->listed.getD f.on U=Y;{have:i∈Region.ready .any b6 listed:=mem_ready.2 ⟨by simp_all,_,s,p⟩;rw[ae]at this;cases this};simp only[Classical.not_forall]at p;obtain⟨f,n,h,z⟩:=p;have aA:=j.back i _ s f n h;exact ag f.on (by omega) (mem_left.2 ⟨by omega,by simpa using z⟩)};have z:left b6.size listed≠[]:=by{grind};obtain⟨i,hi⟩:=List.exists_mem_of_ne_nil _ z;exact af (i+1) i (by omega) hi};obtain⟨ah,t,k,p⟩:=mem_ready.1 hi;have o:i<b6.size:=(IN.1 k).1;have R:listed.getD i U=false:=by{simp_all};have aj:∀b,b<i->listed.getD b U=U->cc i b=false:=by{intro b q u;have ak:b6[b]?=Z b6[b]:=HG (by omega);rcases j.pair i b t _ k ak q with⟨_,f,n,h,B⟩|⟨B,_⟩;{exfalso;have S:=p f n h;rcases B with rfl|⟨al,O⟩;{rw[S]at u;cases u};have:=K f.on b S al O;rw[this]at u;cases u};exact B};have an:i∈left b6.size listed:=mem_left.2 ⟨o,R⟩;have ao:UY cc (left b6.size listed) i=true:=by{unfold UY;simp only[DP,GO];intro b q;obtain⟨ap,aq⟩:=mem_left.1 q;cases h:cc i b with|false=>rfl|true=>rw[aj b (j.low i b o ap h) aq]at h;cases h};have c:=(AQl (f8:=f8) (P:=P) (A:=A) j fuel _ w (λb q=>(mem_left.1 q).1) i an ao).1 a e aJ l;have C:iy cc (listed.setIfInBounds i Y):=by{intro g b X ar s;by_cases au:b=i;{simp_all};rw[getD_set_ne U (Ne.symm au)];by_cases av:g=i;{grind};rw[getD_set_ne U (Ne.symm av)]at X;exact K g b X ar s};have aw:=ANA o x R;have F:J (left b6.size (listed.setIfInBounds i Y))=fuel:=by{simp_all};have H:(listed.setIfInBounds i Y).size=b6.size:=by{simp[x]};rw[<-aw]at c;unfold G6 at c;rw[k]at c;unfold wpOpIn;simp only[k];split;{rename_i I;simp only[I,AT]at c;by_cases N:cl t=Y;{rw[A1 N]at c;obtain⟨v,ax,c⟩:=c;refine EV.wpIn (j.nd i t k) ?_;unfold EV;rw[ax d];exact y _ _ _ _ F H C c d};rw[A0 N]at c;refine EV.wpIn (j.nd i t k) ((c d).mono ?_);rintro v aB⟨aC,M,rfl,_,az⟩;exact y _ _ _ _ F H C az M};rename_i I;simp only at c;rw[A0 I]at c;exact⟨λ_ _=>trivial,y _ _ _ _ F H C c d⟩
theorem ACk{f8:Act->Q->Prop}{m:Nat}(e:∀bd a f,f8 bd a->c0 .normal bd (d.at a f))(g:x.follows .mixedOrders=Y)(i:rh b6 cl cc=Y)(j:FT x d b6 cl cc f8 b6.size (List.range b6.size) bd a []):(Code.region b b6 Y).wpIn (Fw b1) m x c0 bd (d.at a f):=by refine wpIn_region_any g ?_;have c:=ATL b6.size;refine FT.any (aJ:=[]) e (AK8 i) _ _ _ a (by rw[c];simp) (by simp) ?_ (by rw[c];exact j) (f+1);intro k o l;exfalso;by_cases a:k<b6.size<;>simp[a]at l
inductive Cls where
 |pure|load|fX
def cls(a:Q1)(d:Oper):Cls:=match d.op with|.load _ _=>.load|.binOp op t x e _=>(match Xn a op t x e with|.no=>.fX|_=>.pure)|.convert s b _=>(match a.underlying s with|some (.int _)=>(match a.underlying b with|some (.int _)=>.pure|_=>.fX)|some .string=>(match a.underlying b with|some .string=>.pure|_=>.fX)|_=>.fX)|.call c=>(match c.callee with|.builtin .min=>(match c.argTypes[0]? with|some t=>(match a.underlying t with|some (.float _)=>.fX|_=>.pure)|none=>.pure)|.builtin .max=>(match c.argTypes[0]? with|some t=>(match a.underlying t with|some (.float _)=>.fX|_=>.pure)|none=>.pure)|.builtin .cap=>.pure|.builtin .len=>(match c.argTypes[0]? with|some t=>(match a.underlying t with|some (.map _ _)=>.fX|_=>.pure)|none=>.fX)|_=>.fX)|.move _|.assign _|.pick ..|.build ..|.nilCheck _|.unOp ..|.makeInterface ..|.makeFunc ..|.fieldAddr ..|.field ..|.indexAddr ..|.index ..|.slice ..|.extract ..=>.pure|_=>.fX
def iV(a:ai)(c:Q1)(m:Sem Unit)(d:Q)(e:Q->Prop):Prop:=∀f,∃b g,m.run c (a.at d f)=.ok () (a.at b g)/\e b
def PY(a:Env)(b:Array Operand):Array J0:=(b.toList.map (ρof a)).toArray
def AWZ(a:Q1)(b:Q8):Bool:=match a.funcs[b]? with|some fn=>(match fn.body with|none=>Y|some _=>U)|none=>U
def uC(a:ai)(c:Q1)(d:Q8)(e:Array J0)(f:Q)(g:A3U):Prop:=∀h,∃v b i,(callFunc d e).run c (a.at f h)=.ok (.value v) (a.at b i)/\g v b
def uD(h:ai)(a:Q1)(e:Oper)(c:Call)(g:Env)(i:Q)(j:A3U):Prop:=match c.callee with|.value (.func f)=>known g c.args.toList (match AWZ a f with|true=>uC h a f (PY g c.args) i λv d=>Vt a e.type v λv=>j v d|false=>Tu a (callFunc f (PY g c.args)) λx=>match x with|.enter k l=>AJ h a k l i λv d=>Vt a e.type v λv=>j v d|_=>False)|.value x=>rd g x λfv=>known g c.args.toList (JB h a fv (PY g c.args) i λv d=>Vt a e.type v λv=>j v d)|.builtin b=>known g c.args.toList (match b with|.append=>El h a (Builtin.append_ c.argTypes e.type (PY g c.args)) i λv d=>Vt a e.type v λv=>j v d|.copy=>El h a (Builtin.copy_ c.argTypes e.type (PY g c.args)) i λv d=>Vt a e.type v λv=>j v d|.delete=>El h a (Builtin.delete_ c.argTypes e.type (PY g c.args)) i λv d=>Vt a e.type v λv=>j v d|.clear=>El h a (Builtin.clear_ c.argTypes e.type (PY g c.args)) i λv d=>Vt a e.type v λv=>j v d|.len=>El h a (Builtin.len_ c.argTypes e.type (PY g c.args)) i λv d=>Vt a e.type v λv=>j v d|.min=>El h a (Builtin.min_ c.argTypes e.type (PY g c.args)) i λv d=>Vt a e.type v λv=>j v d|.max=>El h a (Builtin.max_ c.argTypes e.type (PY g c.args)) i λv d=>Vt a e.type v λv=>j v d|_=>False)|.invoke x name=>rd g x λm=>known g c.args.toList (yi h a m name (PY g c.args) i λv d=>Vt a e.type v λv=>j v d)
def YO(a:Q6):Q->Nat->List J0->(Q->Prop)->Prop|h,_,[],K=>K h|h,i,v::b,K=>qc (P9 v) (aj h (a.add i) v λc=>YO a c (i+1) b K)
def uE(b:Q1)(c:Q7)(e f:J0)(g:Q)(h:Q->Prop):Prop:=match e with|.pointer p=>(At p λa=>match b.info? c with|some i=>(om b c f λd=>match Nat.beq d.size i.size with|true=>YO a g 0 d.toList h|false=>False)|none=>False)|_=>False
def AZY(c:Q1)(a:Q7)(d:J0)(e:Q)(f:A3U):Prop:=om c a d λg=>bW e (.cells g a) λb h=>f (.pointer (Z ⟨b,0,V⟩)) h
def rowOf(d:Q1)(e:Q7)(b:Nat)(f:List (Nat×Array J0)):Option (Array J0):=match d.info? e with|some a=>(match a.zero with|some c=>(match Nat.ble (b*a.size) (2^24)with|true=>mD (λi=>Z (i*a.size,a.size)) ((Array.range (b*a.size)).map (c.cells[· %c.cells.size]!)) f|false=>V)|none=>V)|none=>V
def ADg(a:Q1)(d:Q7)(c:Nat)(f:Array (Nat×Operand))(g:Env)(h:Q)(i:A3U):Prop:=match a.underlying d with|some (.slice e)=>(ox a d g f.toList λl=>match rowOf a e c l with|some cells=>bW h (.cells cells e) λb j=>i (.slice (Z ⟨b,0,V⟩) c c) j|none=>False)|_=>False
def VF(b:List Oper)(c:Option Tmp)(a:Nat):Option Q7:=match c with|none=>V|some t=>match b with|[]=>V|o::r=>match o.op with|.extract (.tmp t') d=>(match Nat.beq t' t with|true=>(match Nat.beq d a with|true=>Z o.type|false=>VF r (Z t) a)|false=>VF r (Z t) a)|_=>VF r (Z t) a
def lF(d:Q1)(a:Option Q7)(b:J0)(c:J0->Prop):Prop:=match a with|none=>c b|some a=>Vt d a b c
theorem Pe{a:Option Q7}(b:lF x a r ca):ca r:=by cases a with|none=>exact b|some a=>exact Pi b
def mK(k:ai)(a:Q1)(n:Array Oper)(h:Oper)(d:Env)(j:Q)(g:A3U):Prop:=match h.op with|.call c=>uD k a h c d j g|.makeSlice t l c=>rd d l λl=>rd d c λc=>El k a (Instr.makeSlice t l c) j λv e=>Vt a h.type v λv=>g v e|.lookup t x i ok=>rd d x λx=>rd d i λi=>El k a (Instr.lookup t x i ok) j λv e=>Vt a h.type v λv=>g v e|.mapUpdate t m f x=>rd d m λm=>rd d f λf=>rd d x λx=>iV k a (Instr.mapUpdate t m f x) j λe=>g undef e|.mapEntry t m f=>rd d m λm=>rd d f λf=>El k a (Instr.mapEntry t m f) j λv e=>∃f u:J0,v=.tuple #[f,u]/\lF a (VF n.toList h.dst 0) f λf=>lF a (VF n.toList h.dst 1) u λu=>g (.tuple #[f,u]) e|.entryStore t m s x=>rd d m λm=>rd d s λs=>rd d x λx=>iV k a (Instr.entryStore t m s x) j λe=>g undef e|.convert s p x=>rd d x λx=>El k a (convert s p x) j λv e=>Vt a h.type v λv=>g v e|.binOp op t x o _=>rd d x λv=>rd d o λu=>El k a (do eqGuard op t x o v u;binOp op t v u) j λv e=>Vt a h.type v λv=>g v e|.store t x o=>rd d x λq=>rd d o λv=>uE a t q v j λe=>g undef e|.box t x=>rd d x λv=>AZY a t v j g|.buildSlice t len r=>ADg a t len r d j g|.range t x=>rd d x λx=>El k a (Instr.range t x) j λv e=>∃b:Nat,v=.pointer (Z ⟨b,0,V⟩)/\g (.pointer (Z ⟨b,0,V⟩)) e|.next x s=>rd d x λx=>El k a (Instr.next x s h.type) j λv e=>(v=.tuple #[.bool U]/\g (.tuple #[.bool U]) e)\/(∃f u:J0,v=.tuple #[.bool Y,f,u]/\lF a (VF n.toList h.dst 1) f λf=>lF a (VF n.toList h.dst 2) u λu=>g (.tuple #[.bool Y,f,u]) e)|.entry x=>rd d x λx=>El k a (Instr.entry x) j λv e=>∃f u:J0,v=.tuple #[f,u]/\lF a (VF n.toList h.dst 0) f λf=>lF a (VF n.toList h.dst 1) u λu=>g (.tuple #[f,u]) e|.alloc ..|.makeMap ..=>known d h.op.operands.toList (Sem.vc a (execOp (ρof d) h) j λx e=>match x with|.value v=>g v e|.skip=>g undef e|_=>False)|_=>False
theorem X6(d:Fits b bd bw){c:Array Operand}(f:∀x∈c.toList,ρof bw x=bd.eval x):PY bw c=c.map bd.eval:=by grind[PY,List.map_congr_left,Array.toList_inj,Array.toList_map]
theorem oJ(g:execOp er b8=do pure (.value (<-en)))(i:El d x en a λv b=>Vt x b8.type v λv=>e v b):∀c,EV x b8 er (d.at a c) λv j=>∃b f,j=d.at b f/\e v b:=by intro c;obtain⟨v,b,f,k,hd⟩:=i c;unfold EV;rw[g,lC k];exact⟨b,f,rfl,Pi hd⟩
theorem qG{g:A3U}(i:execOp er b8=do pure (.value (<-en)))(j:El d x en a g)(k:∀v b,g v b->e v b):∀c,EV x b8 er (d.at a c) λv l=>∃b f,l=d.at b f/\e v b:=by intro c;obtain⟨v,b,f,m,hd⟩:=j c;unfold EV;rw[i,lC m];exact⟨b,f,rfl,k _ _ hd⟩
theorem uF{g:Sem Unit}(i:execOp er b8=do g;pure .skip)(j:iV d x g a λb=>e undef b):∀c,EV x b8 er (d.at a c) λv k=>∃b f,k=d.at b f/\e v b:=by intro c;obtain⟨b,f,l,hd⟩:=j c;unfold EV;rw[i,AY2 l];exact⟨b,f,rfl,hd⟩
theorem AM1{r:Q1}(k:Fits n bd bw){m:Call}(t:b8.op=.call m)(c:uD d r b8 m bw a e):∀g,EV r b8 bd.eval (d.at a g) λv s=>∃i j,s=d.at i j/\e v i:=by
 have z:∀{fv:J0}{u:A3U}{x:Operand},m.callee=.value x->bd.eval x=fv->JB d r fv (m.args.map bd.eval) a u->∀g,EV r b8 bd.eval (d.at a g) λv s=>∃i j,s=d.at i j/\u v i:=by intro fv u x l w B g;have:=B g;unfold EV;have p:execOp bd.eval b8=(do let y<-Deferred.ofValue fv (m.args.map bd.eval);invoke y.target y.args):=by{simp[execOp,t,resolve,l,w]};rw[p];exact this
 unfold uD at c;split at c;{rename_i f l;obtain⟨q,c⟩:=LA k c;rw[X6 k q]at c;split at c;{intro g;obtain⟨v,i,j,I,hd⟩:=c g;have p:(execOp bd.eval b8).run r (d.at a g)=.ok (.value v) (d.at i j):=by{simp[execOp,t,resolve,l,Act.eval,Deferred.ofValue];simp_all[Sem.run_bind,Sem.run_pure,Result.andThen_ok,invoke]};unfold EV;rw[p];exact⟨i,j,rfl,Pi hd⟩};have⟨x,w,c⟩:=P8 c;split at c;{rename_i C F;intro g;have p:(execOp bd.eval b8).run r (d.at a g)=.ok (.enter C F) (d.at a g):=by{simp[execOp,t,resolve,l,Act.eval,Deferred.ofValue];simp_all[Sem.run_bind,Sem.run_pure,Result.andThen_ok,invoke]};unfold EV;rw[p];refine Calls.mono (c g) ?_;rintro P s⟨v,rfl,i,j,rfl,hd⟩;exact⟨v,rfl,i,j,rfl,Pi hd⟩};exact c.elim};{rename_i x l;have c:=CB k c;obtain⟨q,c⟩:=LA k c;rw[X6 k q]at c;intro g;refine EV.mono (z l rfl c g) ?_;rintro v s⟨i,j,rfl,hd⟩;exact⟨i,j,rfl,Pi hd⟩};{rename_i b l;have⟨q,c⟩:=LA k c;rw[X6 k q]at c;split at c;all_goals first|exact oJ (by simp[execOp,t,resolve,l];rfl) c|exact c.elim};rename_i x name l;have c:=CB k c;obtain⟨q,c⟩:=LA k c;rw[X6 k q]at c;intro g;have p:execOp bd.eval b8=(callMethod (bd.eval x) name (m.args.map bd.eval)):=by simp[execOp,t,resolve,l];have H:(#[bd.eval x]++Array.map bd.eval m.args)[0]?=Z (bd.eval x):=by{grind};simp[invoke];rw[H];rw[show m.args.size=(Array.map bd.eval m.args).size by simp,Array.extract_size]
 unfold EV;rw[p];refine NE ?_ (c g);rintro v s⟨i,j,rfl,hd⟩;exact⟨i,j,rfl,Pi hd⟩
theorem ABD{P:Q1}{A:ai}:∀{l:List J0}{b:Q}{i:Nat}{K:Q->Prop},YO a2 b i l K->∀c,∃e,(storeCells a2 l i).run P (A.at b c)=.ok () (A.at e c)/\K e|[],b,i,K,d,c=>⟨b,rfl,d⟩|v::o,b,i,K,d,c=>by unfold YO at d;cases f:P9 v with|false=>rw[f]at d;exact d.elim|true=>rw[f]at d;obtain⟨⟨u,g⟩,h,j⟩:=d;obtain⟨e,k,m⟩:=ABD (P:=P) j c;refine⟨e,?_,m⟩;simp[storeCells,Sem.run_bind];have n:(store (a2.add i) v).run P (A.at b c)=.ok () (A.at (cO b (a2.add i) v) c):=yj f g h;rw[n];exact k
theorem ALV{P:Q1}{A:ai}(b:uE P u r bp k be):iV A P (Instr.storeAt u r bp) k be:=by intro e;unfold uE at b;split at b;{rename_i p;obtain⟨a,rfl,c⟩:=VQ b;split at c;{rename_i l hi;have d:=Ud c;split at d;{rename_i f;obtain⟨g,i,j⟩:=ABD (P:=P) (A:=A) d e;refine⟨g,e,?_,j⟩;simp[Instr.storeAt,Instr.sureAddr,storeVar,run_sizeOf hi,N3 f,i]};exact d.elim};exact c.elim};exact b.elim
def AWn:(Instr.box u r).run x (d.at a b)=.ok (.pointer (Z ⟨a.size,0,V⟩)) (d.at (a.push (.cells r.cells u)) b):=rfl
theorem AVh(m:x.underlying u=Z (.slice bc)){g:Array (Nat×J0)}(c:rowOf x bc b (g.toList.map λp=>(p.1,p.2.cells))=Z bi):(Instr.buildSlice u b g).run x (d.at a f)=.ok (.slice (Z ⟨a.size,0,V⟩) b b) (d.at (a.push (.cells bi bc)) f):=by unfold rowOf at c;split at c;{rename_i e j;split at c;{rename_i o q;split at c;{rename_i k;have k:=A0A k;rw[<-qd]at c;have r:¬(b*e.size>2^24):=by{omega};unfold Instr.buildSlice;simp only[Sem.run_bind,CG m,Result.andThen_ok,run_sizeOf j,A0 r];by_cases l:b*e.size=0;{have s:Instr.fill (λi=>Z (i*e.size,e.size)) ((Array.range (b*e.size)).map (#[][· %(#[]:Array J0).size]!)) g.toList=Z bi:=by{grind};rw[A1 l];simp only[Sem.run_bind,Sem.run_pure,Result.andThen_ok,s];rfl};rw[A0 l];have v:(zeroValue bc).run x (d.at a f)=.ok o (d.at a f):=by{simp[zeroValue,yq j,q]};simp[Sem.run_bind,v,Sem.run_pure,Result.andThen_ok,c];rfl};cases c};cases c};cases c
theorem AIm{w:Q1}(k:Fits f bd bw)(g:mK d w b6 b8 bw a e):∀p,EV w b8 bd.eval (d.at a p) λv z=>∃n r,z=d.at n r/\e v n:=by
 have C:PU b8->known bw b8.op.operands.toList (Sem.vc w (execOp (ρof bw) b8) a λx n=>match x with|.value v=>e v n|.skip=>e undef n|_=>False)->∀p,EV w b8 bd.eval (d.at a p) λv z=>∃n r,z=d.at n r/\e v n:=by intro H g p;obtain⟨I,g⟩:=LA k g;obtain⟨x,n,r,F,g⟩:=AS9 g p;rw[execOp_congr b8 H (λx P=>I x (by simpa using P))]at F;unfold EV;rw[F];split at g;{exact⟨n,r,rfl,g⟩};{exact⟨n,r,rfl,g⟩};exact g.elim
 unfold mK at g;split at g;{rename_i c j;exact AM1 k j g};{rename_i t l c j;exact oJ (by simp[execOp,j]) (CB k (CB k g))};{rename_i t x i ok j;exact oJ (by simp[execOp,j]) (CB k (CB k g))};{rename_i t m y x j;exact uF (by simp[execOp,j]) (CB k (CB k (CB k g)))};{rename_i t m y j;refine qG (by simp[execOp,j]) (CB k (CB k g)) ?_;rintro v n⟨y,u,rfl,a⟩;exact Pe (Pe a)};{rename_i t m s x j;exact uF (by simp[execOp,j]) (CB k (CB k (CB k g)))};{rename_i s Q x j;exact oJ (by simp[execOp,j]) (CB k g)};{rename_i op t x R _ j;exact oJ (by simp[execOp,j]) (CB k (CB k g))};{rename_i t x R j;exact uF (by simp[execOp,j]) (ALV (CB k (CB k g)))};{rename_i t x j;intro p;unfold EV;simp only[execOp,j];rw[lC AWn];exact⟨_,_,rfl,Ud (CB k g)⟩};{rename_i t len N j;intro p;unfold ADg at g;split at g;{rename_i ac S;have B:=VS k g;split at B;{rename_i cells q;unfold EV;simp only[execOp,j];rw[lC (AVh S (by rw[<-q];congr 1;simp))];exact⟨_,_,rfl,B⟩};exact B.elim};exact g.elim};{rename_i t x j;refine qG (by simp[execOp,j]) (CB k g) ?_;rintro v n⟨b,rfl,a⟩;exact a};{rename_i x s j;refine qG (by simp[execOp,j]) (CB k g) ?_;rintro v n(⟨rfl,a⟩|⟨y,u,rfl,a⟩);{exact a};exact Pe (Pe a)};{rename_i x j;refine qG (by simp[execOp,j]) (CB k g) ?_;rintro v n⟨y,u,rfl,a⟩;exact Pe (Pe a)};{rename_i j;exact C (λX b q=>by rw[j]at q;cases q) g};{rename_i j;exact C (λX b q=>by rw[j]at q;cases q) g};exact g.elim
def uG:List Prop->Prop->Prop|[],K=>K|p::l,K=>p/\uG l K
theorem AIk:∀{l:List Prop}{K:Prop},uG l K->(∀p∈l,p)/\K|[],_,a=>⟨λ_ b=>(by cases b),a⟩|p::l,_,⟨b,a⟩=>by obtain⟨c,d⟩:=AIk a;grind
def AVY(a:Nat->Nat->Bool)(i:Nat)(b:Q)(c:List (Nat×(Q->Prop))):List Prop:=(c.filter λp=>un a i p.1).map λp=>p.2 b
def qH(e:Array Oper)(f:Oper)(a:Env)(c d:Env->Prop):Prop:=match f.guard with|none=>c a|some (h,i)=>match e[h]? with|some j=>(match j.dst with|some b=>(match a.get b with|some (.bool g)=>(match i with|true=>cX g (c (a.set b (.bool Y))) (d (a.set b (.bool U)))|false=>cX g (d (a.set b (.bool Y))) (c (a.set b (.bool U))))|some _=>d a|none=>False)|none=>False)|none=>False
def XU(f:ai)(b:Q1)(g:Nat)(d:Array Oper):List Oper->Env->Q->(Env->Q->Prop)->Prop|[],a,c,e=>e a c|o::rest,a,c,e=>match pY g o.dst with|false=>False|true=>qH d o a (λa=>match cls b o with|.pure=>qe b o a λv=>XU f b g d rest (a.put o.dst v) c e|.load=>qF b o a c λv _=>XU f b g d rest (a.put o.dst v) c e|.fX=>mK f b d o a c λv h=>XU f b g d rest (a.put o.dst v) h e) (λa=>XU f b g d rest (a.put o.dst undef) c e)
theorem ADT(i:Fits b bd bw){n p:Env->Prop}(c:qH b6 b8 bw n p):(Region.wanted b8 (yielded b6 bd.tmps)=Y/\∃f,Fits b bd f/\n f)\/(Region.wanted b8 (yielded b6 bd.tmps)=U/\∃f,Fits b bd f/\p f):=by unfold qH at c;split at c;{grind[Region.wanted]};rename_i q u h;split at c;{rename_i w r;split at c;{rename_i s hd;split at c;{rename_i g k;have t:=i.get s _ k;have d:yielded b6 bd.tmps q=Z g:=by{simp[yielded,r,hd,t]};have j:=i.sR t;split at c;{obtain⟨l,m⟩:=uB c;cases g with|true=>exact .inl ⟨by simp[Region.wanted,h,d],_,j,l rfl⟩|false=>exact .inr ⟨by simp[Region.wanted,h,d],_,j,m rfl⟩};obtain⟨l,m⟩:=uB c;cases g with|true=>exact .inr ⟨by simp[Region.wanted,h,d],_,j,l rfl⟩|false=>exact .inl ⟨by simp[Region.wanted,h,d],_,j,m rfl⟩};{rename_i v x k;refine .inr ⟨?_,bw,i,c⟩;have d:yielded b6 bd.tmps q=none:=by{simp[yielded,r,hd,i.get s _ k,GW];simp_all};simp[Region.wanted,h,d]};exact c.elim};exact c.elim};exact c.elim
structure UI (f9:List Nat) (a a':Act):Prop where
 get: ∀t,t∉f9->a'.tmps[t]? =a.tmps[t]?
 ds:a'.defers=a.defers
def UI.refl(b:List Nat)(a:Act):UI b a a:=⟨λ_ _=>rfl,rfl⟩
theorem UI.put(c:UI bz bd d5){b:Option Tmp}(e:∀t,b=Z t->t∈bz):UI bz bd (d5.put b r):=by cases b with|none=>exact c|some b=>refine⟨λt d=>?_,c.ds⟩;have:b≠t:=λf=>d (f▸e b rfl);simp[Act.put];rw[HL this];exact c.get t d
def dstsOf(a:List Oper):List Nat:=a.filterMap (·.dst)
def AO8{a:List Oper}(c:b8∈a)(e:b8.dst=Z b):b∈dstsOf a:=R2.2 ⟨b8,c,e⟩
theorem ZU(a:cls x b8≠.fX):PU b8:=λd b c=>a (by simp[cls,c])
theorem ABJ(a:cls x b8≠.fX):Mr b8=true:=by grind[Mr,absurd,cls]
theorem AJp(b:mK d x b6 b8 bw a e):Mr b8=true:=by grind[Mr,mK]
theorem ADa{P:Q1}{A:ai}{r:Option Nat}{m f4:Nat}{ops:Array Oper}:∀(l:List Oper)(i:Env)(f:Q)(a:Act)(g:Nat),XU A P f4 ops l i f ee->Fits f4 a i->(∀p c d h,Fits f4 p c->UI (dstsOf l) a p->ee c d->c0 .normal p (A.at d h))->wpListIn (Fw r) m P ops c0 l a (A.at f g)|[],i,f,a,g,b,q,s=>s a i f g q (UI.refl _ _) b|o::rest,i,f,a,g,b,q,s=>by unfold XU at b;split at b;{exact b.elim};rename_i hd;have next:∀(v:J0)(c:Env)(d:Q)(h:Nat),Fits f4 a c->XU A P f4 ops rest (c.put o.dst v) d ee->wpListIn (Fw r) m P ops c0 rest (a.put o.dst v) (A.at d h):=by{intro v c d h e z;refine ADa (P:=P) (A:=A) (r:=r) (m:=m) (f4:=f4) (ops:=ops) rest _ d _ h z (e.put hd) ?_;intro B C F H I y K;refine s B C F H I ⟨λt j=>?_,y.ds.trans (by cases o.dst<;>rfl)⟩ K;have R:t∉dstsOf rest:=λX=>j (by simp[dstsOf,Hb];split<;>simp_all[dstsOf]);rw[y.get t R];exact(UI.put (UI.refl _ a) (λt j=>AO8 FG j)).get t j};unfold wpListIn;rcases ADT q b with⟨u,c,e,b⟩|⟨u,c,e,b⟩;{rw[A1 u];split at b;{rename_i n;obtain⟨v,w,b⟩:=AEc e (ZU (by rw[n];intro x;cases x)) b;refine EV.wpIn (ABJ (by rw[n];intro x;cases x)) ?_;unfold EV;rw[w];exact next v c f g e b};{rename_i n;obtain⟨v,st,w,S,b⟩:=AGH e b;refine EV.wpIn (ABJ (by rw[n];intro x;cases x)) ?_;unfold EV;rw[w f S g];exact next v c f g e b};refine EV.wpIn (AJp b) ((AIm e b g).mono ?_);rintro v N⟨d,h,rfl,b⟩;exact next v c d h e b};rw[A0 (by rw[u];simp)];grind
def iW(a:Q1)(b:Oper):Bool:=match cls a b with|.fX=>U|_=>Y
abbrev Ke:=Env->Q->List (Nat×(Q->Prop))->Prop
def qI(j:ai)(e:Q1)(k:Nat)(g:Array Oper)(l:Nat->Nat->Bool)(i:Nat)(f:Ke):Ke:=λa c d=>match g[i]? with|none=>False|some b=>match pY k b.dst with|false=>False|true=>qH g b a (λa=>match cls e b with|.pure=>qe e b a λv=>f (a.put b.dst v) c d|.load=>qF e b a c λv st=>f (a.put b.dst v) c ((i,st)::d)|.fX=>mK j e g b a c λv h=>uG (AVY l i h d) (f (a.put b.dst v) h d)) (λa=>f (a.put b.dst undef) c d)
def uH(a:Nat->Prop):List Nat->Prop|[]=>True|[i]=>a i|i::l=>a i/\uH a l
theorem AIN:∀{l:List Nat},uH o l->∀i∈l,o i|[],_,_,a=>by cases a|[j],a,i,hi=>by have:i=j:=by{simpa using hi};subst this;exact a|j::x::l,a,i,hi=>by rcases AS.1 hi with rfl|hi;{exact a.1};exact AIN a.2 i hi
def mL(d:ai)(b:Q1)(e:Nat)(c:Array Oper)(a:Nat->Nat->Bool)(j:Env->Q->Prop):Nat->List Nat->Ke|_,[]=>λg h _=>j g h|0,_::_=>λ_ _ _=>False|f+1,x::l=>λg h k=>match mW c (iW b) a (x::l)with|some i=>qI d b e c a i (mL d b e c a j f ((x::l).erase i)) g h k|none=>uH (λi=>qI d b e c a i (mL d b e c a j f ((x::l).erase i)) g h k) ((x::l).filter (UY a (x::l)))
def uI(c d:List (Nat×(Q->Prop))):Prop:=∀b∈d,(∀a,b.2 a)\/∃p∈c,p.1=b.1/\∀a,p.2 a->b.2 a
theorem ABi{j:Q1}{i:Nat}{F:Ke}(u:∀bw a d5 m n,F bw a m->Fits b d5 bw->UI (dstsOf b6.toList) bd d5->uI m n->fa d5 a n){m:List (Nat×(Q->Prop))}{n:List (Nat×(Q->Prop))}(c:qI d j b b6 cc i F bw a m)(K:Fits b d5 bw)(P:UI (dstsOf b6.toList) bd d5)(o:uI m n):G6 j d b6 (iW j) cc i fa d5 a n:=by
 unfold qI at c;unfold G6;split at c;{exact c.elim};rename_i q R;have S:q∈b6.toList:=by grind
 try rw[R]
 try simp only
 split at c;{exact c.elim};rename_i hd;have w:∀v,UI (dstsOf b6.toList) bd (d5.put q.dst v):=λv=>P.put (λt X=>AO8 S X);rcases ADT K c with⟨z,N,g,c⟩|⟨z,N,g,c⟩;{rw[A1 z];split at c;{rename_i k;have r:iW j q=true:=by{simp[iW,k]};rw[A1 r];have⟨v,y,c⟩:=AEc g (ZU (by rw[k];intro x;cases x)) c;refine⟨v,λB=>y _,u _ _ _ _ _ c (g.put hd) (w v) ?_⟩;intro s f;rcases AS.1 f with rfl|f;{exact .inl λa B=>y _};exact o s f};{rename_i k;have r:iW j q=true:=by{simp[iW,k]};rw[A1 r];obtain⟨v,st,y,ac,c⟩:=AGH g c;refine⟨v,y a ac,u _ _ _ _ _ c (g.put hd) (w v) ?_⟩;intro s f;rcases AS.1 f with rfl|f;{simp_all};rcases o s f with l|⟨p,H,l,I⟩;{exact .inl l};grind};rename_i k;have r:¬iW j q=true:=by{simp[iW,k]};rw[A0 r];intro B;refine(AIm g c B).mono ?_;rintro v ah⟨C,ae,rfl,c⟩;have⟨af,c⟩:=AIk c;refine⟨C,ae,rfl,?_,u _ _ _ _ _ c (g.put hd) (w v) o⟩;intro s f ag;rcases o s f with l|⟨p,H,l,I⟩;{exact l C};exact I C (af _ (Bm.2 ⟨p,Fk.2 ⟨H,by rw[l];exact ag⟩,rfl⟩))};rw[A0 (by rw[z];simp)];exact u _ _ _ _ _ c (g.put hd) (w undef) o
theorem uJ{P:Q1}{A:ai}{f4:Nat}{ops:Array Oper}{ord:Nat->Nat->Bool}(n:∀o p q,Fits f4 o p->UI (dstsOf ops.toList) bd o->ee p q->ez o q):∀(f:Nat)(l:List Nat)(c:Env)(d:Q)(a:Act)(e:List (Nat×(Q->Prop)))(g:List (Nat×(Q->Prop))),mL A P f4 ops ord ee f l c d e->Fits f4 a c->UI (dstsOf ops.toList) bd a->uI e g->FT P A ops (iW P) ord ez f l a d g|_,[],c,d,a,e,g,b,h,j,_=>by unfold mL at b;unfold FT;exact n a c d h j b|0,_::_,c,d,a,e,g,b,_,_,_=>b.elim|f+1,x::l,c,d,a,e,g,b,h,j,m=>by unfold mL at b;unfold FT;split;{rename_i i hi;rw[hi]at b;exact ABi (λc d a e g b h j m=>uJ (P:=P) (A:=A) (f4:=f4) (ops:=ops) (ord:=ord) n f _ c d a e g b h j m) b h j m};rename_i hi;rw[hi]at b;intro i r s;exact ABi (λc d a e g b h j m=>uJ (P:=P) (A:=A) (f4:=f4) (ops:=ops) (ord:=ord) n f _ c d a e g b h j m) (AIN b i (Fk.2 ⟨r,s⟩)) h j m
def oL(c:ai)(b:Q1)(d:Nat)(a:Array Oper)(h:Bool)(e:Env)(f:Q)(g:Env->Q->Prop):Prop:=match h with|false=>XU c b d a a.toList e f g|true=>match rh a (iW b) (ya a)with|true=>mL c b d a (ya a) g a.size (List.range a.size) e f []|false=>False
theorem AJE{m:Nat}{f8:Exit->Act->World->Prop}(u:x.follows .mixedOrders=Y)(j:oL d x b b6 al bw a ee)(s:Fits b bd bw)(t:∀c g i l,Fits b c g->UI (dstsOf b6.toList) bd c->ee g i->f8 .normal c (d.at i l)):(Code.region f b6 al).wpIn (Fw b1) m x f8 bd (d.at a n):=by unfold oL at j;cases al with|false=>exact wpIn_region_list (ADa _ _ _ _ _ j s t)|true=>simp[]at j;split at j;{rename_i v;refine ACk (f8:=λc i=>∃g,Fits b c g/\UI (dstsOf b6.toList) bd c/\ee g i) ?_ u v (uJ (λc g i o p q=>⟨g,o,p,q⟩) _ _ bw a bd [] [] j s (UI.refl _ _) (λ_ w=>by cases w));rintro c i l⟨g,o,p,q⟩;exact t c g i l o p q};exact j.elim
inductive Lv where
 |one (s:Sc)
 |agg (l:List Sc)
def iD:List Sc->Type|[]=>Unit|s::l=>s.Ty×iD l
def jD:(l:List Sc)->iD l->List J0|[],_=>[]|s::l,x=>s.val x.1::jD l x.2
def Lv.Ty:Lv->Type|.one s=>s.Ty|.agg l=>iD l
def Lv.val:(v:Lv)->v.Ty->J0|.one s,x=>s.val x|.agg l,x=>.agg (jD l x).toArray
def Sc.un(a:J0):(s:Sc)->(s.Ty->Prop)->Prop|.int d,K=>(match a with|.int e f=>(match decide (e=d)with|true=>K f|false=>False)|_=>False)|.bool,K=>(match a with|.bool b=>K b|_=>False)|.str,K=>(match a with|.string s=>K s|_=>False)|.ptr,K=>(match a with|.pointer p=>K p|_=>False)|.sl,K=>(match a with|.slice p l c=>K ⟨p,l,c⟩|_=>False)|.map,K=>(match a with|.map r=>K r|_=>False)|.any,K=>K a
theorem ZR:∀{s:Sc}{K:s.Ty->Prop},s.un r K->∃x,r=s.val x/\K x|.int c,K,a=>by cases r<;>simp only[Sc.un]at a;rename_i d b;split at a;{rename_i hd;have hd:=A5 hd;subst hd;exact⟨b,rfl,a⟩};exact a.elim|.bool,K,a=>by cases r<;>simp only[Sc.un]at a;exact⟨_,rfl,a⟩|.str,K,a=>by cases r<;>simp only[Sc.un]at a;exact⟨_,rfl,a⟩|.ptr,K,a=>by cases r<;>simp only[Sc.un]at a;exact⟨_,rfl,a⟩|.sl,K,a=>by cases r<;>simp only[Sc.un]at a;exact⟨_,rfl,a⟩|.map,K,a=>by cases r<;>simp only[Sc.un]at a;exact⟨_,rfl,a⟩|.any,K,a=>⟨r,rfl,a⟩
def uO:(l:List Sc)->List J0->(iD l->Prop)->Prop|[],[],K=>K ()|s::l,v::a,K=>s.un v λx=>uO l a λb=>K (x,b)|[],_::_,_=>False|_::_,[],_=>False
theorem ADL:∀{l:List Sc}{c:List J0}{K:iD l->Prop},uO l c K->∃b,c=jD l b/\K b|[],[],_,a=>⟨(),rfl,a⟩|s::l,v::c,K,a=>by obtain⟨x,d,e⟩:=ZR a;obtain⟨b,f,g⟩:=ADL e;exact⟨(x,b),by rw[d,f];rfl,g⟩|[],_::_,_,a=>a.elim|_::_,[],_,a=>a.elim
def Lv.un(a:J0):(b:Lv)->(b.Ty->Prop)->Prop|.one s,K=>s.un a K|.agg l,K=>match a with|.agg c=>uO l c.toList K|_=>False
theorem AHV:∀{b:Lv}{K:b.Ty->Prop},b.un r K->∃x,r=b.val x/\K x|.one s,K,a=>ZR a|.agg l,K,a=>by cases r<;>simp only[Lv.un]at a;rename_i e;obtain⟨c,d,a⟩:=ADL a;refine⟨c,?_,a⟩;simp[Lv.val];rw[<-d]
abbrev Live:=List (Nat×Lv)
def iE:Live->Type|[]=>Unit|x::r=>x.2.Ty×iE r
def Yl:(b:Live)->Env->(iE b->Prop)->Prop|[],_,K=>K ()|x::r,a,K=>match a.get x.1 with|some v=>x.2.un v λc=>Yl r a λd=>K (c,d)|none=>False
def Ol:(b:Live)->iE b->Nat->Option J0|[],_,_=>V|x::r,a,t=>bif Nat.beq t x.1 then Z (x.2.val a.1)else Ol r a.2 t
def lG(a:Nat):List Nat->Bool|[]=>U|x::r=>bif Nat.beq a x then Y else lG a r
def Ij(a:Live)(c:List Nat)(b:Env)(d:iE a):Env:={get:=λt=>match Ol a d t with|some v=>Z v|none=>bif lG t c then V else b.get t,ds:=b.ds}
theorem uP:∀{l:List Nat},lG b l=Y↔b∈l|[]=>by simp[lG]|x::r=>by unfold lG;by_cases a:b=x;{subst a;simp};rw[Wt a];simp[cond_false,AS,a,false_or];exact uP
theorem LX:∀{c:Live}{K:iE c->Prop},Yl c bw K->∃b,(∀t v,Ol c b t=Z v->bw.get t=Z v)/\K b|[],K,a=>⟨(),λ_ _ d=>(by cases d),a⟩|(f,g)::r,K,a=>by unfold Yl at a;split at a;{rename_i v j;obtain⟨x,k,h⟩:=AHV a;have⟨b,l,i⟩:=LX h;refine⟨(x,b),λt v d=>?_,i⟩;change(bif Nat.beq t f then Z (g.val x)else Ol r b t)=Z v at d;by_cases m:t=f;{simp_all};simp_all[Wt]};exact a.elim
variable{eb:Live}
theorem AKs{a:iE eb}(c:(Ij eb bz bw a).get b=Z r):Ol eb a b=Z r\/(Ol eb a b=V/\b∉bz/\bw.get b=Z r):=by grind[Ij,lG,uP]
theorem AJx{a c:iE eb}(d:Ol eb a b=V):Ol eb c b=none:=by induction eb with|nil=>rfl|cons x r e=>grind[Ol,Wt]
structure Hm (f9:List Nat) (nd:Bool) (a a':Act):Prop where
 get: ∀t,t∉f9->a'.tmps[t]? =a.tmps[t]?
 ds:nd=Y->a'.defers=a.defers
def Hm.refl{b:List Nat}{c:Bool}{a:Act}:Hm b c a a:=⟨λ_ _=>rfl,λ_=>rfl⟩
theorem Hm.trans{d:List Nat}{e:Bool}{f:Act}(g:Hm bz al bd d5)(h:Hm dj ex d5 f)(k:∀t∈bz,t∈d)(l:∀t∈dj,t∈d)(i:e=Y->al=Y/\ex=Y):Hm d e bd f:=⟨λt j=>(h.get t λc=>j (l t c)).trans (g.get t λc=>j (k t c)),λc=>(h.ds (i c).2).trans (g.ds (i c).1)⟩
theorem Hm.af(d:Hm bz al bd d5)(e:∀t∈bz,t∈dj)(f:ex=Y->al=Y):Hm dj ex bd d5:=⟨λt g=>d.get t λc=>g (e t c),λc=>d.ds (f c)⟩
theorem Fits.join{d:Env}(f:Fits b bd bw)(g:Fits b d5 d)(j:al=Y)(h:Hm bz al bd d5){i:iE eb}(k:∀t v,Ol eb i t=Z v->d.get t=Z v):Fits b d5 (Ij eb bz bw i):=by refine⟨g.size,λt v l=>?_,(h.ds j).trans f.ds⟩;rcases AKs l with c|⟨_,m,c⟩;{exact g.get t v (k t v c)};rw[h.get t m];exact f.get t v c
theorem Fits.again{c:Env}{j d:iE eb}(f:Fits b bd (Ij eb bz bw j))(g:Fits b d5 c)(k:al=Y)(h:Hm bz al bd d5)(l:∀t v,Ol eb d t=Z v->c.get t=Z v):Fits b d5 (Ij eb bz bw d):=by refine⟨g.size,λt v m=>?_,(h.ds k).trans f.ds⟩;rcases AKs m with i|⟨o,n,i⟩;{exact g.get t v (l t v i)};rw[h.get t n];refine f.get t v ?_;grind[Ij,AJx,lG,absurd,uP]
inductive fy where
 |none
 |sY (f1:Live)
 |seq (x y:fy)
 |kU (f1:Live) (x y:fy)
 |cond (x y:fy)
 |block (x:fy)
 |fY (f1:Live) (x:fy)
 |loop (f1:Live) (x:fy)
 |range (ps:List Lv) (x y:fy)
 |scope (f1:Live) (x y z:fy)
def writes:Code->List Nat|.region _ c _=>dstsOf c.toList|.seq a b=>writes a++writes b|.cond _ a b=>writes a++writes b|.block _ a=>writes a|.loop a=>writes a|.scope a=>writes a|_=>[]
def Ii:Code->Bool|.rangeFunc ..=>U|.seq a b=>Ii a&&Ii b|.cond _ a b=>Ii a&&Ii b|.block _ a=>Ii a|.loop a=>Ii a|.scope a=>Ii a|_=>Y
inductive jE where
 |ae (i:Nat)
 |fC (l:Nat)
def mR:Option Nat->Code|none=>.ret|some id=>.exit id
def iY:List Lv->Type|[]=>Unit|lv::l=>lv.Ty×iY l
def mS:(l:List Lv)->iY l->List J0|[],_=>[]|lv::l,x=>lv.val x.1::mS l x.2
theorem ABC:∀(l:List Lv)(x:iY l),J (mS l x)=J l|[],_=>rfl|_::l,x=>by simp[mS,ABC l x.2]
def lH:Env->List Tmp->List J0->Env|e,p::ps,v::a=>lH (e.set p v) ps a|e,_,_=>e
def VD(l:ai)(h:Q1)(o:J0)(e:List Lv)(p:iY e->Nat->Q->(Q->Prop)->(Option Nat->Q->Prop)->Prop)(a:Q)(q:Q->Prop)(r:Option Nat->Q->Prop):Prop:=∀(rec:Go.Loop),rec.state=.ready->rec.pending=V->rec.params.size=J e->(∀(x:iY e)(i:Q)(j:A3U),i[a.size+1]?=Z (.loop rec)->p x (a.size+1) i (λc=>∃d,c[a.size+1]?=Z (.loop d)/\j (.bool Y) (c.setIfInBounds (a.size+1) (.loop {d with state:=.ready,pending:=V}))) (λg c=>∃d,c[a.size+1]?=Z (.loop d)/\j (.bool U) (c.setIfInBounds (a.size+1) (.loop {d with state:=.done,pending:=Z (mR g)})))->JB l h (.func (.yield (a.size+1)) #[] #[]) (mS e x).toArray i j)->∃f m,Tu h (do let n<-Deferred.ofValue o #[.func (.yield (a.size+1)) #[] #[]];invoke n.target n.args:Sem Next) (λx=>x=.enter f m)/\AJ l h f m ((a.push (.deferred (Z []))).push (.loop rec)) λ_ k=>∃b,k[a.size+1]?=Z (.loop b)/\b.state≠.busy/\((b.pending=V/\q (k.setIfInBounds (a.size+1) (.loop {b with state:=.exhausted})))\/∃g,b.pending=Z (mR g)/\r g (k.setIfInBounds (a.size+1) (.loop {b with state:=.exhausted})))
def Hq(n:ai)(o:Q1)(q:Nat)(s:Bool):Code->fy->Env->Q->(Env->Q->Prop)->(jE->Env->Q->Prop)->(Env->Q->Prop)->Prop|.skip,_,d,e,k,_,_=>k d e|.exit id,_,d,e,_,kb,_=>kb (.ae id) d e|.ret,_,d,e,_,_,m=>m d e|.label _,_,d,e,k,_,_=>k d e|.goto l,_,d,e,_,kb,_=>kb (.fC l) d e|.region _ A y,t,d,e,k,_,_=>(match t with|.sY r=>fP (λj e=>k (Ij r (dstsOf A.toList) d j) e) λK=>oL n o q A y d e λh g=>Yl r h λj=>K j g|_=>oL n o q A y d e k)|.seq a b,t,d,e,k,kb,m=>(match t with|.seq x w=>Hq n o q s a x d e (λd e=>Hq n o q s b w d e k kb m) kb m|.kU r x w=>(match Ii a with|true=>fP (λj e=>Hq n o q s b w (Ij r (writes a) d j) e k kb m) λK=>Hq n o q s a x d e (λh g=>Yl r h λj=>K j g) kb m|false=>False)|_=>False)|.cond c p H,t,d,e,k,kb,m=>(match t with|.cond x w=>(rd d c λv=>match v with|.bool b=>cX b (Hq n o q s p x d e k kb m) (Hq n o q s H w d e k kb m)|_=>False)|_=>False)|.block id c,t,d,e,k,kb,m=>(match t with|.block x=>Hq n o q s c x d e k (λu h g=>match u with|.ae i=>(match Nat.beq i id with|true=>k h g|false=>kb (.ae i) h g)|.fC l=>kb (.fC l) h g) m|.fY r x=>(match Ii c with|true=>fP (λj e=>k (Ij r (writes c) d j) e) λK=>Hq n o q s c x d e (λh g=>Yl r h λj=>K j g) (λu h g=>match u with|.ae i=>(match Nat.beq i id with|true=>Yl r h λj=>K j g|false=>kb (.ae i) h g)|.fC l=>kb (.fC l) h g) m|false=>False)|_=>False)|.loop c,t,d,e,_,kb,m=>(match t with|.loop r x=>(match Ii c with|true=>Yl r d λj=>Loop (λK j e=>Hq n o q s c x (Ij r (writes c) d j) e (λh g=>Yl r h λj=>K j g) kb m) j e|false=>False)|_=>False)|.rangeFunc f ps I c,t,d,e,k,kb,m=>(match t with|.range B x w=>(match(!s)&&Nat.beq (J B) ps.size&&ps.toList.all λp=>Nat.blt p q with|true=>rd d f λfv=>VD n o fv B (λargs l P R F=>Hq n o q Y I x (lH {get:=d.get,ds:=[]} ps.toList (mS B args)) P (λh g=>∃C,g[l]?=Z (.loop C)/\C.state=.ready/\Hq n o q Y c w h (g.setIfInBounds l (.loop {C with state:=.busy})) (λ_ z=>R z) (λu _ z=>match u with|.ae i=>F (Z i) z|.fC _=>False) (λ_ z=>F V z)) (λ_ _ _=>False) (λ_ _=>False)) e (λg=>k {get:=d.get,ds:=e.size::d.ds} g) (λu g=>match u with|none=>m {get:=d.get,ds:=e.size::d.ds} g|some i=>kb (.ae i) {get:=d.get,ds:=e.size::d.ds} g)|false=>False)|_=>False)|.scope (.seq b (.seq c (.seq (.label l) y))),t,d,e,k,kb,m=>(match t with|.scope r S x w=>(match((findLabel b l).isNone&&(findLabel c l).isNone)&&(Ii b&&(Ii c&&Ii y))with|true=>Hq n o q s b S d e (λd e=>Hq n o q s c x d e (λh g=>Yl r h λj=>Loop (λK j e=>Hq n o q s y w (Ij r (writes c++writes y) d j) e k (λu h g=>match u with|.ae i=>kb (.ae i) h g|.fC X=>match Nat.beq X l with|true=>Yl r h λj=>K j g|false=>False) m) j g) (λu h g=>match u with|.ae i=>kb (.ae i) h g|.fC _=>False) m) (λu h g=>match u with|.ae i=>kb (.ae i) h g|.fC _=>False) m|false=>False)|_=>False)|_,_,_,_,_,_,_=>False
def places:Code->Nat|.seq a b=>places a+places b+1|.cond _ a b=>places a+places b+1|.block _ a=>places a+1|.loop a=>places a+1|.rangeFunc _ _ a b=>places a+places b+1|.scope a=>places a+1|_=>1
def Zj(a:Nat):List (Nat×Live)->Option Live|[]=>V|x::r=>bif Nat.beq a x.1 then Z x.2 else Zj a r
def R4(m:List (Nat×Live)):Code->Nat->fy|.region _ _ _,d=>(match Zj d m with|some e=>.sY e|none=>.none)|.seq a b,d=>(match Zj d m with|some e=>.kU e (R4 m a (d+1)) (R4 m b (d+1+places a))|none=>.seq (R4 m a (d+1)) (R4 m b (d+1+places a)))|.cond _ a b,d=>.cond (R4 m a (d+1)) (R4 m b (d+1+places a))|.block _ a,d=>(match Zj d m with|some e=>.fY e (R4 m a (d+1))|none=>.block (R4 m a (d+1)))|.loop a,d=>.loop ((Zj d m).getD []) (R4 m a (d+1))|.rangeFunc _ _ a b,d=>.range (((Zj d m).getD []).map Prod.snd) (R4 m a (d+1)) (R4 m b (d+1+places a))|.scope (.seq b (.seq c (.seq _ f))),d=>.scope ((Zj d m).getD []) (R4 m b (d+2)) (R4 m c (d+3+places b)) (R4 m f (d+5+places b+places c))|_,_=>.none
def dD(e:ai)(f:Nat)(g:List Nat)(h:Bool)(i:Act)(j:Env->Q->Prop)(d:jE->Env->Q->Prop)(k:Env->Q->Prop):Exit->Act->World->Prop:=λx a w=>∃b c m,w=e.at c m/\Fits f a b/\Hm g h i a/\(match x with|.normal=>j b c|.exit id=>d (.ae id) b c|.goto l=>d (.fC l) b c|.ret=>k b c|_=>False)
theorem dD.mono{g:Env->Q->Prop}{h j:jE->Env->Q->Prop}{k l:Env->Q->Prop}(n:∀t∈bz,t∈dj)(o:ex=Y->al=Y)(p:∀c e,ee c e->g c e)(m:∀i c e,h i c e->j i c e)(q:∀c e,k c e->l c e){x:Exit}(r:dD d b bz al bd ee h k x d5 a9):dD d b dj ex bd g j l x d5 a9:=by obtain⟨c,e,s,u,v,y,f⟩:=r;refine⟨c,e,s,u,v,y.af n o,?_⟩;cases x<;>simp only at f⊢;{exact p _ _ f};{exact m _ _ _ f};{exact m _ _ _ f};exact q _ _ f
def oO(a:Fence)(i:Nat)(d:Q1)(j:Code)(k:Exit->Act->World->Prop)(l:Act)(m:World):Prop:=∀(b:Frame)(e:List Item)(c:List Frame),b.roundOf=a.round->a.fn b.fn->a.room (J c+1+i)->∃f g h,k f g h/\ArrivesIn (Machine.fenced d a) d (lone (b.atR l (.inLoop j::e)) c m) b e c f g h
theorem AIC(s:cx.wpIn ev b x (Exit.then (oO ev b x cx c0) c0) bd a9)(d:Frame)(j:List Item)(g:List Frame)(m:d.roundOf=ev.round)(o:ev.fn d.fn)(p:ev.room (J g+1+b)):∃k q r,c0 k q r/\ArrivesIn (Machine.fenced x ev) x (lone (d.atR bd (.code cx::.inLoop cx::j)) g a9) d j g k q r:=by obtain⟨k,h,i,e,f⟩:=s d (.inLoop cx::j) g m o p;cases k with|normal=>obtain⟨t,u,v,y,z⟩:=e d j g m o p;exact⟨t,u,v,y,.of_steps f z⟩|exit id=>exact⟨_,h,i,e,.pass rfl (λ_ _=>.inl (by simp)) f⟩|goto l=>exact⟨_,h,i,e,.pass rfl (λ_ _=>.inl (by simp)) f⟩|ret=>exact⟨_,h,i,e,.pass rfl (λ_ _=>.inl (by simp)) f⟩|panic A=>exact⟨_,h,i,e,.pass rfl (λ_ _=>.inl (by simp)) f⟩|outgrown=>exact⟨_,h,i,e,.pass rfl (λ_ _=>.inl (by simp)) f⟩
def ALG(g:cx.wpIn ev f x (Exit.then (oO ev f x cx c0) c0) bd a9):oO ev f x cx c0 bd a9:=λb h i j d e=>let⟨k,l,m,o,p⟩:=AIC g b h i j d e;⟨k,l,m,o,.of_steps (.one (fenced_calm d e rfl) stepR_inLoop) p⟩
def AJF(g:cx.wpIn ev f x (Exit.then (oO ev f x cx c0) c0) bd a9):(Code.loop cx).wpIn ev f x c0 bd a9:=λb h i j d e=>let⟨k,l,m,o,p⟩:=AIC g b h i j d e;⟨k,l,m,o,.of_steps (.one (fenced_calm d e rfl) stepR_loop) p⟩
def oP(a:Fence)(i:Nat)(d:Q1)(j k:Code)(l:Exit->Act->World->Prop)(m:Act)(n:World):Prop:=∀(b:Frame)(e:List Item)(c:List Frame),b.roundOf=a.round->a.fn b.fn->a.room (J c+1+i)->∃f g h,l f g h/\ArrivesIn (Machine.fenced d a) d (lone (b.atR m (.code k::.inScope j::e)) c n) b e c f g h
def qQ(b:Nat)(c:Act->World->Prop)(d:Exit->Act->World->Prop):Exit->Act->World->Prop|.goto f,a,w=>f=b/\c a w|e,a,w=>d e a w
theorem AHE{b:Frame}{d:List Item}{e:List Frame}:step x (lone (b.atR bd (.inScope cx::d)) e a9)=.next (lone (b.atR bd d) e a9):=step_lone_go (by simp[stepG,stepG.exec,Frame.atR])
theorem AK6{b:Frame}{d:List Item}{e:List Frame}:step x (lone (b.atR bd (.code (.scope cx)::d)) e a9)=.next (lone (b.atR bd (.code cx::.inScope cx::d)) e a9):=step_lone_go (by simp[stepG,stepG.exec,Frame.atR])
theorem AE1{j:Q1}{x:Code}(s:findLabel cx n=Z d4)(t:x.wpIn ev f j (qQ n (oP ev f j cx d4 c0) c0) bd a9):oP ev f j cx x c0 bd a9:=by
 intro b e p q k m;have u:gotoIn n (.inScope cx::e)=Z (.code d4::.inScope cx::e):=by simp[gotoIn,s]
 obtain⟨v,h,i,g,d⟩:=t b (.inScope cx::e) p q k m;cases v with|normal=>exact⟨.normal,h,i,g,StepsIn.trans d (.one (fenced_calm k m rfl) AHE)⟩|exit id=>have r:exitTo id (.inScope cx::e)=exitTo id e:=by{simp[exitTo]};exact⟨.exit id,h,i,g,λy o=>d.1 y (by rw[r];exact o),λz o=>d.2 z (by rw[r];exact o)⟩|goto P=>obtain⟨rfl,A⟩:=g;obtain⟨B,C,H,I,K⟩:=A b e p q k m;exact⟨B,C,H,I,.of_steps (d.1 _ u) K⟩|ret=>exact⟨_,h,i,g,d⟩|panic R=>exact⟨_,h,i,g,d⟩|outgrown=>exact⟨_,h,i,g,d⟩
def AHL(g:findLabel cx n=Z d4)(h:cx.wpIn ev f x (qQ n (oP ev f x cx d4 c0) c0) bd a9):(Code.scope cx).wpIn ev f x c0 bd a9:=λb i j k d e=>let⟨m,o,p,q,r⟩:=AE1 g h b i j k d e;⟨m,o,p,q,.of_steps (.one (fenced_calm d e rfl) AK6) r⟩
theorem UI.g(b:UI bz bd d5):Hm bz al bd d5:=⟨b.get,λ_=>b.ds⟩
theorem AWg(b:ai)(a:Q)(c:Nat):(b.at a c).heap=a:=rfl
theorem run_getLoop{rec:Go.Loop}(c:a[f]?=Z (.loop rec)):(Instr.getLoop f).run x (d.at a b)=.ok rec (d.at a b):=by simp[Instr.getLoop,Sem.run_bind,getObj,Sem.run,AWg,c]
theorem Zr{rec:Go.Loop}(c:a[f]?=Z (.loop rec)):(setObj f c5).run x (d.at a b)=.ok () (d.at (a.setIfInBounds f c5) b):=by simp[setObj,Sem.run,c,ai.at]
theorem run_beginRound{rec:Go.Loop}(c:a[f]?=Z (.loop rec))(e:rec.state=.ready):(Instr.beginRound f).run x (d.at a b)=.ok () (d.at (a.setIfInBounds f (.loop {rec with state:=.busy})) b):=by simp[Instr.beginRound,Sem.run_bind,run_getLoop c,Zr c,e]
theorem run_endRound{rec:Go.Loop}{c:Option Code}(e:a[f]?=Z (.loop rec)):(Instr.endRound f c).run x (d.at a b)=.ok (.bool c.isNone) (d.at (a.setIfInBounds f (.loop {rec with state:=if c.isNone then .ready else .done,pending:=c})) b):=by simp[Instr.endRound,Sem.run_bind,run_getLoop e,Zr e]
theorem run_endLoop{rec:Go.Loop}(c:a[f]?=Z (.loop rec))(e:rec.state≠.busy):(Instr.endLoop f).run x (d.at a b)=.ok rec.pending (d.at (a.setIfInBounds f (.loop {rec with state:=.exhausted})) b):=by simp_all[Instr.endLoop,Sem.run_bind,run_getLoop,Zr,A4]
theorem AHx{fn:Q8}{tmps:Array J0}{c:Array Tmp}{body:Code}:(Instr.enterLoop fn tmps c cx body V).run x (d.at a b)=.ok (a.size+1,[mB a.size]) (d.at ((a.push (.deferred (Z []))).push (.loop {state:=.ready,pending:=V,fn,tmps,params:=c,assign:=cx,body,defers:=a.size})) b):=by simp[Instr.enterLoop,Sem.run_bind,newObj,Sem.run,ai.at,mB];rfl
theorem AGN:∀(ps:List Tmp)(d:List J0)(e:Env)(tmps:Array J0),(∀p∈ps,p<b)->Fits b {tmps:=tmps,defers:=[]} e->Fits b {tmps:=(ps.zip d).foldl (λtmps(t,a)=>tmps.setIfInBounds t a) tmps,defers:=[]} (lH e ps d)|[],_,_,_,_,c=>by simpa[lH]using c|_::_,[],_,_,_,c=>by simpa[lH]using c|p::ps,v::d,e,tmps,f,c=>AGN ps d (e.set p v) (tmps.setIfInBounds p v) (λg h=>f g (CM _ h)) (c.set (f p FG))
def oQ(e:Q1)(c:ai)(d:Nat)(b:Code):Prop:=∀(m:Nat)(f:Bool)(r:Option Nat)(k:fy)(g:Env)(h:Q)(i:Env->Q->Prop)(kb:jE->Env->Q->Prop)(j:Env->Q->Prop)(a:Act)(l:Nat),(f=U->r=V)->Hq c e d f b k g h i kb j->Fits d a g->b.wpIn (Fw r) m e (dD c d (writes b) (Ii b) a i kb j) a (c.at h l)
theorem AM4{ai:Code}(ax:oQ x d b cx)(M:oQ x d b d4){m:Nat}{aj ak:fy}{z:jE->Env->Q->Prop}{s:Env->Q->Prop}{B:Act->World->Prop}(O:al=U->b1=V)(az:findLabel ai f=Z (.seq .skip d4))(aA:Ii cx=Y)(aB:Ii d4=Y)(aC:Hq d x b al cx aj bw a (λo p=>Yl eb o λg=>Loop (λK g a=>Hq d x b al d4 ak (Ij eb (writes cx++writes d4) bw g) a ee (λC o p=>match C with|.ae i=>z (.ae i) o p|.fC F=>match Nat.beq F f with|true=>Yl eb o λg=>K g p|false=>False) s) g p) (λC o p=>match C with|.ae i=>z (.ae i) o p|.fC _=>False) s)(an:Fits b d5 bw)(ao:∀j,Hm (writes cx++writes d4) Y d5 j->Hm bz ex bd j)(u:dD d b bz ex bd ee z s=c0)(aD:B=oP (Fw b1) m x ai (.seq .skip d4) c0):(Code.seq cx (.seq (.label f) d4)).wpIn (Fw b1) m x (qQ f B c0) d5 (d.at a n):=by have aE:∀t∈writes cx,t∈writes cx++writes d4:=λt H=>AN.2 (.inl H);have aF:∀t∈writes d4,t∈writes cx++writes d4:=λt H=>AN.2 (.inr H);let aG:iE eb->Q->Prop:=λg I=>∀j R,Fits b j (Ij eb (writes cx++writes d4) bw g)->Hm (writes cx++writes d4) Y d5 j->d4.wpIn (Fw b1) m x (qQ f B c0) j (d.at I R);refine wpIn_seq (wpIn_mono (ax m al b1 aj bw a _ _ s d5 n O aC an) ?_);rintro S X aV⟨ap,aq,N,rfl,ac,aH,q⟩;have ae:Hm (writes cx++writes d4) Y d5 X:=aH.af aE (λ_=>aA);have ar:=ao X ae;cases S with|normal=>{obtain⟨g,aI,aJ⟩:=LX q;refine wpIn_seq (wpIn_label ?_);have aK:=aJ aG ?_;{exact aK X N (an.join ac rfl ae aI) ae};intro g I aL j R au aM;refine wpIn_mono (M m al b1 ak _ I _ _ s j R O aL au) ?_;rintro S v aW⟨af,ag,w,rfl,y,aO,k⟩;have av:Hm (writes cx++writes d4) Y j v:=aO.af aF (λ_=>aB);have aw:Hm (writes cx++writes d4) Y d5 v:=aM.trans av (λ_ a=>a) (λ_ a=>a) (λ_=>⟨rfl,rfl⟩);have ah:=ao v aw;cases S with|normal=>rw[<-u];exact⟨af,ag,w,rfl,y,ah,k⟩|exit i=>rw[<-u];exact⟨af,ag,w,rfl,y,ah,k⟩|goto F=>simp only at k;split at k;{rename_i aP;have aQ:=N3 aP;subst aQ;obtain⟨aX,aR,aS⟩:=LX k;refine⟨rfl,?_⟩;have hd:=aS v w (au.again y rfl av aR) aw;rw[aD]at hd⊢;exact AE1 az (wpIn_seq (wpIn_skip hd))};exact k.elim|ret=>rw[<-u];exact⟨af,ag,w,rfl,y,ah,k⟩|panic aU=>exact k.elim|outgrown=>exact k.elim}|exit i=>rw[<-u];exact⟨ap,aq,N,rfl,ac,ar,q⟩|goto F=>exact q.elim|ret=>rw[<-u];exact⟨ap,aq,N,rfl,ac,ar,q⟩|panic aU=>exact q.elim|outgrown=>exact q.elim
theorem AMt{g:Code}(af:oQ x d b cx)(ag:oQ x d b d4)(ah:oQ x d b g){m:Nat}{z ai aj:fy}{q:jE->Env->Q->Prop}{o:Env->Q->Prop}(B:al=U->b1=V)(ak:(findLabel cx f).isNone=Y)(O:(findLabel d4 f).isNone=Y)(an:Ii cx=Y)(ao:Ii d4=Y)(ap:Ii g=Y)(aq:Hq d x b al cx z bw a (λbw a=>Hq d x b al d4 ai bw a (λj k=>Yl eb j λs=>Loop (λK s a=>Hq d x b al g aj (Ij eb (writes d4++writes g) bw s) a ee (λu j k=>match u with|.ae i=>q (.ae i) j k|.fC C=>match Nat.beq C f with|true=>Yl eb j λs=>K s k|false=>False) o) s k) (λu j k=>match u with|.ae i=>q (.ae i) j k|.fC _=>False) o) (λu j k=>match u with|.ae i=>q (.ae i) j k|.fC _=>False) o)(ar:Fits b bd bw):(Code.scope (.seq cx (.seq d4 (.seq (.label f) g)))).wpIn (Fw b1) m x (dD d b (writes (.scope (.seq cx (.seq d4 (.seq (.label f) g))))) (Ii (.scope (.seq cx (.seq d4 (.seq (.label f) g))))) bd ee q o) bd (d.at a n):=by
 have au:findLabel cx f=none:=by simpa using ak
 have av:findLabel d4 f=none:=by simpa using O
 have F:findLabel (.seq cx (.seq d4 (.seq (.label f) g))) f=Z (.seq .skip g):=by simp[findLabel,au,av]
 have aw:Ii (.scope (.seq cx (.seq d4 (.seq (.label f) g))))=true:=by grind[Ii]
 have H:∀t∈writes cx,t∈writes (.scope (.seq cx (.seq d4 (.seq (.label f) g)))):=λt ax=>by simp_all[writes,AN]
 have I:∀t∈writes d4++writes g,t∈writes (.scope (.seq cx (.seq d4 (.seq (.label f) g)))):=λt ax=>by simp_all[AN,writes]
 generalize aD:writes (.scope (.seq cx (.seq d4 (.seq (.label f) g))))=R at H I⊢;rw[aw];generalize v:dD d b R Y bd ee q o=M;obtain⟨S,X⟩:∃S:Act->World->Prop,S=oP (Fw b1) m x (.seq cx (.seq d4 (.seq (.label f) g))) (.seq .skip g) M:=⟨_,rfl⟩;refine AHL F ?_;rw[<-X];refine wpIn_seq (wpIn_mono (af m al b1 z bw a _ _ o bd n B aq ar) ?_);rintro az aA aE⟨N,ac,ae,rfl,w,aB,p⟩;have y:Hm R Y bd aA:=aB.af H λ_=>an;cases az with|normal=>exact AM4 ag ah B F ao ap p w (λaF aC=>y.trans aC (λ_ a=>a) I λ_=>⟨rfl,rfl⟩) v X|exit i=>rw[<-v];exact⟨N,ac,ae,rfl,w,y,p⟩|goto C=>exact p.elim|ret=>rw[<-v];exact⟨N,ac,ae,rfl,w,y,p⟩|panic aG=>exact p.elim|outgrown=>exact p.elim
theorem AMN{N:Q1}(bf:N.follows .mixedOrders=Y):∀(aM:Nat)(c:Code),SizeOf.sizeOf c<aM->∀(m:Nat)(F:Bool)(r:Option Nat)(P:fy)(k:Env)(e:Q)(u:Env->Q->Prop)(kb:jE->Env->Q->Prop)(y:Env->Q->Prop)(a:Act)(h:Nat),(F=U->r=V)->Hq d N n F c P k e u kb y->Fits n a k->c.wpIn (Fw r) m N (dD d n (writes c) (Ii c) a u kb y) a (d.at e h):=by intro aM;induction aM with|zero=>intro c al;omega|succ aM ah=>intro c al;cases c with|skip=>intro m F r P k e u kb y a h _ g o;exact wpIn_skip ⟨k,e,h,rfl,o,Hm.refl,g⟩|exit id=>intro m F r P k e u kb y a h _ g o;exact wpIn_exit ⟨k,e,h,rfl,o,Hm.refl,g⟩|ret=>intro m F r P k e u kb y a h _ g o;exact wpIn_ret ⟨k,e,h,rfl,o,Hm.refl,g⟩|label l=>intro m F r P k e u kb y a h _ g o;exact wpIn_label ⟨k,e,h,rfl,o,Hm.refl,g⟩|goto l=>intro m F r P k e u kb y a h _ g o;exact wpIn_goto ⟨k,e,h,rfl,o,Hm.refl,g⟩|refuse af=>intro m F r P k e u kb y a h _ g o;simp[Hq]at g|region id av ai=>{intro m F r P k e u kb y a h _ g o;have plain:∀aj,(∀aD aw ao aE,Fits n aD aw->UI (dstsOf av.toList) a aD->aj aw ao->dD d n (writes (.region id av ai)) (Ii (.region id av ai)) a u kb y .normal aD (d.at ao aE))->oL d N n av ai k e aj->(Code.region id av ai).wpIn (Fw r) m N (dD d n (writes (.region id av ai)) (Ii (.region id av ai)) a u kb y) a (d.at e h):=λaj bg bh=>AJE bf bh o bg;cases P with|sY ap=>simp[Hq]at g;refine plain _ ?_ (g _ (λ_ _ e=>e));intro aD aw ao aE aV aA X;obtain⟨aq,z,ac⟩:=LX X;exact⟨_,ao,aE,rfl,o.join aV rfl (aA.g) z,aA.g,ac⟩|_=>exact plain u (λaD aw ao aE aV aA X=>⟨aw,ao,aE,rfl,aV,aA.g,X⟩) g}|seq x af=>{have aF:=ah x (by simp at al;omega);intro m F r P k e u kb y a h ak g o;have tail:∀(aj:Env->Q->Prop)(aW aX:fy),Hq d N n F x aW k e aj kb y->(∀q j s,Fits n q j->Hm (writes x) (Ii x) a q->aj j s->∃H,Fits n q H/\Hq d N n F af aX H s u kb y)->(Code.seq x af).wpIn (Fw r) m N (dD d n (writes (.seq x af)) (Ii (.seq x af)) a u kb y) a (d.at e h):=by{intro aj aW aX X ax;refine wpIn_seq (wpIn_mono (aF m F r aW k e aj kb y a h ak X o) ?_);intro M q aO I;have aG:∀t∈writes x,t∈writes (.seq x af):=λt aY=>by{grind[writes]};have bi:∀t∈writes af,t∈writes (.seq x af):=λt aY=>by{grind[writes]};have aB:Ii (.seq x af)=Y->Ii x=Y/\Ii af=true:=λe=>by{simpa[Ii]using e};cases M with|normal=>obtain⟨j,s,ag,rfl,B,C,z⟩:=I;obtain⟨H,O,aZ⟩:=ax q j s B C z;refine wpIn_mono (ah af (by simp at al;omega) m F r aX H s u kb y q ag ak aZ O) ?_;rintro a7 a0 a8⟨bj,a1,bk,rfl,bm,bn,bo⟩;exact⟨bj,a1,bk,rfl,bm,C.trans bn aG bi aB,bo⟩|exit id=>obtain⟨j,s,ag,rfl,B,C,z⟩:=I;exact⟨j,s,ag,rfl,B,C.af aG (λe=>(aB e).1),z⟩|ret=>obtain⟨j,s,ag,rfl,B,C,z⟩:=I;exact⟨j,s,ag,rfl,B,C.af aG (λe=>(aB e).1),z⟩|goto l=>obtain⟨j,s,ag,rfl,B,C,z⟩:=I;exact⟨j,s,ag,rfl,B,C.af aG (λe=>(aB e).1),z⟩|panic a9=>obtain⟨_,_,_,_,_,_,z⟩:=I;exact z.elim|outgrown=>obtain⟨_,_,_,_,_,_,z⟩:=I;exact z.elim};cases P with|seq R ar=>simp[Hq]at g;exact tail _ R ar g (λq j s B _ X=>⟨j,B,X⟩)|kU ap R ar=>simp[Hq]at g;split at g;{rename_i au;refine tail _ R ar (g _ (λ_ _ e=>e)) ?_;intro q j s B C X;obtain⟨aq,z,ac⟩:=LX X;exact⟨_,o.join B au C z,ac⟩};exact g.elim|_=>simp[Hq]at g}|cond v x af=>{have aF:=ah x (by simp at al;omega);have bp:=ah af (by simp at al;omega);intro m F r P k e u kb y a h ak g o;cases P with|cond R ar=>{simp[Hq]at g;have g:=CB o g;cases aP:a.eval v<;>rw[aP]at g<;>simp only[]at g;rename_i b;obtain⟨s,S⟩:=uB g;refine wpIn_cond aP ?_;cases b with|true=>exact wpIn_mono (aF m F r R k e u kb y a h ak (s rfl) o) (λ_ _ _ I=>I.mono (λt aY=>by grind[writes]) (λe=>by grind[Ii]) (λ_ _ e=>e) (λ_ _ _ e=>e) (λ_ _ e=>e))|false=>exact wpIn_mono (bp m F r ar k e u kb y a h ak (S rfl) o) (λ_ _ _ I=>I.mono (λt aY=>by grind[writes]) (λe=>by grind[Ii]) (λ_ _ e=>e) (λ_ _ _ e=>e) (λ_ _ e=>e))}|_=>simp[Hq]at g}|block id x=>{intro m F r P k e u kb y a h ak g o;have tail:∀(aj:Env->Q->Prop)(aH:jE->Env->Q->Prop)(R:fy),Hq d N n F x R k e aj aH y->(∀q j s,Fits n q j->Hm (writes x) (Ii x) a q->aj j s->∃H,Fits n q H/\u H s)->(∀i q j s,Fits n q j->Hm (writes x) (Ii x) a q->aH (.ae i) j s->(i=id/\∃H,Fits n q H/\u H s)\/(i≠id/\kb (.ae i) j s))->(∀l j s,aH (.fC l) j s->kb (.fC l) j s)->(Code.block id x).wpIn (Fw r) m N (dD d n (writes (.block id x)) (Ii (.block id x)) a u kb y) a (d.at e h):=by{intro aj aH R X s S a1;refine wpIn_block (wpIn_mono (ah x (by simp at al;omega) m F r R k e aj aH y a h ak X o) ?_);intro M q aO I;obtain⟨j,ae,ag,rfl,B,C,z⟩:=I;cases M with|normal=>obtain⟨H,O,ax⟩:=s q j ae B C z;exact⟨H,ae,ag,rfl,O,C,ax⟩|exit i=>simp[Exit.inBlock];rcases S i q j ae B C z with⟨hi,H,O,ax⟩|⟨hi,ax⟩;{rw[A1 hi];exact⟨H,ae,ag,rfl,O,C,ax⟩};rw[A0 hi];exact⟨j,ae,ag,rfl,B,C,ax⟩|ret=>exact⟨j,ae,ag,rfl,B,C,z⟩|goto l=>exact⟨j,ae,ag,rfl,B,C,a1 l _ _ z⟩|panic a9=>exact z.elim|outgrown=>exact z.elim};cases P with|block R=>simp[Hq]at g;refine tail _ _ R g (λq j s B _ X=>⟨j,B,X⟩) ?_ (λ_ _ _ e=>e);grind[Nat.beq_refl,Wt]|fY ap R=>simp[Hq]at g;split at g;{rename_i au;have g:=g _ (λ_ _ e=>e);have fin:∀q j s,Fits n q j->Hm (writes x) (Ii x) a q->Yl ap j (λaq=>u (Ij ap (writes x) k aq) s)->∃H,Fits n q H/\u H s:=by{intro q j s B C X;have⟨aq,z,ac⟩:=LX X;exact⟨_,o.join B au C z,ac⟩};refine tail _ _ R g fin ?_ (λ_ _ _ e=>e);intro i q j s B C X;by_cases hi:i=id;{subst hi;simp[Nat.beq_refl]at X;exact .inl ⟨rfl,fin q j s B C X⟩};grind[Wt]};exact g.elim|_=>simp[Hq]at g}|loop x=>{have ah:=ah x (by simp at al;omega);intro m F r P k e u kb y a h ak g o;cases P with|loop ap R=>simp[Hq]at g;split at g;{rename_i au;have⟨aq,z,g⟩:=LX g;have bq:Fits n a (Ij ap (writes x) k aq):=o.join o au (Hm.refl) z;let K:iE ap->Q->Prop:=λaq e=>∀q h,Fits n q (Ij ap (writes x) k aq)->Hm (writes x) (Ii x) a q->x.wpIn (Fw r) m N (Exit.then (oO (Fw r) m N x (dD d n (writes x) (Ii x) a u kb y)) (dD d n (writes x) (Ii x) a u kb y)) q (d.at e h);have aA:=g K ?_;{exact AJF (aA a h bq Hm.refl)};intro aq e br q h B C;refine wpIn_mono (ah m F r R _ e _ kb y q h ak br B) ?_;intro M a0 a8 I;obtain⟨H,S,aC,rfl,O,a2,ac⟩:=I;have aQ:=C.trans a2 (λ_ e=>e) (λ_ e=>e) (λe=>⟨e,e⟩);cases M with|normal=>obtain⟨b0,bs,aZ⟩:=LX ac;exact ALG (aZ a0 aC (B.again O au a2 bs) aQ)|exit i=>exact⟨H,S,aC,rfl,O,aQ,ac⟩|ret=>exact⟨H,S,aC,rfl,O,aQ,ac⟩|goto l=>exact⟨H,S,aC,rfl,O,aQ,ac⟩|panic a9=>exact ac.elim|outgrown=>exact ac.elim};exact g.elim|_=>simp[Hq]at g}|rangeFunc f ps aR x=>{have bt:=ah aR (by simp at al;omega);have aF:=ah x (by simp at al;omega);intro m F r P k e u kb y a h ak g o;cases P with|range ba R ar=>simp only[Hq]at g;split at g;{rename_i bb;simp only[As,GO,DP]at bb;obtain⟨⟨bu,aS⟩,bv⟩:=bb;have aS:=N3 aS;have bw:=ak bu;subst bw;have g:=CB o g;refine wpIn_rangeFunc λfn _=>?_;let aI:Go.Loop:={state:=.ready,pending:=V,fn,tmps:=a.tmps,params:=ps,assign:=aR,body:=x,defers:=e.size};have bx:∀args:List J0,J args=ps.size->∀(ae:Q)(az:A3U),ae[e.size+1]?=Z (.loop aI)->Hq d N n Y aR R (lH {get:=k.get,ds:=[]} ps.toList args) ae (λaw ao=>∃aU,ao[e.size+1]?=Z (.loop aU)/\aU.state=.ready/\Hq d N n Y x ar aw (ao.setIfInBounds (e.size+1) (.loop {aU with state:=.busy})) (λ_ S=>∃an,S[e.size+1]?=Z (.loop an)/\az (.bool Y) (S.setIfInBounds (e.size+1) (.loop {an with state:=.ready,pending:=V}))) (λa3 _ S=>match a3 with|.ae i=>(∃an,S[e.size+1]?=Z (.loop an)/\az (.bool U) (S.setIfInBounds (e.size+1) (.loop {an with state:=.done,pending:=Z (mR (Z i))})))|.fC _=>False) (λ_ S=>∃an,S[e.size+1]?=Z (.loop an)/\az (.bool U) (S.setIfInBounds (e.size+1) (.loop {an with state:=.done,pending:=Z (mR V)})))) (λ_ _ _=>False) (λ_ _=>False)->JB d N (.func (.yield (e.size+1)) #[] #[]) args.toArray ae az:=by{intro args bz ae az a4 a5 h;have bA:(do let ai<-Deferred.ofValue (.func (.yield (e.size+1)) #[] #[]) args.toArray;invoke ai.target ai.args).run N (d.at ae h)=.ok (.round (e.size+1) fn ((ps.zip args.toArray).foldl (λtmps(t,a)=>tmps.setIfInBounds t a) a.tmps) aR x) (d.at ae h):=by{have bB:¬(args.toArray).size≠ps.size:=by{simp[bz]};simp only[Deferred.ofValue,Sem.run_bind,Sem.run_pure,Result.andThen_ok,invoke,Instr.yield,run_getLoop a4,Array.empty_append];rw[A0 bB];rfl};rw[bA];have bC:Fits n {tmps:=(ps.zip args.toArray).foldl (λtmps(t,a)=>tmps.setIfInBounds t a) a.tmps,defers:=[]} (lH {get:=k.get,ds:=[]} ps.toList args):=by{have bD:Fits n {tmps:=a.tmps,defers:=[]} {get:=k.get,ds:=[]}:=⟨o.size,o.get,rfl⟩;have:=AGN ps.toList args _ a.tmps (λp I=>by simpa using bv p I) bD;rw[<-Array.foldl_toList,Array.toList_zip];exact this};refine roundIn_of_wpIn trivial (wpIn_mono (bt 0 Y (Z (e.size+1)) R _ ae _ _ _ _ h (λe=>by cases e) a5 bC) ?_);intro M q aO I;obtain⟨j,s,ag,rfl,B,C,z⟩:=I;cases M<;>simp only at z;have⟨aU,bE,bF,bG⟩:=z;refine⟨_,run_beginRound bE bF,wpIn_mono (aF 0 Y (Z (e.size+1)) ar _ _ _ _ _ q ag (λe=>by cases e) bG B) ?_⟩;intro a7 a0 a8 bH;obtain⟨H,S,aC,rfl,O,a2,ac⟩:=bH;cases a7<;>simp only at ac;{obtain⟨an,aJ,aK⟩:=ac;exact⟨_,_,run_endRound aJ,_,rfl,_,_,rfl,aK⟩};{obtain⟨an,aJ,aK⟩:=ac;exact⟨_,_,run_endRound aJ,_,rfl,_,_,rfl,aK⟩};have⟨an,aJ,aK⟩:=ac;exact⟨_,_,run_endRound aJ,_,rfl,_,_,rfl,aK⟩};obtain⟨bI,bJ,bK,bL⟩:=g aI rfl rfl aS.symm (λx ae az a4 a5=>bx (mS ba x) ((ABC ba x).trans aS) ae az a4 a5);obtain⟨nx,bM,rfl⟩:=P8 bK;have aL:=bM (d.at ((e.push (.deferred (Z []))).push (.loop aI)) h);rw[Sem.run_bind]at aL;have bN:(resolve a.eval (rangeCall f (e.size+1)) 0)=Deferred.ofValue (a.eval f) #[.func (.yield (e.size+1)) #[] #[]]:=by{simp[resolve,Act.eval]};cases hd:(Deferred.ofValue (a.eval f) #[.func (.yield (e.size+1)) #[] #[]]).run N (d.at ((e.push (.deferred (Z []))).push (.loop aI)) h)with|halt af w=>rw[hd]at aL;cases aL|ok ai aO=>rw[hd]at aL;have aG:aO=d.at ((e.push (.deferred (Z []))).push (.loop aI)) h:=by{cases aP:a.eval f<;>rw[aP]at hd<;>simp[Deferred.ofValue]at hd<;>first|exact hd.2.symm|(cases hd)};refine⟨e.size+1,[mB e.size],_,ai,_,bI,bJ,_,AHx,by rw[bN];exact hd,λ_ _=>trivial,aL,λaB=>by simp at aB,ZY.2 (Calls.mono (bL h) ?_)⟩;rintro b1 b2⟨v,rfl,S,aC,rfl,bc,bO,bP,bd⟩;have a6:Fits n {a with defers:=[mB e.size]++a.defers} {get:=k.get,ds:=e.size::k.ds}:=⟨o.size,o.get,by simp[o.ds]⟩;refine⟨bc.pending,_,run_endLoop bO bP,?_⟩;generalize S.setIfInBounds (e.size+1) (.loop {bc with state:=.exhausted})=b3 at bd⊢;rcases bd with⟨I,bQ⟩|⟨a3,I,be⟩;{rw[I];exact⟨_,_,_,rfl,a6,⟨λ_ _=>rfl,λe=>by simp[Ii]at e⟩,bQ⟩};rw[I];cases a3 with|none=>exact wpIn_ret ⟨_,_,_,rfl,a6,⟨λ_ _=>rfl,λe=>by simp[Ii]at e⟩,be⟩|some i=>exact wpIn_exit ⟨_,_,_,rfl,a6,⟨λ_ _=>rfl,λe=>by simp[Ii]at e⟩,be⟩};exact g.elim|_=>simp[Hq]at g}|scope b=>intro m F r P k e u kb y a h ak g o;cases b with|seq bR bS=>{cases bS with|seq c af=>{cases af with|seq bT ai=>{cases bT with|label l=>{cases P with|scope ap b4 R ar=>simp[Hq]at g;split at g;{rename_i au;simp only[As]at au;have⟨⟨bU,bV⟩,bW,bX,bY⟩:=au;have bZ:=ah bR (by simp at al;omega);exact AMt bZ (ah c (by simp at al;omega)) (ah ai (by simp at al;omega)) ak bU bV bW bX bY g o};exact g.elim|_=>simp[Hq]at g}|_=>simp[Hq]at g}|_=>simp[Hq]at g}|_=>simp[Hq]at g}|_=>simp[Hq]at g
def ANn(o:x.follows .mixedOrders=Y)(a:Code)(m:Nat)(e:Bool)(f:Option Nat)(l:fy)(g:Env)(h:Q)(i:Env->Q->Prop)(j:jE->Env->Q->Prop)(k:Env->Q->Prop)(c:Act)(n:Nat)(p:e=U->f=V)(q:Hq d x b e a l g h i j k)(r:Fits b c g):a.wpIn (Fw f) m x (dD d b (writes a) (Ii a) c i j k) c (d.at h n):=AMN o (SizeOf.sizeOf a+1) a (R1 _) m e f l g h i j k c n p q r
def mT(d:Q1):List ResultVar->Env->Q->(List J0->Prop)->Prop|[],_,_,K=>K []|.tmp t::r,b,c,K=>(match b.get t with|some v=>mT d r b c λe=>K (v::e)|none=>False)|.cell a t::r,b,c,K=>match b.get a with|some v=>(match v with|.pointer p=>At p λad=>loadT d t c ad λv _=>mT d r b c λe=>K (v::e)|_=>False)|none=>False
def oneOf(a:List J0)(b:J0->Prop):Prop:=match a with|[v]=>b v|a=>b (.tuple a.toArray)
def AYh(a:Q1)(b:List ResultVar)(c:Env)(d:Q)(e:J0->Prop):Prop:=mT a b c d λf=>oneOf f e
def uQ:List Nat->Q->(Q->Prop)->Prop|[],a,K=>K a|r::b,a,K=>a[r]?=Z (.deferred (Z []))/\uQ b (a.setIfInBounds r (.deferred V)) K
def oR:Nat->List J0->Nat->Option J0|_,[],_=>V|i,v::r,t=>bif Nat.beq t i then Z v else oR (i+1) r t
def uR(c:Q1)(d:Func)(e:A3U)(a:Env)(f:Q):Prop:=uQ a.ds f λb=>AYh c d.results.toList a b λv=>e v b
def uS(e:ai)(a:Q1)(f:Q8)(g:fy)(b:List J0)(h:Q)(d:A3U):Prop:=match a.funcs[f]? with|none=>False|some fn=>match fn.body with|none=>False|some c=>match Nat.ble (J b) fn.ntmps with|true=>Hq e a fn.ntmps U c g {get:=oR 0 b,ds:=[]} h (uR a fn d) (λ_ _ _=>False) (uR a fn d)|false=>False
theorem ADX:∀{l:List J0}{i t:Nat}{v:J0},oR i l t=Z v->i<=t/\l[t-i]?=Z v|[],_,_,_,a=>by cases a|u::r,i,t,v,a=>by unfold oR at a;by_cases b:t=i;{simp_all};rw[Wt b,cond_false]at a;have⟨c,d⟩:=ADX a;grind
def qR(a:Array J0):ResultVar->Sem J0|.tmp t=>pure (a.getD t undef)|.cell x t=>do loadVar t (<-asAddr (a.getD x undef))
theorem AOb(b:Func)(c:Array J0):results b c=(do let a<-b.results.mapM (qR c);pure (if d:a.size=1 then a[0]else .tuple a)):=rfl
theorem Ug{P:Q1}{A:ai}(f:Fits b bd bw){n:Nat}:∀{l:List ResultVar}{K:List J0->Prop},mT P l bw a K->∃d,(l.mapM (qR bd.tmps)).run P (A.at a n)=.ok d (A.at a n)/\K d|[],K,c=>⟨[],rfl,c⟩|.tmp t::r,K,c=>by unfold mT at c;split at c;{rename_i v g;obtain⟨d,i,j⟩:=Ug (P:=P) (A:=A) (n:=n) f c;refine⟨v::d,?_,j⟩;have k:bd.tmps.getD t undef=v:=by{have:=f.get t v g;simp[this]};rw[V0];simp[Sem.run_bind,Sem.run_pure,Result.andThen_ok,qR,i,k]};exact c.elim|.cell x t::r,K,c=>by unfold mT at c;split at c;{rename_i v g;split at c;{rename_i p;obtain⟨ad,rfl,m⟩:=VQ c;obtain⟨u,st,o,q,j⟩:=ADh (A:=A) m;obtain⟨d,i,s⟩:=Ug (P:=P) (A:=A) (n:=n) f j;refine⟨u::d,?_,s⟩;have k:bd.tmps.getD x undef=.pointer (Z ad):=by{have:=f.get x _ g;simp[this]};rw[V0];simp[Sem.run_bind,Sem.run_pure,Result.andThen_ok,qR,k,asAddr,o a q n,i]};exact c.elim};exact c.elim
theorem AOk{A:ai}(f:Fits b bd bw){n:Nat}(c:AYh x fb.results.toList bw a ca):∃v,(results fb bd.tmps).run x (A.at a n)=.ok v (A.at a n)/\ca v:=by
 obtain⟨d,i,c⟩:=Ug (A:=A) f (n:=n) c;have g:(results fb bd.tmps).run x (A.at a n)=.ok (if j:d.toArray.size=1 then d.toArray[0]else .tuple d.toArray) (A.at a n):=by grind[AOb,Array.mapM_eq_mapM_toList,Sem.run_bind,Sem.run_map,Result.andThen_ok,Sem.run_pure]
 refine⟨_,g,?_⟩;match d,c with|[],c=>exact c|[v],c=>exact c|u::v::r,c=>simpa[oneOf]using c
theorem ADc{P:Q1}{A:ai}(d:∀a b,be a->LeavesInM (Fw V) 0 P fb bi fd [] .returning (A.at a b)):∀(l:List Nat)(a:Q)(b:Nat),uQ l a be->LeavesInM (Fw V) 0 P fb bi fd (l.map mB) .returning (A.at a b)|[],a,b,c=>d a b c|r::e,a,b,⟨f,c⟩=>⟨by simp,.inl ⟨r,_,rfl,run_takeDeferred f,ADc (P:=P) (A:=A) d e _ b c⟩⟩
theorem AKW(s:x.follows .mixedOrders=Y){o:fy}(b:uS d x cy o b2 k e):AJ d x cy b2.toArray k e:=by intro n;unfold uS at b;split at b;{exact b.elim};rename_i fn u;split at b;{exact b.elim};rename_i c y;split at b;{rename_i p;have p:=A0A p;refine ZY.1 (callsIn_of_wp_marks (n:=0) u y trivial ?_);have z:Fits fn.ntmps {tmps:=b2.toArray++Array.replicate (fn.ntmps-b2.toArray.size) undef,defers:=[]} {get:=oR 0 b2,ds:=[]}:=by{refine⟨by simp;omega,λt v l=>?_,rfl⟩;obtain⟨_,q⟩:=ADX l;grind};refine wpIn_mono (ANn s c 0 U V o _ k _ _ _ _ n (λ_=>rfl) b z) ?_;intro B a w C;obtain⟨i,g,j,rfl,r,_,m⟩:=C;have fin:uR x fn e i g->LeavesInM (Fw V) 0 x fn a.tmps (λi F=>∃v,i=.returned v/\∃g j,F=d.at g j/\e v g) a.defers .returning (d.at g j):=by{intro H;rw[r.ds];refine ADc ?_ i.ds g j H;intro q I K;obtain⟨v,l,S⟩:=AOk r K;exact⟨v,l,v,rfl,q,I,rfl,S⟩};cases B<;>simp only at m;{exact fin m};exact fin m};exact b.elim
def semAt(d:ai)(a:Q1)(b:Q8)(m:List (Nat×Live))(e:List J0)(f:Q)(g:A3U):Prop:=uS d a b (match a.funcs[b]? with|some fn=>(match fn.body with|some c=>R4 m c 0|none=>.none)|none=>.none) e f g
def AMw(b:x.follows .mixedOrders=Y){m:List (Nat×Live)}(c:semAt d x cy m b2 a e):AJ d x cy b2.toArray a e:=AKW b c
def Iw(a:IntKind)(b c:Int):Int:=a.wrap ((BitVec.ofInt a.bits b&&&BitVec.ofInt a.bits c).toNat:Int)
def eN(a:IntKind)(b c:Int):Int:=a.wrap ((BitVec.ofInt a.bits b|||BitVec.ofInt a.bits c).toNat:Int)
def gY(a:IntKind)(b c:Int):Int:=a.wrap ((BitVec.ofInt a.bits b^^^BitVec.ofInt a.bits c).toNat:Int)
noncomputable abbrev P:Q1:=Go.Proofs.Tryz.prog
def MO:Q8:=5
def MK:Q8:=6
def JE:Q8:=9
def FZ:Q8:=10
def HZ:Q8:=11
def TC:Q8:=13
def Gf:Q8:=14
def Qj:Q8:=15
def Kc:Q8:=16
def F3:Q8:=17
def EX:Q8:=18
def Jh:Q8:=19
def Ed:Q8:=20
def JV:Q8:=21
def Ju:Q8:=22
def Lx:Q8:=24
def Pd:Q8:=25
def TG:Q8:=26
def Vb:Q8:=28
def vE:Q8:=29
def BM:Q8:=30
def Jy:Q8:=31
def Dg:Q8:=32
def Jp:Q8:=33
def FQ:Q8:=34
def Ei:Q8:=35
def GX:Q8:=36
def Gh:Q8:=37
def IJ:Q8:=38
def Gs:Q8:=39
def Gz:Q8:=41
def Ci:Q8:=42
def Oc:Q8:=43
def Jw:Q8:=44
def Nu:Q8:=45
def IA:Q8:=46
def OX:Q8:=47
def KS:Q8:=48
def QS:Q8:=49
def JJ:Q8:=50
def OV:Q8:=51
def Hy:Q8:=52
def Po:Q8:=53
def BD:Q8:=54
def IL:Q8:=55
def FV:Q8:=56
def LP:Q8:=57
def NB:Q8:=58
def Cv:Q8:=59
def BJ:Q8:=60
def Eh:Q8:=61
def II:Q8:=62
def Pn:Q8:=63
def Qi:Q8:=64
def Rw:Q8:=65
def Pm:Q8:=66
def EN:Q8:=67
def TI:Q8:=68
def Xr:Q8:=69
def NC:Q8:=70
def XZ:Q8:=71
def Dn:Q8:=72
def Gc:Q8:=73
def GV:Q8:=74
def IY:Q8:=75
def SA:Q8:=76
def vG:Q8:=78
def Ct:Q8:=79
def ED:Q8:=80
def Av:Q8:=81
def Du:Q8:=82
def Fx:Q8:=83
def Bz:Q8:=84
def MZ:Q8:=85
def OW:Q8:=86
def CJ:Q8:=87
def BK:Q8:=88
def Jr:Q8:=89
def Fs:Q8:=90
def NP:Q8:=91
def Me:Q8:=92
def Fy:Q8:=93
def Ie:Q8:=94
def F9:Q8:=95
def Gb:Q8:=96
def Ex:Q8:=98
def Gy:Q8:=99
def Ih:Q8:=100
def Gq:Q8:=101
def TJ:Q8:=102
def Oh:Q8:=103
def Sv:Q8:=104
def Q3:Q8:=105
def Rq:Q8:=106
def Il:Q8:=107
def Rk:Q8:=108
def Hg:Q8:=109
def Cr:Q8:=110
def Aw:Q8:=111
def Dl:Q8:=112
def Qr:Q8:=113
def TM:Q8:=114
def Ml:Q8:=115
def Ik:Q8:=116
def Gl:Q8:=117
def Sk:Q8:=118
def KE:Q8:=119
def MG:Q8:=120
def VG:Q8:=121
def Mx:Q8:=122
def Oi:Q8:=123
def Qk:Q8:=124
def VX:Q8:=125
def WJ:Q8:=126
def KY:Q8:=127
def Jv:Q8:=128
def DC:Q8:=129
def Tz:Q8:=130
def Pk:Q8:=131
def Ui:Q8:=132
def Ti:Q8:=133
def Ku:Q8:=134
def LV:Q8:=135
def Qq:Q8:=136
def Km:Q8:=137
def JO:Q8:=138
def AHb:Q8:=139
def NH:Q8:=140
def Ro:Q8:=141
def Mi:Q8:=142
def IV:Q8:=143
def JK:Q8:=144
def Ec:Q8:=145
def Mh:Q8:=146
def NM:Q8:=147
def Md:Q8:=148
def KC:Q8:=149
def JF:Q8:=150
def DI:Q8:=151
def EU:Q8:=152
def Mc:Q8:=153
def GR:Q8:=154
def QW:Q8:=155
def OL:Q8:=156
def Lu:Q8:=157
def WU:Q8:=158
def Ez:Q8:=159
def OT:Q8:=160
def NF:Q8:=161
def Rj:Q8:=162
def Kn:Q8:=163
def Jm:Q8:=164
def I5:Q8:=165
def Uy:Q8:=166
def Mq:Q8:=167
def FI:Q8:=168
def EO:Q8:=169
def Ej:Q8:=170
def Pj:Q8:=171
def VC:Q8:=172
def TZ:Q8:=173
def VN:Q8:=174
def Xk:Q8:=175
def JI:Q8:=176
def NI:Q8:=177
def Qx:Q8:=178
def RV:Q8:=179
def LM:Q8:=180
def KM:Q8:=181
def Ry:Q8:=182
def DN:Q8:=183
def Li:Q8:=184
def Js:Q8:=185
def Sg:Q8:=186
def IC:Q8:=187
def Ja:Q8:=188
def Oa:Q8:=189
def OO:Q8:=190
def NV:Q8:=191
def Qw:Q8:=192
def I4:Q8:=193
def Rt:Q8:=194
def Mt:Q8:=195
def TA:Q8:=196
def IK:Q8:=197
def VW:Q8:=198
def OY:Q8:=199
def AGb:Q8:=200
def PG:Q8:=201
def JY:Q8:=202
def MU:Q8:=203
def Oe:Q8:=204
def Mk:Q8:=205
def OE:Q8:=206
def Ko:Q8:=207
def FX:Q8:=208
def NR:Q8:=209
def Cn:Q8:=210
def Em:Q8:=211
def Iy:Q8:=212
def JH:Q8:=213
def Jn:Q8:=214
def MF:Q8:=215
def OP:Q8:=216
def Qf:Q8:=217
def Dx:Q8:=218
def Bq:Q8:=219
def Dz:Q8:=220
def Ms:Q8:=221
def Ld:Q8:=222
def ME:Q8:=223
def Uz:Q8:=224
def XB:Q8:=225
def En:Q8:=226
def Dr:Q8:=227
def Vi:Q8:=228
def EH:Q8:=229
def KR:Q8:=230
def OQ:Q8:=231
def UJ:Q8:=232
def ZT:Q8:=233
def EE:Q8:=234
def NU:Q8:=235
def LB:Q8:=236
def Ta:Q8:=237
def Fj:Q8:=238
def VJ:Q8:=239
def Kv:Q8:=240
def Tw:Q8:=241
def VO:Q8:=242
def OH:Q8:=244
def IR:Q8:=245
def Cc:Q8:=246
def Jc:Q8:=250
def Kw:Q8:=251
def JN:Q8:=252
def Jk:Q8:=253
def Mg:Q8:=254
def MR:Q8:=255
def GM:Q8:=256
def Bu:Q8:=257
def IU:Q8:=258
def TH:Q8:=259
def Ka:Q8:=260
def Qo:Q8:=261
def Sz:Q8:=262
def XC:Q8:=263
def TN:Q8:=264
def Dy:Q8:=265
def Fb:Q8:=266
def G5:Q8:=267
def Iz:Q8:=268
def Ki:Q8:=269
def TK:Q8:=270
def ZG:Q8:=271
def QY:Q8:=272
def Qd:Q8:=273
def Et:Q8:=279
def Iu:Q8:=281
def Gt:Q8:=285
def RQ:Q8:=291
def Od:Q8:=292
def Ef:Q8:=293
def Qm:Q8:=294
def Qs:Q8:=295
def EP:Q8:=325
def t_:Q7:=0
def Bd:Q7:=3
def VH:Q7:=4
def Ee:Q7:=5
def BQ:Q7:=9
def KV:Q7:=22
def EF:Q7:=29
def Bb:Q7:=30
def Ad:Q7:=32
def CP:Q7:=34
def Dm:Q7:=35
def BR:Q7:=37
def Hu:Q7:=38
def Bp:Q7:=40
def ET:Q7:=42
def Cf:Q7:=51
def LK:Q7:=53
def BH:Q7:=54
def Ak:Q7:=56
def LY:Q7:=63
def EI:Q7:=64
def DL:Q7:=65
def A7:Q7:=67
def Bv:Q7:=69
def Ae:Q7:=76
def Ai:Q7:=80
def BZ:Q7:=85
def Fu:Q7:=97
def NT:Q7:=103
def Hl:Q7:=106
def GD:Q7:=107
def VA:Q7:=109
def oU:Q7:=116
def Ag:Q7:=132
def ADB:Q7:=150
def BL:Q7:=155
def Cw:Q7:=163
def vH:Q7:=165
def DR:Q7:=181
def F4:Q7:=187
def QP:Q7:=201
def AHP:Q7:=211
def BA:Q7:=212
def A8:Q7:=213
def NA:Q7:=215
def CS:Q7:=218
def ADw:Q7:=221
def DJ:Q7:=229
def CL:Q7:=234
def ZN:Q7:=260
def P5:Q7:=279
def BX:Q7:=282
def KL:Q7:=284
def EC:Q7:=285
def BU:Q7:=287
def vI:Q7:=288
def AIx:Q7:=300
def FK:Q7:=302
def Uf:Q7:=304
def ADZ:Q7:=306
def AJ9:Q7:=307
def vJ:Q7:=309
def Ps:Q7:=311
def qX:Q7:=319
def QC:Q7:=328
def Lg:Q7:=343
def Fh:Q7:=378
def Wo:Q7:=429
def Fp:Q7:=436
def GY:Q7:=438
theorem mixed:P.follows .mixedOrders=true:=by decide+kernel
theorem add_add(a:Q6)(m b:Nat):(a.add m).add b=a.add (m+b):=by grind[Addr.add,Nat.add_assoc]
theorem add_zero(a:Q6):a.add 0=a:=by simp[Addr.add]
theorem aY(a:Q6)(b:Nat):(a.add b).block=a.block:=by grind[Addr.add]
theorem CR(a b c:Nat):(⟨a,b,V⟩:Q6).add c=⟨a,b+c,V⟩:=by simp_all[Addr.add]
structure G (S:Nat->Prop) (h h':Q):Prop where
 size:h.size<=h'.size
 get: ∀b,b<h.size-> ¬S b->h'[b]? =h[b]?
abbrev L:=G (λ_=>False)
def G.refl{S:Nat->Prop}{a:Q}:G S a a:=⟨A2 _,λ_ _ _=>rfl⟩
theorem G.trans{S:Nat->Prop}(b:G S a k)(d:G S k M):G S a M:=⟨AD b.size d.size,λc e f=>(d.get c (CI e b.size) f).trans (b.get c e f)⟩
theorem G.af{S S':Nat->Prop}(d:G S a k)(f:∀b,b<a.size->S b->S' b):G S' a k:=⟨d.size,λc e g=>d.get c e λa=>g (f c e a)⟩
def L.mod{S:Nat->Prop}(b:L a k):G S a k:=b.af λ_ _ a=>a.elim
theorem G.then{S:Nat->Prop}(b:G S a k)(d:G (λc=>S c\/a.size<=c) k M):G S a M:=⟨AD b.size d.size,λc e f=>(d.get c (CI e b.size) (λa=>a.elim f (λa=>by omega))).trans (b.get c e f)⟩
theorem G.push{S:Nat->Prop}(a:Q)(c:Obj):G S a (a.push c):=⟨by simp,λb d _=>by grind⟩
theorem G.ae{S:Nat->Prop}(d:G S a k){b:Nat}(c:a[b]?=Z c5)(e:¬S b):k[b]?=Z c5:=(d.get b (IN.1 c).1 e).trans c
theorem Ao(c:a[b]?=Z c5):b<a.size:=(IN.1 c).1
theorem YH(b:ah a a2=Z r):a2.block<a.size:=by grind[ah,Ao]
theorem Rm(b:k[a2.block]?=a[a2.block]?):ah k a2=ah a a2:=by unfold ah;rw[b]
theorem G.ah{S:Nat->Prop}(m:G S a k)(b:ah a a2=Z r)(c:¬S a2.block):Lf.ah k a2=Z r:=(Rm (m.get _ (YH b) c)).trans b
theorem L.ah(m:L a k)(b:Lf.ah a a2=Z r):Lf.ah k a2=Z r:=G.ah m b (λa=>a)
theorem Iq(c:a[b]?=Z (.cells bi u bs)):ah a ⟨b,f,V⟩=bi[f]?:=by simp[ah,c]
theorem SG(c:a[b]?=Z (.cells bi u (0,0))):gV a ⟨b,f,V⟩=false:=by simp[gV,c]
theorem AIw(c:a[b]?=Z (.cells bi u bs)):(cO a ⟨b,f,V⟩ r)[b]?=Z (.cells (bi.setIfInBounds f r) u bs):=by simp[cO,OK,c]
theorem AOg(d:b≠a2.block):(cO a a2 r)[b]?=a[b]?:=by simp[cO,OK,Ne.symm d]
theorem uT:(cO a a2 r).size=a.size:=by simp[cO]
theorem G.set{S:Nat->Prop}(b:S a2.block):G S a (cO a a2 r):=⟨by rw[uT];exact A2 _,λ_ _ c=>AOg (λd=>c (d▸b))⟩
theorem AU(c:∀b,b=a.push c5->b[a.size]?=Z c5->L a b->b.size=a.size+1->c1 a.size b):bW a c5 c1:=c _ rfl (by simp) (G.push a c5) (by simp)
theorem Ac(d:a[b]?=Z (.cells bi u (0,0)))(e:f<bi.size)(g:∀c,c[b]?=Z (.cells (bi.setIfInBounds f r) u (0,0))->G (· =b) a c->c.size=a.size->be c):aj a ⟨b,f,V⟩ r be:=⟨⟨bi[f],by rw[Iq d];simp[e]⟩,SG d,g _ (AIw d) (G.set rfl) uT⟩
theorem AA(a:al=Y->c3)(c:al=U->eo):cX al c3 eo:=by cases al;{exact c rfl};exact a rfl
theorem AV(a:al=Y)(c:c3):cX al c3 eo:=by subst a;exact c
theorem AQ(a:al=U)(c:eo):cX al c3 eo:=by subst a;exact c
theorem Tt{p:Q2}{k:Nat}(c:p=Z a2)(e:k<b)(d:ey a2):iT p b (k:Int) ey:=⟨a2,c,⟨by omega,by omega⟩,d⟩
theorem Td(a:al=Y)(c:c3):qc al c3:=by subst a;exact c
def AR{a:an->Q->Prop}{b:(an->Q->Prop)->Prop}(d:∀K:an->Q->Prop,(∀x c,a x c->K x c)->b K):fP a b:=d
theorem JB.func{A:ai}{P:Q1}{f:Q8}{first cp args:Array J0}{h:Q}{R:A3U}(c:(callFunc f (first++args++cp)).calc P=Z (.enter f (first++args++cp)))(d:AJ A P f (first++args++cp) h R):JB A P (.func (.func f) first cp) args h R:=by
 intro a;have g:=EG c (A.at h a);have e:(do let b<-Deferred.ofValue (.func (.func f) first cp) args;invoke b.target b.args).run P (A.at h a)=.ok (.enter f (first++args++cp)) (A.at h a):=by simp_all[Deferred.ofValue,Sem.run_bind,Sem.run_pure,Result.andThen_ok,invoke]
 rw[e];exact d a
structure bZ (α:Type) where
 enc:α->List J0
 w:Nat
 len: ∀x,J (enc x)=w
 pos:0<w
 one: ∀x v,v∈enc x->P9 v=Y
def Cells(b:Q)(c:Q6)(d:List J0):Prop:=∀a v,d[a]?=Z v->ah b (c.add a)=Z v
theorem Cells.mod{S:Nat->Prop}(b:Cells a a2 b2)(m:G S a k)(c:¬S a2.block):Cells k a2 b2:=λd v e=>m.ah (b d v e) (by rw[aY];exact c)
structure W {α:Type} (fx:bZ α) (h:Q) (s:Sl) (l:List α):Prop where
 len:s.len=J l
 cap:s.len<=s.cap
 cells: ∀i x,l[i]? =Z x-> ∃a,s.p=Z a/\Cells h (a.add (i*fx.w)) (fx.enc x)
def Sl.ae(a:Sl):Option Nat:=a.p.map (·.block)
theorem W.mod{d:bZ an}{S:Nat->Prop}{e:List an}(c:W d k j e)(m:G S k M)(l:∀b,j.ae=Z b->¬S b):W d M j e:=⟨c.len,c.cap,λi x hi=>let⟨a,f,g⟩:=c.cells i x hi;⟨a,f,g.mod m (by simp_all[aY,Sl.ae])⟩⟩
def W.ext{b:Type}{c:bZ b}{a d:Q}{e:Sl}{f:List b}(g:W c a e f)(m:L a d):W c d e f:=g.mod m λ_ _ a=>a
theorem W.nil{b:bZ an}:W b a ⟨V,0,0⟩ []:=⟨rfl,A2 _,λ_ _ a=>by simp at a⟩
theorem W.at{d:bZ an}{b:List an}(e:W d k j b){i:Nat}(hi:i<J b):∃a,j.p=Z a/\i<j.len/\∀c u,(d.enc b[i])[c]?=Z u->ah k ((a.add (i*d.w)).add c)=Z u:=let⟨a,f,g⟩:=e.cells i b[i] (by simp[hi]);⟨a,f,by rw[e.len];exact hi,λc u l=>g c u l⟩
structure Own {α:Type} (fx:bZ α) (f2:Q7) (h:Q) (s:Sl) (l:List α):Prop where
 len:s.len=J l
 row:(s=⟨V,0,0⟩/\l= [])\/ ∃g cur,s.p=Z ⟨g,0,V⟩/\h[g]? =Z (.cells cur f2 (0,0))/\s.len<=s.cap/\s.cap<=maxLen/\cur.size=s.cap*fx.w/\cur.toList.take (s.len*fx.w)=l.flatMap fx.enc
theorem Own.nil{b:bZ an}:Own b u a ⟨V,0,0⟩ []:=⟨rfl,.inl ⟨rfl,rfl⟩⟩
theorem dL{α:Type}{fx:bZ α}:∀{l:List α}{i:Nat}{x:α},l[i]?=Z x->∀a v,(fx.enc x)[a]?=Z v->(l.flatMap fx.enc)[i*fx.w+a]?=Z v|[],i,x,b,_,_,_=>by simp at b|y::l,0,x,b,a,v,c=>by grind|y::l,i+1,x,b,a,v,c=>by rw[CC,Ly (by rw[fx.len,DE];omega),fx.len];rw[show(i+1)*fx.w+a-fx.w=i*fx.w+a by rw[DE];omega];exact dL (α:=α) (by simpa using b) a v c
theorem Px{α:Type}{a:bZ α}:∀{l:List α},J (l.flatMap a.enc)=J l*a.w|[]=>by simp|x::l=>by rw[CC,A6,Px (α:=α),a.len,Bs,DE];omega
theorem Own.view{b:bZ an}{c:List an}(d:Own b u a j c):W b a j c:=by rcases d.row with⟨rfl,rfl⟩|⟨g,o,e,f,k,_,p,l⟩;{exact W.nil};refine⟨d.len,k,λi x hi=>⟨_,e,λm v n=>?_⟩⟩;have:=dL hi m v n;rw[<-l,HC]at this;split at this;{rw[add_add,CR,Iq f];simpa using this};cases this
theorem Own.mod{c:bZ an}{S:Nat->Prop}{d:List an}(e:Own c u a j d)(m:G S a k)(i:∀b,j.ae=Z b->¬S b):Own c u k j d:=by refine⟨e.len,?_⟩;rcases e.row with l|⟨g,n,f,o,rest⟩;{exact .inl l};exact .inr ⟨g,n,f,m.ae o (i g (by simp[Sl.ae,f])),rest⟩
def Own.ext{b:Type}{c:bZ b}{d:Q7}{a e:Q}{f:Sl}{g:List b}(h:Own c d a f g)(m:L a e):Own c d e f g:=h.mod m λ_ _ a=>a
theorem Own.lit{fx:bZ an}{f2:Q7}{l:List an}(d:a[b]?=Z (.cells bi f2 (0,0)))(c:bi.toList=l.flatMap fx.enc)(e:J l<=maxLen):Own fx f2 a ⟨Z ⟨b,0,V⟩,J l,J l⟩ l:=by
 have f:bi.size=J l*fx.w:=by rw[<-ON,c,Px]
 exact⟨rfl,.inr ⟨b,bi,rfl,d,A2 _,e,f,by rw[c];exact Bk (by grind)⟩⟩
def SS(a:Q1)(d b:Q7)(c e:Nat):Bool:=match a.underlying d with|some (.slice f)=>(Nat.beq f b&&match a.info? b with|some i=>(Nat.beq i.size c&&Nat.beq i.bytes e&&match i.zero with|some g=>Nat.beq g.cells.size c|none=>U)|none=>U)|_=>U
theorem uU(a:SS x u bc b f=Y):x.underlying u=Z (.slice bc)/\∃i c,x.info? bc=Z i/\i.zero=Z c/\i.size=b/\i.bytes=f/\c.cells.size=b:=by unfold SS at a;split at a;{rename_i d e;split at a;{rename_i i hi;split at a;{simp_all};simp at a};simp at a};simp at a
theorem AXK{A:ai}{h:Q}{n:Nat}(a:a9=A.at h n)(b:ej.os=a9.os)(c:ej.tape=a9.tape)(d:ej.output=a9.output):ej=A.at ej.heap ej.drawn:=by cases ej;simp_all[ai.at]
theorem Sj(a:P9 r=Y):r.oneCell'=true:=by cases r<;>first|rfl|(simp[P9]at a)
theorem Own.nQ{c:bZ an}{e:List an}(f:Own c u a j e):(d.at a b).ownsRow 0 u c.w (.slice j.p j.len j.cap) j.len (e.flatMap c.enc):=by refine⟨by rw[Px,f.len],?_⟩;rcases f.row with⟨rfl,rfl⟩|⟨g,i,k,l,m,o,p,q⟩;{exact .inl ⟨rfl,rfl⟩};exact .inr ⟨g,j.cap,i,by rw[k],AF _,l,m,o,p,q⟩
theorem ALj{c:bZ an}{a:List an}(d:a9.ownsRow 0 u c.w r b (a.flatMap c.enc))(e:b=J a):∃s:Sl,r=.slice s.p s.len s.cap/\Own c u a9.heap s a/\(r=.slice V 0 0->s=⟨V,0,0⟩):=by rcases d.2 with⟨rfl,p⟩|⟨g,f,h,rfl,_,i,j,k,l,m⟩;{have:a=[]:=HE (by omega);subst this;exact⟨⟨V,0,0⟩,rfl,Own.nil,λ_=>rfl⟩};refine⟨⟨Z ⟨g,0,V⟩,b,f⟩,rfl,⟨e,.inr ⟨g,h,rfl,i,j,k,l,m⟩⟩,λo=>by cases o⟩
theorem FR{H:Q1}{fx:bZ an}{f2:Q7}(av:SS H bc f2 fx.w f=Y){s src:Sl}{l m:List an}(n:Own fx f2 k s l)(X:W fx k src m)(q:(J l+J m)*f<=140737488355328)(ag:J l+J m<=maxLen)(ah:∀e C,Own fx f2 C e (l++m)->G (λb=>s.ae=Z b) k C->(∀b,e.ae=Z b->s.ae=Z b\/k.size<=b)->(e.p=V↔s.p=V/\m=[])->d9 e C):El d H (Builtin.append_ #[bc,bc] bo #[.slice s.p s.len s.cap,.slice src.p src.len src.cap]) k λv C=>∃e:Sl,v=.slice e.p e.len e.cap/\d9 e C:=by
 obtain⟨r,i,Q,hi,N,I,hB,aw⟩:=uU av;intro o;have ai:=X.len;by_cases ac:m=[];{subst ac;simp only[Kx,AK,GB]at*;have ax:(Builtin.append_ #[bc,bc] bo #[.slice s.p s.len s.cap,.slice src.p src.len src.cap]).run H (d.at k o)=.ok (.slice s.p s.len s.cap) (d.at k o):=by{have ae:=n.view.cap;have y:∀w:World,(Builtin.firstCells i.size 0 (.slice src.p 0 src.cap)).run H w=.ok #[] w:=by{intro w;cases src.p<;>simp[Builtin.firstCells,loadCells,loadCellsFrom]};cases z:s.p with|none=>simp[Builtin.append_,CG r,run_sizeOf hi,Builtin.lenOf,ai,ae,y]|some a=>simp[Builtin.append_,CG r,run_sizeOf hi,Builtin.lenOf,ai,ae,y,storeCells]};exact⟨_,k,o,ax,s,rfl,ah s k n G.refl (λb q=>.inl q) (by simp)⟩};have aj:=Iv.2 ac;obtain⟨a,M,_⟩:=X.cells 0 m[0] (by simp[aj]);have P:∀j u,(m.flatMap fx.enc)[j]?=Z u->(d.at k o).cell? (a.add j)=Z u:=by intro j u az;have aM:j<J m*fx.w:=by{grind[Px,List.getElem?_eq_some_iff]};have aA:j/fx.w<J m:=Nat.div_lt_of_lt_mul (by grind);have p:j%fx.w<fx.w:=DB _ fx.pos;have R:m[j/fx.w]?=Z m[j/fx.w]:=by{simp[aA]};have ak:j%fx.w<J (fx.enc m[j/fx.w]):=by{rw[fx.len];exact p};have y:=dL R (j%fx.w) _ (A3 ak);have al:=Nat.div_add_mod' j fx.w;rw[al,az]at y;obtain⟨aO,O,aB⟩:=X.cells _ _ R;rw[M]at O;cases O;have:=aB (j%fx.w) _ (A3 ak);rw[add_add,al]at this;rw[Ds]at y;rw[y];exact this
 have ao:∀u∈m.flatMap fx.enc,u.oneCell'=true:=by intro u aC;obtain⟨x,_,R⟩:=Vc.1 aC;exact Sj (fx.one x u R)
 obtain⟨ap,af,p,aq,F,aP⟩:=run_append_own (d.at k o) 0 bc bo f2 i Q fx.w f r hi N I hB aw fx.pos (.slice s.p s.len s.cap) s.len (l.flatMap fx.enc) n.nQ a (J m) src.cap (m.flatMap fx.enc) (by rw[Px]) P ao (by rw[n.len];exact ag) (by rw[n.len];exact q) (AF _);rw[<-Lq]at aq;obtain⟨e,aD,aE,aQ⟩:=ALj aq (by rw[n.len,A6]);have aR:=AXK rfl F.os F.tape F.output;have S:J (m.flatMap fx.enc)=J m*i.size:=by rw[Px,I]
 have ar:((s.len+J m):Int)<=9223372036854775807:=by have:=ag;simp[maxLen]at this;rw[n.len];omega
 have aF:(s.len+J m)*i.bytes<=140737488355328:=by rw[n.len,hB];exact q
 have aG:∃g c,ap=.slice (Z ⟨g,0,V⟩) (s.len+J m) c/\(s.ae=Z g\/g=k.size):=by rcases n.row with⟨rfl,rfl⟩|⟨g,aH,z,aI,ae,aS,aJ,aU⟩;{rw[run_append_nil (d.at k o) bc bo f2 i Q r hi N a (J m) src.cap (m.flatMap fx.enc) S P aj (by simpa using ar) (by grind)]at p;cases p;exact⟨k.size,_,by rw[B8];rfl,.inr rfl⟩};by_cases au:s.len+J m<=s.cap;{rw[z,run_append_room (d.at k o) bc bo f2 i r hi g s.len s.cap aH aI a (J m) src.cap (m.flatMap fx.enc) S P ao au (by rw[S,aJ,<-I,<-DE];exact DG _ au)]at p;cases p;exact⟨g,_,rfl,.inl (by simp[Sl.ae,z])⟩};rw[z,run_append_grow (d.at k o) bc bo f2 i Q r hi N ⟨g,0,V⟩ s.len s.cap (l.flatMap fx.enc) (by rw[Px,n.len,I]) (n.nQ|>.cells (by simp[Value.ownBlock,z])) a (J m) src.cap (m.flatMap fx.enc) S P (by omega) ar (growslice_fits (by omega) aF)]at p;cases p;exact⟨k.size,_,rfl,.inr rfl⟩
 obtain⟨g,c,aV,aW⟩:=aG;have aK:e.p=Z ⟨g,0,V⟩:=by grind
 refine⟨ap,af.heap,af.drawn,by grind,e,aD,ah e af.heap aE ⟨F.size,?_⟩ (by grind[Sl.ae]) ?_⟩;{intro b q aL;refine F.block b q ?_;intro aX;apply aL;unfold Sl.ae;cases z:s.p with|none=>grind[Value.ownBlock]|some a=>grind[Value.ownBlock]};rw[aK];simp[ac]
theorem AY{f:(an->Q->Prop)->an->Q->Prop}(c:Nat->an->Q->Prop)(g:∀K m x a,c m x a->(∀b d e,b<m->c b d e->K d e)->f K x a){m:Nat}{x:an}(i:c m x a):Loop f x a:=by intro K j;induction m using Nat.strongRecOn generalizing x a with|_ m k=>exact j _ _ (g K m x a i λb d e l n=>k b l n)
theorem Ip(a:b<=9223372036854775807):J8 D (b:Int)=(b:Int):=by grind[J8,IntKind.bits,IntKind.signed]
theorem Ab(a:b<9223372036854775807):J8 D ((b:Int)+(1:Int))=((b+1:Nat):Int):=by rw[show(b+1)=((b+1):Int)by omega];exact Ip a
def Uc(b:ah a a2=Z r)(c:ca r):pX a a2 ca:=⟨r,b,c⟩
def AC{b:Int->Prop}{n:Int}(c:ah a a2=Z (.int cg n))(d:b n):KP cg a a2 b:=⟨n,c,d⟩
def AZ{b:Bool->Prop}{n:Bool}(c:ah a a2=Z (J3 n))(d:b n):lr a a2 b:=⟨n,c,d⟩
def AO{b:E->Prop}{n:E}(c:ah a a2=Z (J7 n))(d:b n):KJ a a2 b:=⟨n,c,d⟩
def Ah{b:Q2->Prop}{n:Q2}(c:ah a a2=Z (J5 n))(d:b n):jZ a a2 b:=⟨n,c,d⟩
def AP{b:Sl->Prop}{s:Sl}(c:ah a a2=Z (J4 s.p s.len s.cap))(d:b s):JP a a2 b:=⟨s,c,d⟩
theorem AL(c:a[b]?=Z (J2 bi u bs))(d:bi[f]?=Z r):ah a ⟨b,f,V⟩=Z r:=by rw[Iq c];exact d
theorem AB(c:a[b]?=Z (J2 bi u bs))(d:bi[f]?=Z r):ah a ((⟨b,0,V⟩:Q6).add f)=Z r:=by rw[CR,B8];exact AL c d
structure Pr where
 key:E
 val:E
 gone:Bool
deriving DecidableEq
def Pr.agg(x:Pr):J0:=.agg #[J7 x.key,J7 x.val,J3 x.gone]
def Pr.cells(x:Pr):Array J0:=#[J7 x.key,J7 x.val,J3 x.gone]
def CX:bZ Pr where enc x:=[J7 x.key,J7 x.val,J3 x.gone];w:=3;len _:=rfl;pos:=by{omega};one x v a:=by simp at a;rcases a with rfl|rfl|rfl<;>rfl
def iZ:bZ Sl where enc s:=[J4 s.p s.len s.cap];w:=1;len _:=rfl;pos:=by{omega};one x v a:=by simp at a;subst a;rfl
structure j3 where
 v:J0
 one:P9 v=Y
def lJ:bZ j3 where enc s:=[s.v];w:=1;len _:=rfl;pos:=by{omega};one x v a:=by simp at a;subst a;exact x.one
theorem W.idx{b:bZ an}{c:List an}(d:W b k j c){i:Nat}{x:an}(hi:c[i]?=Z x)(f:∀a,j.p=Z a->Cells k (a.add (i*b.w)) (b.enc x)->ey a):iT j.p j.len (i:Int) ey:=by
 obtain⟨a,e,g⟩:=d.cells i x hi;have:i<j.len:=by rw[d.len];grind
 exact Tt e this (f a e g)
theorem Cells.pair{x:Pr}(b:Cells a a2 (CX.enc x)):ah a a2=Z (J7 x.key)/\ah a (a2 1)=Z (J7 x.val)/\ah a (a2 2)=Z (J3 x.gone):=by have c:=b 0 _ rfl;rw[add_zero]at c;exact⟨c,b 1 _ rfl,b 2 _ rfl⟩
theorem Cells.sl{x:Sl}(b:Cells a a2 (iZ.enc x)):ah a a2=Z (J4 x.p x.len x.cap):=by have c:=b 0 _ rfl;rwa[add_zero]at c
theorem Cells.val{x:j3}(b:Cells a a2 (lJ.enc x)):ah a a2=Z x.v:=by have c:=b 0 _ rfl;rwa[add_zero]at c
theorem bW.pair{d:E}(l:∀b c,b=a.size->c[b]?=Z (J2 #[J7 d6,J7 d,J3 ex] u (0,0))->L a c->c.size=a.size+1->c1 b c):bW a (J2 #[J7 h,J7 a1,J3 al] u) λb e=>aj e ⟨b,0,V⟩ (J7 d6) λf=>aj f ((⟨b,0,V⟩:Q6) 1) (J7 d) λi=>aj i ((⟨b,0,V⟩:Q6) 2) (J3 ex) λj=>c1 b j:=by refine AU λe _ n o x=>?_;refine Ac n (by simp) λf p q y=>?_;rw[CR,CR];refine Ac p (by simp) λi r s z=>?_;refine Ac r (by simp) λj t v A=>?_;refine l _ _ rfl (by simpa using t) ?_ (by omega);have m:=(q.trans s).trans v;exact⟨by omega,λb w _=>(m.get b (by omega) (by omega)).trans (o.get b w (by simp))⟩
theorem BP{i:Q1}{fx:bZ an}{x:an}(k:bi.toList=fx.enc x)(m:SS i u bo fx.w f=Y){s:Sl}{l:List an}(n:Own fx bo a s l)(o:(J l+1)*f<=140737488355328)(p:J l+1<=maxLen)(q:∀c e,Own fx bo e c (l++[x])->G (λb=>s.ae=Z b) a e->(∀b,c.ae=Z b->s.ae=Z b\/a.size<=b)->c.p≠V->d9 c e):bW a (J2 bi bo) λb g=>El d i (Builtin.append_ #[u,u] bc #[J4 s.p s.len s.cap,J4 (Z ⟨b,0,V⟩) 1 1]) g λv e=>∃c:Sl,v=J4 c.p c.len c.cap/\d9 c e:=by refine AU λg _ r j C=>?_;have w:Own fx bo g ⟨Z ⟨a.size,0,V⟩,1,1⟩ [x]:=Own.lit (fx:=fx) (l:=[x]) r (by simp[k]) (by simp[maxLen]);refine FR (s:=s) (src:=⟨Z ⟨a.size,0,V⟩,1,1⟩) m (n.ext j) w.view (by simpa using o) (by simpa using p) λc e y z F H=>?_;refine q c e y ?_ ?_ ?_;{exact j.mod.trans z};{grind};simp_all
theorem W.sub{b:bZ an}{d:List an}(e:W b k j d){lo hi:Nat}(g:lo<=hi)(l:hi<=J d):W b k ⟨BB j.p j.cap lo b.w,hi-lo,j.cap-lo⟩ ((d.take hi).drop lo):=by have m:=e.cap;have n:=e.len;refine⟨by simp;omega,by simp;omega,λi x c=>?_⟩;rw[Fc,HC]at c;split at c;{rename_i o;obtain⟨a,p,f⟩:=e.cells _ _ c;refine⟨a.add (lo*b.w),?_,?_⟩;{simp_all[BB,A0];omega};rw[add_add,<-DE];exact f};cases c
theorem YS{p:Q2}{lo:Nat}{len:Nat}(a:Sl.ae ⟨BB p b lo f,len,w⟩=Z n):p.map (·.block)=Z n:=by unfold Sl.ae BB at a;split at a;{exact a};simp_all[aY]
def Yields(f:ai)(h:Q1)(j:J0)(k:List Pr)(d:Nat->Bool->(Nat->Prop)->Q->Prop):Prop:=∀i x c a,k[i]?=Z x->d i Y c a->JB f h j #[x.agg] a λv e=>∃g O',v=J3 g/\(∀b,O' b->c b\/a.size<=b)/\G c a e/\d (i+1) g O' e
structure Body (h:Q) (J:Nat->Bool->(Nat->Prop)->Q->Prop):Prop where
 wf: ∀i g f7 hh,J i g f7 hh-> ∀b,f7 b->b<hh.size
 aZ: ∀i g f7 hh h',J i g f7 hh->G (λb=>¬f7 b/\h.size<=b) hh h'->J i g f7 h'
def Fe(l:ai)(j:Q1)(o:J0)(S:Nat->Prop)(m:Q)(k:List Pr):Prop:=(∀b,S b->b<m.size)/\∃f d,o=.func (.func f) #[] d/\(∀a,(callFunc f (#[]++#[a]++d)).calc j=Z (.enter f (#[]++#[a]++d)))/\∀(c:Q),(∀b,S b->c[b]?=m[b]?)->∀a e h,P9 a=Y->(∀b,S b->¬h b)->Body c e->Yields l j a k e->e 0 Y h c->AJ l j f (#[]++#[a]++d) c λv n=>v=J1 #[]/\∃i g O',G h c n/\(∀b,O' b->h b\/c.size<=b)/\e i g O' n/\(g=Y->i=J k)/\i<=J k
variable{m:List Pr}
theorem Fe.af{S S':Nat->Prop}(g:Fe d x r S a m)(e:∀b,S b->S' b)(h:∀b,S' b->b<k.size)(i:∀b,S b->k[b]?=a[b]?):Fe d x r S' k m:=by have⟨_,f,j,n,o,p⟩:=g;refine⟨h,f,j,n,o,λq s t u v w hd=>p q (λb c=>(s b (e b c)).trans (i b c)) t u v w λb c=>hd b (e b c)⟩
theorem Fe.one{S:Nat->Prop}(b:Fe d x r S a m):P9 r=Y/\ly r/\lA r=false:=by obtain⟨_,f,c,rfl,_⟩:=b;exact⟨rfl,by simp[ly],rfl⟩
def AZE(x:Pr):iY [.agg [.str,.str,.bool]]:=((x.key,x.val,x.gone,()),())
def AMs(c:Nat)(rec:Go.Loop)(d:Q)(e:Nat->Prop)(f:(Nat->Prop)->Q->Prop)(a:Q):Prop:=∃O',(∀b,O' b->e b\/d.size<=b)/\G (λb=>e b\/b=c) d a/\a[c]?=Z (.loop {rec with state:=.busy})/\f O' a
theorem A9{S:Nat->Prop}(c:S f):G S a (a.setIfInBounds f c5):=⟨by simp,λb _ d=>by grind⟩
theorem Df{o:Obj}(c:b<a.size):(a.setIfInBounds b o)[b]?=Z o:=by simp[c]
theorem uV{X:Q1}{S:Nat->Prop}(aA:Fe d X r S a m)(aB:∀b,S b->k[b]?=a[b]?)(u:Nat->Option (Option Nat)->(Nat->Prop)->Q->Prop)(q:Nat->Prop)(aQ:∀b,S b->¬q b){O:iY [.agg [.str,.str,.bool]]->Nat->Q->(Q->Prop)->(Option Nat->Q->Prop)->Prop}{an:Option Nat->Q->Prop}(ae:∀i c q e,u i c q e->∀b,q b->b<e.size)(B:∀i c q e j,u i c q e->G (λb=>¬q b/\k.size<=b) e j->u i c q j)(ao:u 0 V q k)(aC:∀i x o e rec ap aq,m[i]?=Z x->u i V o e->¬o (k.size+1)->k.size+1<e.size->e[k.size+1]?=Z (.loop rec)->rec.state=.ready->(∀j,AMs (k.size+1) rec e o (u (i+1) V) j->ap j)->(∀s j,AMs (k.size+1) rec e o (u (i+1) (Z s)) j->aq s j)->O (AZE x) (k.size+1) e ap aq)(aD:∀O' j,u (J m) V O' j->G q k j->¬O' k.size->(∀b,O' b->q b\/k.size<=b)->j[k.size]?=Z (.deferred (Z []))->be j)(aE:∀i s O' j,u i (Z s) O' j->i<=J m->G q k j->¬O' k.size->(∀b,O' b->q b\/k.size<=b)->j[k.size]?=Z (.deferred (Z []))->an s j):VD d X r [.agg [.str,.str,.bool]] O k be an:=by
 intro rec N af aR aF;obtain⟨aS,f,ar,rfl,aG,aH⟩:=aA;have aI:=ae _ _ _ _ ao;have aJ:∀b,S b->b<k.size:=λb p=>by grind
 have ag:L k ((k.push (.deferred (Z []))).push (.loop rec)):=(G.push k _).trans (G.push _ _);have aU:((k.push (.deferred (Z []))).push (.loop rec)).size=k.size+2:=by simp
 refine⟨f,_,?_,AJ.mono (aH ((k.push (.deferred (Z []))).push (.loop rec)) (λb p=>(ag.get b (aJ b p) (by simp)).trans (aB b p)) (.func (.yield (k.size+1)) #[] #[]) (λi g I e=>∃o:Nat->Prop,(∀b,I b↔o b\/b=k.size\/b=k.size+1)/\¬o k.size/\¬o (k.size+1)/\(∀b,o b->q b\/k.size<=b)/\k.size+2<=e.size/\e[k.size]?=Z (.deferred (Z []))/\match g with|true=>e[k.size+1]?=Z (.loop rec)/\u i V o e|false=>∃s z,e[k.size+1]?=Z (.loop z)/\z.state≠.busy/\z.pending=Z (mR s)/\u i (Z s) o e) (λb=>q b\/b=k.size\/b=k.size+1) rfl ?_ ?_ ?_ ?_) ?_⟩;{have aK:(do let au<-Deferred.ofValue (.func (.func f) #[] ar) #[.func (.yield (k.size+1)) #[] #[]];invoke au.target au.args).calc X=(callFunc f (#[]++#[.func (.yield (k.size+1)) #[] #[]]++ar)).calc X:=rfl;unfold Tu;rw[aK,aG]};{grind};{constructor;{rintro i g I e⟨o,w,_,_,_,ah,_,y⟩b p;rcases(w b).1 p with n|n|n;{cases g;{obtain⟨s,z,_,_,_,C⟩:=y;exact ae _ _ _ _ C b n};exact ae _ _ _ _ y.2 b n};{omega};omega};rintro i g I e j⟨o,w,F,H,K,ah,P,y⟩t;have av:G (λb=>¬o b/\k.size<=b) e j:=t.af λb _ p=>⟨λn=>p.1 ((w b).2 (.inl n)),by omega⟩;have aw:=t.get _ (by omega) λp=>p.1 ((w _).2 (.inr (.inr rfl)));refine⟨o,w,F,H,K,by have:=t.size;omega,(t.get _ (by omega) λp=>p.1 ((w _).2 (.inr (.inl rfl)))).trans P,?_⟩;cases g;{obtain⟨s,z,n,ac,ai,C⟩:=y;exact⟨s,z,aw.trans n,ac,ai,B _ _ _ _ _ C av⟩};exact⟨aw.trans y.1,B _ _ _ _ _ y.2 av⟩};{rintro i x I e hi⟨o,w,F,H,K,ah,P,ax,C⟩;refine aF (AZE x) e _ ax (aC i x o e rec _ _ hi C H ?_ ax N ?_ ?_);omega;{rintro j⟨O',aL,t,aj,ak⟩;have al:k.size+1<j.size:=by{have:=t.size;omega};refine⟨_,aj,Y,λb=>O' b\/b=k.size\/b=k.size+1,rfl,?_,?_,O',λ_=>Ek,?_,by grind,by grind,?_,?_,?_,?_⟩;{grind};{refine(t.trans (A9 (.inr rfl))).af λb _ p=>(w b).2 (p.elim .inl λn=>.inr (.inr n))};{grind};{simp;omega};{rw[HL (by omega)];exact(t.get _ (by omega) (by rintro(n|n);exact F n;omega)).trans P};{rw[Df al];cases rec;simp at N af;simp[N,af]};refine B _ _ _ _ _ ak (A9 ⟨?_,by omega⟩);grind};rintro s j⟨O',aL,t,aj,ak⟩;have al:k.size+1<j.size:=by{have:=t.size;omega};refine⟨_,aj,U,λb=>O' b\/b=k.size\/b=k.size+1,rfl,?_,?_,O',λ_=>Ek,?_,?_,?_,?_,?_,s,{rec with state:=.done,pending:=Z (mR s)},Df al,by simp,rfl,?_⟩;{grind};{refine(t.trans (A9 (.inr rfl))).af λb _ p=>(w b).2 (p.elim .inl λn=>.inr (.inr n))};{grind};{grind};{grind};{simp;omega};{rw[HL (by omega)];exact(t.get _ (by omega) (by rintro(n|n);exact F n;omega)).trans P};refine B _ _ _ _ _ ak (A9 ⟨?_,by omega⟩);grind};{refine⟨q,λ_=>Ek,λn=>?_,λn=>?_,λb p=>.inl p,by omega,?_,?_⟩;rotate_left 2;{grind};{exact⟨by grind,B _ _ _ _ _ ao ag.mod⟩};{have:=aI _ n;omega};grind};rintro v ac⟨_,i,g,I,t,aV,⟨o,w,F,H,K,ah,P,y⟩,aM,aO⟩;have M:∀R,G q k (ac.setIfInBounds (k.size+1) (.loop R)):=λR=>by refine⟨by simp;omega,λb p aW=>?_⟩;rw[HL (by omega)];exact(t.get b (by omega) (by grind)).trans (ag.get b p (by simp))
 have az:∀R,(ac.setIfInBounds (k.size+1) (.loop R))[k.size]?=Z (.deferred (Z [])):=λR=>by simp_all
 cases g;{have⟨s,z,n,ai,aP,C⟩:=y;exact⟨z,n,ai,.inr ⟨s,aP,aE i s o _ (B _ _ _ _ _ C (A9 ⟨H,by omega⟩)) aO (M _) F K (az _)⟩⟩};refine⟨rec,y.1,by simp[N],.inl ⟨af,aD o _ ?_ (M _) F K (az _)⟩⟩;have:=aM rfl;subst this;exact B _ _ _ _ _ y.2 (A9 ⟨H,by omega⟩)
open Go Ieee
abbrev fD:Format:=Ieee.double
theorem AOh(a:Bool)(m b c:Nat):signed a m (b+c)=signed a m b*(2:Int)^c:=by grind[signed,Nat.shiftLeft_eq,Nat.pow_add,Nat.mul_assoc,Int.neg_mul]
def DV(b:Datum)(c:Int):Prop:=∃s m,∃a:Nat,b=.number s m (-(a:Int))/\signed s m 0=c*(2:Int)^a
def VR(a:Nat)(b:Int):Prop:=DV (fD.read a) b
theorem RF(a:Bool)(m b:Nat):signed a m b=signed a m 0*(2:Int)^b:=by have:=AOh a m 0 b;rwa[B8]at this
theorem pow_pos(a:Nat):(0:Int)<(2:Int)^a:=Int.pow_pos (by decide)
theorem ALH(a b:Int)(c:Nat):compare (a*(2:Int)^c) (b*(2:Int)^c)=compare a b:=by have d:=pow_pos c;simp only[compare,compareOfLessAndEq];have e:(a*2^c<b*2^c)↔a<b:=Int.mul_lt_mul_right d;have f:(a*2^c=b*2^c)↔a=b:=Int.mul_eq_mul_right_iff (by omega);by_cases g:a<b<;>by_cases h:a=b<;>simp[e,f,g,h]
theorem DV.order{x d:Datum}{m:Int}(e:DV x i)(f:DV d m):x.order d=Z (compare i m):=by
 obtain⟨s,a,c,rfl,h⟩:=e;obtain⟨t,b,l,rfl,g⟩:=f;simp only[Datum.order];congr 1;have j:(-(c:Int)-min (-(c:Int)) (-(l:Int))).toNat=max c l-c:=by omega
 have k:(-(l:Int)-min (-(c:Int)) (-(l:Int))).toNat=max c l-l:=by omega
 rw[j,k,RF s,RF t,h,g,Mn,Mn,<-My,<-My,show c+(max c l-c)=max c l by omega,show l+(max c l-l)=max c l by omega,ALH]
theorem VR.order{x:Nat}{m:Int}(a:VR x i)(c:VR b m):fD.order x b=Z (compare i m):=DV.order a c
theorem cmp_eq{m:Int}:(compare i m=.eq)↔i=m:=by simp_all
theorem AIf(a:Bool)(c:b<fD.signWeight):fD.read (fD.word a b)=if b<fD.binade then .number a b fD.leastPlace else if b<fD.infRung then .number a (fD.binade+b%fD.binade) (fD.leastPlace+(b/fD.binade-1:Nat))else if b=fD.infRung then .infinity a else .nan a (b-fD.infRung):=by
 have f:0<fD.signWeight:=Mz _;have d:(fD.word a b/fD.signWeight%2==1)=a:=by grind[Format.word,Nat.div_eq_of_lt,Nat.add_div_left]
 have e:fD.word a b%fD.signWeight=b:=by unfold Format.word;cases a;{simp[BW c]};simp[BW c]
 unfold Format.read;simp only[d,e]
theorem ADV(a:Bool)(b:Nat):signed a 0 b=0:=by cases a<;>simp[signed]
theorem rX:fD.binade=4503599627370496:=by decide
theorem wF:fD.infRung=9218868437227405312:=by decide
theorem AYm:fD.signWeight=9223372036854775808:=by decide
theorem pB:fD.leastPlace=-1074:=by decide
theorem AYu:fD.fractionBits=52:=rfl
theorem AV6(a:Bool):VR (fD.word a 0) 0:=by refine⟨a,0,1074,?_,by rw[ADV,Int.zero_mul]⟩;simp_all[AIf,AYm,A1,rX,pB]
theorem AA2(f:0<b)(a:Nat):(b*2^a).log2=b.log2+a:=by
 have c:b≠0:=by omega
 have g:=Mz a;have d:b*2^a≠0:=Nat.mul_ne_zero c (by omega);have e:=(Nat.le_log2 c).1 (A2 _);have h:b<2^(b.log2+1):=(SJ c).1 (R1 _);have i:b.log2+a<=(b*2^a).log2:=by rw[Nat.le_log2 d,I0];exact DG _ e
 have j:(b*2^a).log2<b.log2+1+a:=by rw[SJ d,I0];simp_all
 omega
theorem AUr(b:Bool)(a:Nat):Toward.even.cut b a 0=a:=by simp[Toward.cut,Nat.mod_one]
theorem ARQ(a:Toward)(c:Bool)(e:0<b):a.cut c (b*2^f) f=b:=by unfold Toward.cut;grind[min,AA2,Nat.two_pow_pos,Nat.one_shiftLeft,Nat.mul_mod_left,Nat.mul_div_cancel]
theorem AT5(a:b<=52)(c:f<9007199254740992):min ((b+1022)*4503599627370496+f) 9218868437227405312=(b+1022)*4503599627370496+f:=by omega
theorem AXi(a:4503599627370496<=f):¬(b+1022)*4503599627370496+f<4503599627370496:=by omega
theorem AX0(a:b<=52)(c:f<9007199254740992):(b+1022)*4503599627370496+f<9218868437227405312:=by omega
theorem ASQ(a:4503599627370496<=f)(c:f<9007199254740992):((b+1022)*4503599627370496+f)%4503599627370496=f-4503599627370496/\((b+1022)*4503599627370496+f)/4503599627370496=b+1023:=by omega
theorem AXo(a:4503599627370496<=b):4503599627370496+(b-4503599627370496)=b:=by omega
theorem AX6(a:b<=52):(-1074:Int)+((b+1023-1:Nat):Int)=(b:Int)-52:=by omega
theorem AYT(a:b<=52):(b:Int)-52=-((52-b:Nat):Int):=by omega
theorem AX7(a:b<=52)(c:f<9007199254740992):(b+1022)*4503599627370496+f<9223372036854775808:=by omega
theorem AHk(c:Bool){K:Nat}(k:0<b)(l:b<9007199254740992):VR (fD.nearest c (b*2^K) (-(K:Int))) (if c then-(b:Int)else b):=by
 have g:b≠0:=by omega
 have w:=AA2 k K;have d:b.log2<=52:=by have:b.log2<53:=(SJ g).2 (by simpa using l);omega
 have m:=(Nat.le_log2 g).1 (A2 _);have n:=(SJ g).1 (R1 _);have o:¬b*2^K=0:=Nat.mul_ne_zero g (by simp_all);generalize x:b.log2=a at*;have h:4503599627370496<=b*2^(52-a):=by have e:2^a*2^(52-a)<=b*2^(52-a):=DG _ m;rw[<-I0,show a+(52-a)=52 by omega]at e;exact e
 have f:b*2^(52-a)<9007199254740992:=by have e:b*2^(52-a)<2^(a+1)*2^(52-a):=A1m n (Mz _);rw[<-I0,show a+1+(52-a)=53 by omega]at e;exact e
 have p:fD.nearest c (b*2^K) (-(K:Int))=fD.word c ((a+1022)*4503599627370496+b*2^(52-a)):=by unfold Format.nearest;rw[A0 o];have q:max (-(K:Int)+((b*2^K).log2:Nat)-(fD.fractionBits:Nat)) fD.leastPlace=(a:Int)-52:=by{grind[pB,AYu]};simp only[q];have r:Toward.even.cut c ((b*2^K)<<<(-(K:Int)-((a:Int)-52)).toNat) (((a:Int)-52)- -(K:Int)).toNat=b*2^(52-a):=by{by_cases y:K+a<=52;{have i:(((a:Int)-52)- -(K:Int)).toNat=0:=by{omega};have j:(-(K:Int)-((a:Int)-52)).toNat=52-a-K:=by{omega};rw[i,j,AUr,A0a,Mb,<-I0];congr 2;omega};have i:(((a:Int)-52)- -(K:Int)).toNat=a+K-52:=by{omega};have j:(-(K:Int)-((a:Int)-52)).toNat=0:=by{omega};have s:b*2^K=(b*2^(52-a))*2^(a+K-52):=by{rw[Mb,<-I0];congr 2;omega};rw[i,j,SM,s,ARQ _ _ (by omega)]};have t:(((a:Int)-52)-fD.leastPlace).toNat=a+1022:=by{rw[pB];omega};rw[r,t,rX,wF,AT5 d f]
 rw[p];have u:(a+1022)*4503599627370496+b*2^(52-a)<fD.signWeight:=by rw[AYm];exact AX7 d f
 refine⟨c,b*2^(52-a),52-a,?_,?_⟩;{rw[AIf c u,rX,wF,pB,A0 (AXi h),A1 (AX0 d f),(ASQ h f).1,(ASQ h f).2,AXo h,AX6 d,AYT d]};unfold signed;rw[SM];grind
theorem AUY{K:Nat}(d:signed al b 0=i*(2:Int)^K)(j:i.natAbs<9007199254740992):VR (fD.write (.number al b (-(K:Int)))) i:=by
 show VR (fD.nearest al b (-(K:Int))) i;have g:=pow_pos K;have k:(2:Int)^K=((2^K:Nat):Int):=by push_cast;rfl
 by_cases l:i=0;{subst l;have e:b=0:=by{unfold signed at d;omega};subst e;have h:fD.nearest al 0 (-(K:Int))=fD.word al 0:=by{unfold Format.nearest;rw[A1 rfl]};rw[h];exact AV6 al};have e:b=i.natAbs*2^K/\(if al then-(i.natAbs:Int)else i.natAbs)=i:=by unfold signed at d;rw[SM]at d;have m:(b:Int).natAbs=(i*2^K).natAbs:=by{omega};have h:(i*2^K).natAbs=i.natAbs*2^K:=by{rw[Int.natAbs_mul,k,A0c]};refine⟨by omega,?_⟩;split at d;{rename_i f;rw[A1 f];have:i<=0:=by{rcases Int.lt_or_le 0 i with c|c;{have:=Int.mul_pos c g;omega};exact c};omega};rename_i f;rw[A0 f];have:0<=i:=by{rcases Int.lt_or_le i 0 with c|c;{have:=Int.mul_neg_of_neg_of_pos c g;omega};exact c};omega
 rw[e.1];have:=AHk al (K:=K) (by omega) j;rw[e.2]at this;exact this
theorem AMP(a:Int):signed (decide (a<0)) a.natAbs 0=a:=by simp_all[signed,SM];omega
theorem DV.sum{x d:Datum}{m:Int}(f:DV x i)(h:DV d m)(j:(i+m).natAbs<9007199254740992):∃e,x.sum d=Z e/\VR (fD.write e) (i+m):=by
 obtain⟨s,a,c,rfl,k⟩:=f;obtain⟨t,b,l,rfl,g⟩:=h;refine⟨_,rfl,?_⟩;have o:min (-(c:Int)) (-(l:Int))=-((max c l:Nat):Int):=by omega
 have p:(-(c:Int)-min (-(c:Int)) (-(l:Int))).toNat=max c l-c:=by omega
 have q:(-(l:Int)-min (-(c:Int)) (-(l:Int))).toNat=max c l-l:=by omega
 have r:signed s a (-(c:Int)-min (-(c:Int)) (-(l:Int))).toNat+signed t b (-(l:Int)-min (-(c:Int)) (-(l:Int))).toNat=(i+m)*(2:Int)^(max c l):=by rw[p,q,RF s,RF t,k,g,Mn,Mn,<-My,<-My,show c+(max c l-c)=max c l by omega,show l+(max c l-l)=max c l by omega,Int.add_mul]
 simp only[r];rw[o];generalize u:(i+m)*(2:Int)^(max c l)=v at*;refine AUY ?_ j;rw[u];split;{simp_all[ADV,trans]};exact(AMP v)
theorem ARh{m:Nat}{i:Int}(a:fD.read b=.number al m i):i<=0\/4503599627370496<=m:=by grind[Format.read,rX,wF,pB]
theorem AN6(b:Bool)(m a:Nat):(signed b m a).natAbs=m*2^a:=by grind[signed,Nat.shiftLeft_eq,Int.natAbs_neg,Int.natAbs_natCast]
theorem VR.of_eq{x:Nat}{m:Int}(o:VR n m)(u:m.natAbs<4503599627370496)(c:fD.order x n=Z .eq):VR x m:=by obtain⟨t,b,l,p,g⟩:=o;unfold Format.order at c;rw[p]at c;unfold VR;cases e:fD.read x with|nan s f=>rw[e]at c;simp[Datum.order]at c|infinity s=>rw[e]at c;cases s<;>simp[Datum.order]at c|number s a i=>rw[e]at c;simp only[Datum.order,Ds]at c;rw[cmp_eq]at c;by_cases hi:i<=0;{refine⟨s,a,(-i).toNat,by grind,?_⟩;generalize v:(-i).toNat=d;have h:(i-min i (-(l:Int))).toNat=max d l-d:=by{omega};have j:(-(l:Int)-min i (-(l:Int))).toNat=max d l-l:=by{omega};rw[h,j,RF s,RF t,g,Mn,<-My,show l+(max d l-l)=max d l by omega]at c;refine Int.eq_of_mul_eq_mul_right (a:=(2:Int)^(max d l-d)) (by have:=pow_pos (max d l-d);omega) ?_;rw[c,Mn,<-My,show d+(max d l-d)=max d l by omega]};exfalso;have w:=(ARh e).resolve_left hi;have h:(i-min i (-(l:Int))).toNat=i.toNat+l:=by{omega};have j:(-(l:Int)-min i (-(l:Int))).toNat=0:=by{omega};rw[h,j,g]at c;have k:=congrArg Int.natAbs c;have q:(2:Int)^l=((2^l:Nat):Int):=by{push_cast;rfl};rw[AN6,Int.natAbs_mul,q,A0c,I0,<-Mb]at k;have z:a*2^i.toNat=m.natAbs:=Nat.eq_of_mul_eq_mul_right (Mz l) k;have r:1<=2^i.toNat:=Mz _;have A:a*1<=a*2^i.toNat:=Nat.mul_le_mul_left _ r;omega
theorem VR.inj{x:Nat}{c m:Int}(d:VR x c)(a:VR x m):c=m:=by have e:=VR.order d a;have b:=VR.order a a;rw[e]at b;have f:compare m m=.eq:=cmp_eq.2 rfl;rw[f]at b;exact cmp_eq.1 (CH b)
theorem El.calc(b:en.calc x=Z r)(c:e r a):El d x en a e:=λf=>⟨r,a,f,EG b _,c⟩
theorem El.run(b:∀w,en.run x w=.ok r w)(c:e r a):El d x en a e:=λf=>⟨r,a,f,b _,c⟩
open Go
theorem toList_inj{a b:E}:(a.toList==b.toList)=decide (a=b):=by rw[ByteArray.toList_eq,ByteArray.toList_eq];rw[Fo];simp[WD,<-Array.toList_inj]
theorem CF:bM h a1=decide (h=a1):=toList_inj
theorem AIg:∀(a:List UInt8),Op.bytesLess a a=U|[]=>rfl|a::x=>by simp[Op.bytesLess,AIg x]
theorem ATC:∀(a b:List UInt8),Op.bytesLess a b=U->Op.bytesLess b a=U->a=b|[],[],_,_=>rfl|[],_::_,c,_=>by simp[Op.bytesLess]at c|_::_,[],_,c=>by simp[Op.bytesLess]at c|a::x,b::f,d,e=>by simp only[Op.bytesLess,P3,Bool.and_eq_false_iff,decide_eq_false_iff_not,beq_eq_false_iff_ne]at d e;have g:a=b:=by{grind};subst g;rw[ATC x f (d.2.resolve_left (by simp)) (e.2.resolve_left (by simp))]
theorem ALF:∀(a b c:List UInt8),Op.bytesLess a b=Y->Op.bytesLess b c=Y->Op.bytesLess a c=Y|_,[],_,f,_=>by simp[Op.bytesLess]at f|_,_::_,[],_,f=>by simp[Op.bytesLess]at f|[],_::_,_::_,_,_=>by simp[Op.bytesLess]|a::x,b::g,c::h,e,d=>by simp[Op.bytesLess,FF,As,AW,beq_iff_eq]at e d⊢;rcases e with e|⟨rfl,e⟩;{grind};rcases d with d|⟨rfl,d⟩;{exact .inl d};exact .inr ⟨rfl,ALF x g h e d⟩
theorem Ep(a:E):aQ a a=false:=AIg _
theorem FY(d:aQ h a1=Y)(e:aQ a1 d6=Y):aQ h d6=true:=ALF _ _ _ d e
theorem VL(d:aQ h a1=U)(e:aQ a1 h=U):h=a1:=by
 have:=ATC _ _ d e;have c:bM h a1=true:=by simp[bM,this]
 rw[CF]at c;simpa using c
theorem UV(c:aQ h a1=Y):aQ a1 h=false:=by grind[aQ,FY,Ep]
theorem Sn(c:aQ h a1=Y):h≠a1:=by rintro rfl;rw[Ep]at c;cases c
theorem AUU(d:aQ h a1=Y)(e:aQ d6 a1=U):aQ h d6=true:=by grind[aQ,VL,FY]
theorem AIE(d:aQ a1 h=U)(e:aQ d6 a1=U):aQ d6 h=false:=by grind[aQ,AUU]
theorem AUb:∀(a b:List UInt8),Op.bytesLess a b=decide (a<b)|[],[]=>by simp[Op.bytesLess]|[],_::_=>by simp[Op.bytesLess]|_::_,[]=>by simp[Op.bytesLess]|a::x,b::c=>by simp[Op.bytesLess,AUb x c,A0X];grind
theorem p8(a b:E):aQ a b=decide (a.data.toList<b.data.toList):=by simp[aQ,ByteArray.toList_eq,AUb]
def Nw:bZ E where enc x:=[.string x];w:=1;len _:=rfl;pos:=by{omega};one x v a:=by simp at a;subst a;rfl
def JD:bZ Int where enc x:=[.int D x];w:=1;len _:=rfl;pos:=by{omega};one x v a:=by simp at a;subst a;rfl
theorem Cells.str{x:E}(b:Cells a a2 (Nw.enc x)):ah a a2=Z (.string x):=by have c:=b 0 _ rfl;rwa[add_zero]at c
theorem Cells.int{x:Int}(b:Cells a a2 (JD.enc x)):ah a a2=Z (.int D x):=by have c:=b 0 _ rfl;rwa[add_zero]at c
theorem Own.lt{c:bZ an}{d:List an}(e:Own c u a j d)(f:j.ae=Z b):b<a.size:=by rcases e.row with⟨rfl,_⟩|⟨g,i,k,l,_⟩;{simp[Sl.ae]at f};simp_all[Sl.ae,Ao]
def R3(a:E)(b:J0):List (E×J0)->List (E×J0)|[]=>[(a,b)]|p::m=>if p.1=a then(a,b)::m else p::R3 a b m
def MM(a:E)(m:List (E×J0)):Option J0:=(m.find? λp=>decide (p.1=a)).map (·.2)
def jH(a:E)(m:List (E×J0)):List (E×J0):=m.filter λp=>!decide (p.1=a)
theorem Ji(a:E)(p:E×J0)(m:List (E×J0)):MM a (p::m)=if p.1=a then Z p.2 else MM a m:=by unfold MM;grind
theorem vQ(b:E)(c:J0)(a:E):∀m,MM a (R3 b c m)=if b=a then Z c else MM a m|[]=>by unfold R3;rw[Ji]|p::m=>by unfold R3;split;{simp_all[Ji]};rename_i d;rw[Ji,Ji,vQ b c a m];grind
structure eQ (es:Array MapEntry) (clock:Nat) (m:List (E×J0)):Prop where
 same:es.toList.map (λe=>(e.key,e.val))=m.map λp=>(Value.string p.1,p.2)
 stamped:MapKept.Stamped es clock
 size:es.size<=maxLen
 keys: ∀p∈m,p.1.size<=maxLen
def TL(b:Q)(c:Nat)(m:List (E×J0)):Prop:=∃a clock,b[c]?=Z (.map a clock)/\eQ a clock m
theorem TL.mod{m:List (E×J0)}{S:Nat->Prop}(c:TL a b m)(x:G S a k)(d:¬S b):TL k b m:=by have⟨e,clock,f,g⟩:=c;exact⟨e,clock,x.ae f d,g⟩
theorem TL.lt{m:List (E×J0)}(c:TL a b m):b<a.size:=by have⟨e,clock,d,f⟩:=c;exact Ao d
theorem TL.empty{c:Nat}(d:a[b]?=Z (.map #[] c)):TL a b []:=⟨#[],c,d,rfl,MapKept.stamped_empty c,by simp,by simp⟩
theorem eQ.len{m:List (E×J0)}(a:eQ eh b m):eh.size=J m:=by rw[<-ON];have:=congrArg List.length a.same;simpa using this
theorem eQ.keysOf{m:List (E×J0)}(a:eQ eh b m):eh.toList.map (·.key)=m.map λp=>Value.string p.1:=by have:=congrArg (List.map Prod.fst) a.same;simpa[E0,I3]using this
theorem eQ.nodup{m:List (E×J0)}(c:eQ eh b m):(m.map (·.1)).Nodup:=by
 have a:=c.stamped.2.2;rw[c.keysOf]at a;have d:(m.map λp=>Value.string p.1)=(m.map (·.1)).map Value.string:=by simp
 rw[d]at a;exact(Ge.1 a).imp λe f=>e (congrArg _ f)
theorem YU(a:E)(g:J0):∀(b:List MapEntry)(m:List (E×J0))(i:Nat),(b.map λe=>(e.key,e.val))=(m.map λp=>(Value.string p.1,p.2))->(Instr.findNow .string (.string a) b i=Z V/\MM a m=V/\R3 a g m=m++[(a,g)]/\jH a m=m/\∀e∈b,e.key≠.string a)\/∃c u,Instr.findNow .string (.string a) b i=Z (Z (i+c,u))/\MM a m=Z u/\(∃e,b[c]?=Z e/\e.key=.string a)/\((b.modify c λe=>{e with key:=.string a,val:=g}).map λe=>(e.key,e.val))=(R3 a g m).map (λp=>(Value.string p.1,p.2))/\((m.map (·.1)).Nodup->((b.eraseIdx c).map λe=>(e.key,e.val))=(jH a m).map λp=>(Value.string p.1,p.2))|[],[],i,_=>.inl ⟨rfl,rfl,rfl,rfl,by simp⟩|[],_::_,_,d=>by simp at d|_::_,[],_,d=>by simp at d|e::b,p::m,i,d=>by simp[DH,LR,Xs]at d;obtain⟨⟨k,n⟩,l⟩:=d;have t:Instr.sameNow .string (.string a) e.key=Z (decide (a=p.1)):=by{rw[k];show Z (a==p.1)=_;congr 1;rw[Fo,MapKept.bytes_beq];simp};by_cases f:p.1=a;{refine .inr ⟨0,e.val,by simp_all[Instr.findNow,B9],by rw[Ji,A1 f,n],⟨e,rfl,by rw[k,f]⟩,by simp_all[R3,A1],?_⟩;intro v;simp[List.eraseIdx_zero,T4];rw[l];congr 1;unfold jH;rw[Cl];simp[f,decide_true,PC,BY,Cd];refine(I2.2 λw x=>?_).symm;grind};rcases YU a g b m (i+1) l with⟨o,h,j,q,y⟩|⟨c,u,o,h,⟨r,j,s⟩,z,q⟩;{refine .inl ⟨?_,?_,?_,?_,?_⟩;{grind[Instr.findNow,decide_eq_false]};{rw[Ji,A0 f];exact h};{unfold R3;rw[A0 f,j];rfl};{simp_all[jH,Cl];omega};simp_all};refine .inr ⟨c+1,u,?_,?_,⟨r,by simpa using j,s⟩,?_,?_⟩;{grind[Instr.findNow,decide_eq_false]};{rw[Ji,A0 f];exact h};{simp_all[R3,A0]};simp_all[Ks,jH,Cl]
theorem Lr(b:x.underlying u=Z .string)(c:Bool)(d:Nat)(e:E)(a:World):(Instr.checkKey c (d+1) u (.string e)).run x a=.ok () a:=by simp[Instr.checkKey,CG b]
theorem JX{P:Q1}(i:P.underlying bc=Z (.map bo e3))(c:P.underlying bo=Z .string)(n:(zeroValue e3).calc P=Z r){m:List (E×J0)}(o:TL a b m)(p:e ((MM h m).getD r) a):El d P (Instr.lookup bc (.map (Z b)) (.string h) U) a e:=by intro j;refine⟨_,a,j,?_,p⟩;obtain⟨q,clock,s,v⟩:=o;have l:=MapKept.run_getObj_map (P:=P) (w:=d.at a j) s;rcases YU h r q.toList m 0 v.same with⟨f,g,_⟩|⟨x,u,f,g,_,_⟩;{simp[Instr.lookup,CG i,l,Lr c,Instr.findKey,CG c,f,g,Result.andThen,EG n]};simp[Instr.lookup,CG i,l,Lr c,Instr.findKey,CG c,f,g,Result.andThen]
theorem AI4:∀{m:List (E×J0)}{p:E×J0},p∈R3 h r m->p.1=h\/p∈m|[],p,a=>by simp_all[R3]|q::m,p,a=>by unfold R3 at a;split at a;{grind};rcases AS.1 a with rfl|a;{simp_all};exact(AI4 a).imp id (CM _)
theorem vR{P:Q1}(C:P.underlying bc=Z (.map bo e3))(o:P.underlying bo=Z .string){m:List (E×J0)}(F:TL a b m)(H:h.size<=maxLen)(ag:J m<maxLen)(q:∀g,TL g b (R3 h r m)->G (λc=>c=b) a g->g.size=a.size->be g):iV d P (Instr.mapUpdate bc (.map (Z b)) (.string h) r) a be:=by
 intro f;obtain⟨i,clock,l,e⟩:=F;have s:=Ao l;have I:=MapKept.run_getObj_map (P:=P) (w:=d.at a f) l;have R:∀j,(setObj b j).run P (d.at a f)=.ok () (d.at (a.setIfInBounds b j) f):=λj=>MapKept.run_setObj_map j l;have y:∀p∈R3 h r m,p.1.size<=maxLen:=λp S=>(AI4 S).elim (λa=>by rw[a];exact H) (e.keys p);have ah:=e.len;rcases YU h r i.toList m 0 e.same with⟨z,X,n,_,Q⟩|⟨B,u,z,X,⟨N,n,ac⟩,ai,_⟩;{refine⟨a.setIfInBounds b (.map (i.push {key:=.string h,val:=r,born:=clock}) (clock+1)),f,by simp_all[Instr.mapUpdate,CG,Lr,Instr.findKey,Result.andThen],q _ ⟨_,_,Df s,?_,MapKept.stamped_push e.stamped Q,by simp;omega,y⟩ (A9 rfl) (by simp)⟩;rw[n];simp[e.same]};have ae:i[B]?=Z N:=by simpa using n
 refine⟨a.setIfInBounds b (.map (i.modify B λe=>{e with key:=.string h,val:=r}) clock),f,?_,q _ ⟨_,_,Df s,?_,MapKept.stamped_modify e.stamped _ _ (λ_ _=>rfl) (λx _ aj=>?_),by simpa using e.size,y⟩ (A9 rfl) (by simp)⟩;{have af:∀w,(Instr.keyThatStays (.string h) (.string h)).run P w=.ok (.string h) w:=λw=>by{simp[Instr.keyThatStays,Instr.sameBits,(MapKept.bytes_beq h h).2 rfl]};simp[Instr.mapUpdate,CG C,I,Lr o,Instr.findKey,CG o,z,ae,ac,af,Result.andThen,R]};{simp_all};simp_all
theorem AQY{P:Q1}{x:Q7}(R:P.underlying bc=Z (.map bo e3))(S:P.underlying bo=Z .string){m:List (E×J0)}(y:TL a b m)(r:∀j,TL j b (jH h m)->G (λc=>c=b) a j->j.size=a.size->e (.tuple #[]) j):El d P (Builtin.delete_ #[bc,bo] x #[.map (Z b),.string h]) a e:=by
 intro i;obtain⟨g,clock,n,f⟩:=y;have s:=Ao n;have X:=MapKept.run_getObj_map (P:=P) (w:=d.at a i) n;have Q:∀l,(setObj b l).run P (d.at a i)=.ok () (d.at (a.setIfInBounds b l) i):=λl=>MapKept.run_setObj_map l n;have v:∀p∈jH h m,p.1.size<=maxLen:=λp z=>f.keys p (Fk.1 z).1;rcases YU h (.bool Y) g.toList m 0 f.same with⟨B,C,_,o,_⟩|⟨q,u,B,C,⟨F,H,N⟩,_,o⟩;{refine⟨_,a.setIfInBounds b (.map g clock),i,?_,r _ ⟨_,_,Df s,by rw[o];exact f.same,f.stamped,f.size,v⟩ (A9 rfl) (by simp)⟩;simp_all[Builtin.delete_,CG,Lr,Instr.findKey,Result.andThen]};have I:g[q]?=Z F:=by simpa using H
 refine⟨_,a.setIfInBounds b (.map (g.eraseIdxIfInBounds q) clock),i,by simp_all[Builtin.delete_,CG,Lr,Instr.findKey,Result.andThen],r _ ⟨_,_,Df s,?_,MapKept.stamped_erase f.stamped _,?_,v⟩ (A9 rfl) (by simp)⟩;{rw[Array.eraseIdxIfInBounds,dif_pos (IN.1 I).1,A0Z];exact o f.nodup};have:(g.eraseIdxIfInBounds q).size<=g.size:=by grind
 have:=f.size;omega
def pa(_:J0):Option (DataW Unit×List MemPlace):=Z (.nil,[])
theorem ALa(x:Lit×DataW an):∀l:List (Lit×DataW an),(DataW.insert x l).Perm (x::l)|[]=>by simp[DataW.insert]|y::r=>by unfold DataW.insert;split;{exact MY _};exact((ALa x r).cons y).trans (List.Perm.swap x y r)
theorem sorted_perm:∀l:List (Lit×DataW an),(l.foldr DataW.insert []).Perm l|[]=>MY _|x::r=>(ALa x _).trans ((sorted_perm r).cons x)
theorem AOF{P:Q1}{kt:Q7}(h:P.underlying kt=Z .string){w:World}{m:List (E×J0)}(i:TL w.heap b m):∃d:DataW Unit,w.ownsMap P kt pa b (J m) d/\(strKeys d).Perm (m.map λp=>p.1.data.toList)/\Maps.size d=J m:=by
 obtain⟨c,clock,j,a⟩:=i;have k:∀x∈c.toList,∃s:E,x.key=.string s/\WideElems.rd P kt pa x=Z (.string s.data.toList,.nil):=by intro x e;have:x.key∈m.map λp=>Value.string p.1:=by{rw[<-a.keysOf];grind};obtain⟨p,l,g⟩:=Bm.1 this;refine⟨p.1,g.symm,?_⟩;simp[WideElems.rd,<-g,Go.WideMaps.keyOf_string_mk h (a.keys p l),pa]
 refine⟨_,⟨c,clock,j,⟨a.size,a.stamped,λx e=>by grind⟩,by rw[a.len];exact A2 _,rfl⟩,?_,?_⟩;{refine((sorted_perm _).map _).trans ?_;have f:(c.toList.map (WideElems.rg P kt pa)).map (λp=>strOf p.1)=(c.toList.map (·.key)).map λv=>match v with|.string s=>s.data.toList|_=>[]:=by{rw[E0,E0];refine HK λx e=>?_;obtain⟨s,f,n⟩:=k x e;simp[Function.comp,WideElems.rg,n,f,strOf]};rw[f,a.keysOf,E0];exact List.Perm.of_eq (HK λx _=>rfl)};show(J ((c.toList.map (WideElems.rg P kt pa)).foldr DataW.insert []))=_;rw[(sorted_perm _).length_eq];simp[a.len]
def rj(c:List E):Prop:=c.Pairwise λa b=>aQ a b=Y
theorem ANM{c:List (List UInt8)}(d:rj cu)(e:c.Perm (cu.map λx=>x.data.toList)):(c.mergeSort λx f=>decide (x<=f))=cu.map λx=>x.data.toList:=by
 have g:(cu.map λx=>x.data.toList).mergeSort leB=cu.map λx=>x.data.toList:=by refine List.mergeSort_of_pairwise (Ge.2 (d.imp λ{a b}h=>?_));simp_all[p8,AW,List.le_of_lt]
 exact(mergeSort_of_perm e).trans g
theorem AQo(a:List E):(a.map λx=>x.data.toList).map Proofs.encStr=a.flatMap Nw.enc:=by induction a with|nil=>rfl|cons x r b=>rw[DH,DH,b,CC];rfl
theorem wrap_u32(a:Nat):J8 .u32 (a:Int)=((a%4294967296:Nat):Int):=by simp[J8,IntKind.bits,IntKind.signed]
theorem wrap_u64(a:Nat):J8 .u64 (a:Int)=((a%18446744073709551616:Nat):Int):=by simp[J8,IntKind.bits,IntKind.signed]
theorem YG(c:b<4294967296)(d:f<4294967296):gY .u32 (b:Int) (f:Int)=((b^^^f:Nat):Int):=by
 have e:b^^^f<2^32:=PB (by simpa using c) (by simpa using d);unfold gY;have g:(BitVec.ofInt (IntKind.bits .u32) (b:Int)^^^BitVec.ofInt (IntKind.bits .u32) (f:Int)).toNat=b^^^f:=by show(BitVec.ofInt 32 (b:Int)^^^BitVec.ofInt 32 (f:Int)).toNat=b^^^f;grind
 rw[g,wrap_u32,BW (by simpa using e)]
theorem AXY{b:Nat}(c:f<4294967296)(d:b<4294967296):eN .u32 (f:Int) (b:Int)=((f|||b:Nat):Int):=by
 have e:f|||b<2^32:=Se (by simpa using c) (by simpa using d);unfold eN;have g:(BitVec.ofInt (IntKind.bits .u32) (f:Int)|||BitVec.ofInt (IntKind.bits .u32) (b:Int)).toNat=f|||b:=by show(BitVec.ofInt 32 (f:Int)|||BitVec.ofInt 32 (b:Int)).toNat=f|||b;grind
 rw[g,wrap_u32,BW (by simpa using e)]
theorem AVA(c:b<18446744073709551616)(d:f<18446744073709551616):eN .u64 (b:Int) (f:Int)=((b|||f:Nat):Int):=by
 have e:b|||f<2^64:=Se (by simpa using c) (by simpa using d);unfold eN;have g:(BitVec.ofInt (IntKind.bits .u64) (b:Int)|||BitVec.ofInt (IntKind.bits .u64) (f:Int)).toNat=b|||f:=by show(BitVec.ofInt 64 (b:Int)|||BitVec.ofInt 64 (f:Int)).toNat=b|||f;grind
 rw[g,wrap_u64,BW (by simpa using e)]
def wG(a b:Nat):(a:Int)*(b:Int)=((a*b:Nat):Int):=(Int.natCast_mul a b).symm
def hA(a b:Nat):Nat:=((a^^^b)*16777619)%4294967296
def hX(a b:Nat):Nat:=((a+b)%4294967296*2246822507)%4294967296
def hB(a b:Nat):Nat:=hX a b^^^(hX a b/8192)
def Xb(a:List UInt8):Nat×Nat:=a.foldl (λs c=>(hA s.1 c.toNat,hB s.2 c.toNat)) (2166136261,2538058380)
def pC(a:E):Nat:=(Xb a.data.toList).1
def rY(a:E):Nat:=(Xb a.data.toList).2|||1
theorem AYy(a b:Nat):hA a b<4294967296:=DB _ (by decide)
theorem AXL(a b:Nat):hX a b<4294967296:=DB _ (by decide)
theorem AYe(a b:Nat):hB a b<4294967296:=by have c:=AXL a b;have:hB a b<2^32:=PB (by simpa using c) (by omega);simpa using this
theorem AE8(a:List UInt8)(b:UInt8):Xb (a++[b])=(hA (Xb a).1 b.toNat,hB (Xb a).2 b.toNat):=by simp[Xb]
theorem AMH(a:List UInt8):(Xb a).1<4294967296/\(Xb a).2<4294967296:=by rw[<-List.reverse_reverse a];cases a.reverse with|nil=>decide|cons c r=>simp_all[A0d,AE8,AYy,AYe]
def AKj(a:E):pC a<4294967296:=(AMH _).1
theorem AY8(d:b<4294967296)(e:f<256):J8 .u32 ((gY .u32 (b:Int) (J8 .u32 (f:Int)))*(16777619:Int))=((hA b f:Nat):Int):=by rw[wrap_u32,BW (by omega),YG d (by omega),show((b^^^f:Nat):Int)*(16777619:Int)=(((b^^^f)*16777619:Nat):Int)from wG _ 16777619,wrap_u32];rfl
theorem AYa(a:b<4294967296)(d:f<256):J8 .u32 ((J8 .u32 ((b:Int)+(J8 .u32 (f:Int))))*(2246822507:Int))=((hX b f:Nat):Int):=by rw[wrap_u32 f,BW (by omega),show((b:Int)+(f:Int))=((b+f:Nat):Int)by push_cast;rfl,wrap_u32,show(((b+f)%4294967296:Nat):Int)*(2246822507:Int)=(((b+f)%4294967296*2246822507:Nat):Int)from wG _ 2246822507,wrap_u32];rfl
theorem Wy(a b:Nat):(a:Int).fdiv ((2:Int)^b)=((a/2^b:Nat):Int):=by grind
theorem AYr(a:b<4294967296)(d:f<256):gY .u32 (J8 .u32 ((J8 .u32 ((b:Int)+(J8 .u32 (f:Int))))*(2246822507:Int))) ((J8 .u32 ((J8 .u32 ((b:Int)+(J8 .u32 (f:Int))))*(2246822507:Int))).fdiv ((2:Int)^(13:Nat)))=((hB b f:Nat):Int):=by have e:=AXL b f;have g:hX b f/2^13<=hX b f:=Nat.div_le_self _ _;rw[AYa a d,Wy,YG e (by omega)];rfl
theorem Sy{i:Nat}{c:UInt8}(a:h.data.toList[i]?=Z c):dI h (i:Int)=(c.toNat:Int):=by
 have hi:i<J h.data.toList:=(Ax.1 a).1;have b:i<h.size:=by simpa using hi
 unfold dI;have d:(i:Int).toNat=i:=by omega
 rw[d];have e:h[i]?=Z c:=by rw[getElem?_pos h i b];congr 1;have f:=(Ax.1 a).2;rw[<-f];rw[Array.getElem_toList];rfl
 rw[e];rfl
def px(a:Nat):Int:=if a<1024 then 1024-(a:Int)else if a<2048 then 1024-(a:Int)else if a<3072 then(a:Int)-3072 else(a:Int)-3072
def Am(a:List UInt8):E:=⟨a.toArray⟩
theorem EQ(a:List UInt8):(Am a).data.toList=a:=by simp[Am]
theorem Es(a:E):Am a.data.toList=a:=by simp[Am]
theorem AX(a:List UInt8):(Am a).size=J a:=by simp[Am,ByteArray.size]
theorem LD{a b:List UInt8}:Am a=Am b↔a=b:=⟨λc=>by simp_all[Am,congrArg],λc=>by rw[c]⟩
def DT(a:Nat):UInt8:=UInt8.ofNat a
theorem EB(a:b<256):(DT b).toNat=b:=by simp[DT,Ys];omega
theorem AL5(a:UInt8):DT a.toNat=a:=by simp[DT]
def Bt(a:Nat):List UInt8:=if a<128 then[DT a]else DT (a%128+128)::Bt (a/128)termination_by a decreasing_by omega
theorem GK{n:Nat}(a:n<128):Bt n=[DT n]:=by rw[Bt,A1 a]
theorem Ra{n:Nat}(a:¬n<128):Bt n=DT (n%128+128)::Bt (n/128):=by rw[Bt,A0 a]
def Om:Nat->Nat->List UInt8->Option (Nat×List UInt8)|_,_,[]=>V|i,a,c::t=>if 10<=i\/(i=9/\1<c.toNat)\/(0<i/\c.toNat=0)then V else if c.toNat<128 then Z (a+c.toNat*128^i,t)else Om (i+1) (a+c.toNat%128*128^i) t
theorem Ns{i:Nat}(a:i<=b):128^i<=128^b:=Zs (by decide) a
theorem jM(g:List UInt8):∀(b i a:Nat),b*128^i<18446744073709551616->(i=0\/0<b)->Om i a (Bt b++g)=Z (a+b*128^i,g):=by intro b;induction b using Nat.strongRecOn with|ind b j=>intro i a l m;by_cases d:b<128;{rw[GK d];simp only[DO,CN,Om,EB (show b<256 by omega)];rw[A0,A1 d];rintro(c|⟨c,e⟩|⟨c,e⟩);{have f:=Ns c;have h:1*128^i<=b*128^i:=DG _ (by omega);omega};{grind};omega};rw[Ra d];have hd:b/128<b:=by{omega};simp only[DO,Om,EB (show b%128+128<256 by omega)];rw[A0,A0 (by omega),j (b/128) hd];{have k:(b%128+128)%128=b%128:=by{omega};rw[k,GC,KB,show b%128*128^i+b/128*(128^i*128)=(b%128+128*(b/128))*128^i by grind,Nat.mod_add_div]};{have f:b/128*128<=b:=Nat.div_mul_le_self _ _;have h:b/128*128*128^i<=b*128^i:=DG _ f;rw[GC,IT (128^i) 128,<-Mb];omega};{omega};rintro(c|⟨c,e⟩|⟨c,e⟩);{have f:=Ns c;have h:128*128^i<=b*128^i:=DG _ (by omega);omega};{grind};omega
theorem ALz:∀(l:List UInt8)(i a n:Nat)(t:List UInt8),Om i a l=Z (n,t)->∃m,n=a+m*128^i/\l=Bt m++t/\m*128^i<18446744073709551616/\(i=0\/0<m)|[],i,a,n,t,b=>by simp[Om]at b|c::l,i,a,n,t,b=>by simp only[Om]at b;split at b;{cases b};rename_i k;have o:=c.toNat_lt;split at b;{rename_i d;obtain⟨rfl,rfl⟩:=b;refine⟨c.toNat,rfl,by rw[GK d,AL5];rfl,?_,by omega⟩;by_cases p:i=9;{grind};have q:=Ns (show i<=8 by omega);have r:c.toNat*128^i<=127*128^i:=DG _ (by omega);omega};rename_i d;obtain⟨m,s,rfl,e,u⟩:=ALz l (i+1) _ n t b;have v:0<m:=by{omega};refine⟨c.toNat%128+128*m,?_,?_,?_,by omega⟩;{grind};{rw[Ra (n:=c.toNat%128+128*m) (by omega),show(c.toNat%128+128*m)%128+128=c.toNat by omega,show(c.toNat%128+128*m)/128=m by omega,AL5];rfl};rw[GC,IT (128^i) 128,<-Mb]at e;have w:(18446744073709551616:Nat)=144115188075855872*128:=by{decide};have x:i<=8:=by{omega};have f:(18446744073709551616:Nat)=128^(i+1)*(18446744073709551616/128^(i+1)):=by{have:i=0\/i=1\/i=2\/i=3\/i=4\/i=5\/i=6\/i=7\/i=8:=by{omega};rcases this with rfl|rfl|rfl|rfl|rfl|rfl|rfl|rfl|rfl<;>decide};have g:0<128^i:=Nat.pos_of_ne_zero (Nat.pos_iff_ne_zero.1 (Nat.pow_pos (by decide)));have h:m<18446744073709551616/128^(i+1):=by{refine Nat.lt_of_mul_lt_mul_left (a:=128^(i+1)) ?_;grind};have j:128^(i+1)*(m+1)<=128^(i+1)*(18446744073709551616/128^(i+1)):=Nat.mul_le_mul_left _ h;rw[<-f,GC]at j;have y:(c.toNat%128+128*m)*128^i<128*(m+1)*128^i:=A1m (by omega) g;have z:128*(m+1)*128^i=128^i*128*(m+1):=by{grind};omega
theorem AG3:∀a:Nat,∃b x,Bt a=b++[x]/\(∀c∈b,128<=c.toNat)/\x.toNat<128:=by intro a;induction a using Nat.strongRecOn with|ind a f=>by_cases e:a<128;{exact⟨[],DT a,by rw[GK e];rfl,by simp,by grind[EB]⟩};have⟨b,x,g,h,i⟩:=f (a/128) (by omega);refine⟨DT (a%128+128)::b,x,by rw[Ra e,g];rfl,λc d=>?_,i⟩;rcases AS.1 d with rfl|d;{grind[EB]};exact h c d
theorem ALf:∀(a b:Nat),b<128^(a+1)->J (Bt b)<=a+1:=by intro a;induction a with|zero=>simp_all[GK]|succ a c=>grind[GK,Ra,Nat.div_lt_iff_lt_mul,Nat.pow_succ]
theorem Aj{n:Nat}(a:n<18446744073709551616):J (Bt n)<=10:=by refine ALf 9 n (CI a ?_);decide
def SQ:List UInt8->Nat|[]=>0|c::t=>c.toNat%128+128*SQ t
theorem AR9:∀a:Nat,SQ (Bt a)=a:=by intro a;induction a using Nat.strongRecOn with|ind a b=>grind[GK,SQ,EB,Ra]
theorem AIt(a:UInt8):∀l:List UInt8,SQ (l++[a])=SQ l+a.toNat%128*128^J l|[]=>by simp[SQ]|x::l=>by simp[DO,SQ,AIt a l,Bs,GC,Nat.mul_add];grind
theorem APo:∀l:List UInt8,SQ l<128^J l|[]=>by simp[SQ]|c::l=>by have:=APo l;simp[SQ,Bs,GC];omega
theorem pD(a:Om 0 0 a4=Z (b,cf)):a4=Bt b++cf/\b<18446744073709551616:=by grind[ALz]
theorem YQ(c:b<18446744073709551616)(a:List UInt8):Om 0 0 (Bt b++a)=Z (b,a):=by rw[jM a b 0 0 (by simpa using c) (.inl rfl)];simp
theorem rZ{m:Nat}(a:b<18446744073709551616)(c:m<18446744073709551616)(d:Bt b++a4=Bt m++cf):b=m/\a4=cf:=by grind[YQ]
theorem ATA{i:Nat}(k:a4[i]?=Z df)(m:df.toNat<128)(e:∀x∈a4.take i,128<=x.toNat)(hi:i<10):Om 0 0 a4=if Bt (SQ (a4.take (i+1))%18446744073709551616)=a4.take (i+1)then Z (SQ (a4.take (i+1))%18446744073709551616,a4.drop (i+1))else none:=by by_cases a:Bt (SQ (a4.take (i+1))%18446744073709551616)=a4.take (i+1);{rw[A1 a];grind[YQ,SQ,Nat.mod_lt,List.take_append_drop]};rw[A0 a];cases f:Om 0 0 a4 with|none=>rfl|some p=>obtain⟨d,t⟩:=p;obtain⟨n,g⟩:=pD f;exfalso;obtain⟨b,x,o,q,r⟩:=AG3 d;have s:J b=i:=by{rcases LL (J b) i with u|h|v;{have:x∈a4.take i:=by{have:(a4.take i)[J b]?=Z x:=by{simp_all};exact AH this};have:=e x this;omega};{exact h};grind};have j:a4.take (i+1)=Bt d:=by{grind};rw[j,AR9,BW g]at a;exact a rfl
theorem AM2(a:∀x∈a4.take 10,128<=x.toNat):Om 0 0 a4=none:=by cases b:Om 0 0 a4 with|none=>rfl|some p=>obtain⟨c,t⟩:=p;obtain⟨f,d⟩:=pD b;have⟨e,x,g,h,i⟩:=AG3 c;have j:=Aj d;have:x∈a4.take 10:=by{have:(a4.take 10)[J e]?=Z x:=by{grind};exact AH this};have:=a x this;omega
def pE(a:Nat):Nat:=if a%2=1 then a/2^^^3988292384 else a/2
def si:Nat->Nat->Nat|0,c=>c|k+1,c=>pE (si k c)
def sk(a:Nat)(b:UInt8):Nat:=si 8 (a^^^b.toNat)
def kJ(a:List UInt8):Nat:=a.foldl sk 4294967295
def lX(a:List UInt8):Nat:=4294967295-kJ a
theorem AQq(a:b<4294967296):pE b<4294967296:=by unfold pE;split;{exact PB (n:=32) (by omega) (by decide)};omega
theorem wH(a:b<4294967296):∀k,si k b<4294967296|0=>a|k+1=>AQq (wH a k)
theorem AWd(d:b<4294967296)(a:UInt8):sk b a<4294967296:=by have e:=a.toNat_lt;exact wH (PB (n:=32) d (by omega)) 8
theorem ARp(a:List UInt8)(b:UInt8):kJ (a++[b])=sk (kJ a) b:=by simp[kJ]
theorem APd(a:List UInt8):kJ a<4294967296:=by suffices  ∀(a:List UInt8)(c:Nat),c<4294967296->a.foldl sk c<4294967296 from this a _ (by decide);intro a;induction a with|nil=>exactλc b=>b|cons x a d=>simp_all[AWd]
def Vn(a:Nat):List UInt8:=[DT (a/16777216%256),DT (a/65536%256),DT (a/256%256),DT (a%256)]
theorem PV(a:Nat):J (Vn a)=4:=rfl
def KO(a:List UInt8):List UInt8:=Bt (J a)++Vn (lX a)++a
def Sa(b:List UInt8):Nat×List UInt8×List UInt8:=match Om 0 0 b with|none=>if J b<10/\∀c∈b,128<=c.toNat then(20,[],[])else(21,[],[])|some (a,r)=>if 1048576<a then(21,[],[])else if J r<4+a then(20,[],[])else if r.take 4=Vn (lX ((r.drop 4).take a))then(0,(r.drop 4).take a,r.drop (4+a))else(21,[],[])
theorem AQp(e:J a4<=1048576)(a:List UInt8):Sa (KO a4++a)=(0,a4,a):=by
 unfold Sa KO;rw[AI,AI,YQ (by omega)];dsimp only;rw[A0 (by omega),A0 (by simp[PV])];have c:(Vn (lX a4)++(a4++a)).take 4=Vn (lX a4):=by rw[A1r (by simp[PV])];exact Bk (by simp[PV])
 have b:(Vn (lX a4)++(a4++a)).drop 4=a4++a:=by rw[A1g (by simp[PV])];simp[Vn]
 have d:(a4++a).take (J a4)=a4:=by simp
 rw[c,b,d,A1 rfl,<-Ix,b];simp
structure Rd where
 rest:List UInt8
 bad:Bool
def Gn:Rd:=⟨[],Y⟩
def Rd.dk(a:Rd):Prop:=a.bad=Y->a.rest=[]
def Fz(a:Rd):Nat×Rd:=if a.bad then(0,a)else match Om 0 0 a.rest with|none=>(0,Gn)|some (b,t)=>(b,⟨t,U⟩)
def Bh(b:Nat)(a:Rd):Nat×Rd:=if(Fz a).2.bad then(0,(Fz a).2)else if b<(Fz a).1 then(0,Gn)else Fz a
def Ic(b:Nat)(a:Rd):List UInt8×Rd:=if a.bad then([],a)else if J a.rest<b then([],Gn)else(a.rest.take b,⟨a.rest.drop b,U⟩)
def ER(a:Rd):List UInt8×Rd:=if(Fz a).2.bad then([],(Fz a).2)else Ic (Fz a).1 (Fz a).2
def XY(a:Rd):Bool:=!a.bad&&a.rest.isEmpty
def Bj(a:List UInt8):List UInt8:=Bt (J a)++a
theorem ALT(c:b<18446744073709551616)(a:List UInt8):Fz ⟨Bt b++a,U⟩=(b,⟨a,U⟩):=by simp[Fz,YQ c]
theorem FE{n most:Nat}(b:n<18446744073709551616)(c:n<=most)(a:List UInt8):Bh most ⟨Bt n++a,U⟩=(n,⟨a,U⟩):=by grind[Bh,ALT]
theorem AH4(a b:List UInt8):Ic (J a) ⟨a++b,U⟩=(a,⟨b,U⟩):=by simp[Ic];omega
theorem Ls{l:List UInt8}(b:J l<18446744073709551616)(a:List UInt8):ER ⟨Bj l++a,U⟩=(l,⟨a,U⟩):=by simp only[ER,Bj,AI,ALT b,AH4];simp
variable{bf:Rd}
theorem AK3(a:bf.bad=Y):Fz bf=(0,bf):=by simp[Fz,a]
theorem PX(a:bf.dk):(Fz bf).2.dk:=by unfold Fz;split;{exact a};split;{exactλ_=>rfl};exactλa=>by cases a
theorem Nh{m:Nat}(a:bf.dk):(Bh m bf).2.dk:=by unfold Bh;split;{exact PX a};split;{exactλ_=>rfl};exact PX a
theorem AOD(a:bf.dk):(Ic b bf).2.dk:=by unfold Ic;split;{exact a};split;{exactλ_=>rfl};exactλa=>by cases a
theorem Rl(a:bf.dk):(ER bf).2.dk:=by unfold ER;split;{exact PX a};exact AOD (PX a)
theorem AH6(a:(Fz bf).2.bad=U):bf.bad=U/\bf.rest=Bt (Fz bf).1++(Fz bf).2.rest/\(Fz bf).1<18446744073709551616:=by unfold Fz at a⊢;split at a;{simp_all};rename_i c;cases b:Om 0 0 bf.rest with|none=>rw[b]at a;cases a|some p=>grind[pD]
theorem Hr{m:Nat}(a:(Bh m bf).2.bad=U):bf.bad=U/\bf.rest=Bt (Bh m bf).1++(Bh m bf).2.rest/\(Bh m bf).1<=m:=by unfold Bh at a⊢;split at a;{simp_all};split at a;{cases a};simp_all[A0,AH6]
theorem AOV(a:(Ic b bf).2.bad=U):bf.bad=U/\bf.rest=(Ic b bf).1++(Ic b bf).2.rest/\J (Ic b bf).1=b:=by unfold Ic at a⊢;split at a;{simp_all};split at a;{cases a};simp_all[A0]
theorem Uw(a:(ER bf).2.bad=U):bf.bad=U/\bf.rest=Bj (ER bf).1++(ER bf).2.rest:=by unfold ER at a⊢;split at a;{simp_all};rename_i b;rw[A0 b];grind[AH6,AOV,Bj,List.append_assoc]
theorem sq(a:Rd):J (Fz a).2.rest<=J a.rest:=by unfold Fz;split;{exact A2 _};split;{simp[Gn]};rename_i d t b;obtain⟨c,_⟩:=pD b;rw[c];simp
theorem F8(m:Nat)(a:Rd):J (Bh m a).2.rest<=J a.rest:=by grind[Bh,sq,Gn]
theorem AQx(b:Nat)(a:Rd):J (Ic b a).2.rest<=J a.rest/\J (Ic b a).1<=J a.rest:=by grind[Ic,Gn]
theorem Lt(a:Rd):J (ER a).2.rest<=J a.rest/\J (ER a).1<=J a.rest:=by grind[ER,sq,AQx,Fz]
def IM:bZ UInt8 where enc x:=[.int .u8 (x.toNat:Int)];w:=1;len _:=rfl;pos:=by{omega};one x v a:=by simp at a;subst a;rfl
theorem Cells.byte{x:UInt8}(b:Cells a a2 (IM.enc x)):ah a a2=Z (.int .u8 (x.toNat:Int)):=by have c:=b 0 _ rfl;rwa[add_zero]at c
theorem AIF:∀(l:List UInt8)(s:E),(l.map λc=>(c.toNat:Int)).foldl (λr a=>r.push (UInt8.ofNat a.toNat)) s=⟨s.data++l.toArray⟩|[],s=>by simp|c::l,s=>by simp only[DH,LO];rw[AIF l];simp_all
theorem Ng{P:Q1}(m:P.underlying bc=Z (.slice e3))(n:P.underlying e3=Z (.int .u8))(o:P.underlying bo=Z .string){s:Sl}{l:List UInt8}(g:W IM k s l)(p:e (.string (Am l)) k):El d P (convert bc bo (.slice s.p s.len s.cap)) k e:=by have q:=g.len;refineλf=>⟨_,k,f,?_,p⟩;rw[run_convert_bytes_string _ bc bo e3 _ s.len s.cap m n o];cases i:s.p with|none=>have r:l=[]:=by{cases l with|nil=>rfl|cons c l=>obtain⟨a,b,_⟩:=g.cells 0 c rfl;rw[i]at b;cases b};subst r;simp[Conv.bytesToString,Am];rfl|some a=>have t:(loadCells a s.len).run P (d.at k f)=.ok ((l.map λc=>(c.toNat:Int)).map (Value.int .u8)).toArray (d.at k f):=by{have:=run_loadCells_list (P:=P) (w:=d.at k f) a ((l.map λc=>(c.toNat:Int)).map (Value.int .u8)) (λv u j=>by simp only[HI,Option.map_map,Hk]at j;obtain⟨c,x,rfl⟩:=j;obtain⟨z,b,y⟩:=g.cells v c x;rw[i]at b;cases b;have:=Cells.byte y;simp only[IM,Dd]at this;exact this);simpa[q]using this};rw[run_bytesToString _ a s.len s.cap _ t,AIF];simp[Am,ByteArray.empty,ByteArray.emptyWithCapacity];rfl
theorem eS(a:E)(i b:Nat):a.extract i b=Am ((a.data.toList.take b).drop i):=by apply A0e;grind[ByteArray.data_extract,Am,Array.toList_inj,Array.toList_extract,List.extract_eq_take_drop,List.drop_take]
theorem ARz(a:E):J a.data.toList=a.size:=by simp_all
theorem ALe(a:E)(i:Nat):a.extract i a.size=Am (a.data.toList.drop i):=by rw[eS,Bk (by simp_all)]
theorem ASO(a:E)(i:Nat):a.extract 0 i=Am (a.data.toList.take i):=by rw[eS];simp
theorem wrap_u8(a:Nat):J8 .u8 (a:Int)=((a%256:Nat):Int):=by simp[J8,IntKind.bits,IntKind.signed]
theorem AW9{a b:Nat}(c:a<256)(d:b<256):eN .u8 (a:Int) (b:Int)=((a|||b:Nat):Int):=by
 have e:a|||b<2^8:=Se (by simpa using c) (by simpa using d);unfold eN;have f:(BitVec.ofInt (IntKind.bits .u8) (a:Int)|||BitVec.ofInt (IntKind.bits .u8) (b:Int)).toNat=a|||b:=by show(BitVec.ofInt 8 (a:Int)|||BitVec.ofInt 8 (b:Int)).toNat=a|||b;grind
 rw[f,wrap_u8,BW (by simpa using e)]
theorem AT1(c:b<256)(g:f<256):Iw .u8 (b:Int) (f:Int)=((b&&&f:Nat):Int):=by
 have d:b&&&f<2^8:=A00 Nat.and_le_left (by simpa using c);unfold Iw;have e:(BitVec.ofInt (IntKind.bits .u8) (b:Int)&&&BitVec.ofInt (IntKind.bits .u8) (f:Int)).toNat=b&&&f:=by show(BitVec.ofInt 8 (b:Int)&&&BitVec.ofInt 8 (f:Int)).toNat=b&&&f;grind
 rw[e,wrap_u8,BW (by simpa using d)]
theorem AWD(c:b<4294967296)(g:f<4294967296):Iw .u32 (b:Int) (f:Int)=((b&&&f:Nat):Int):=by
 have d:b&&&f<2^32:=A00 Nat.and_le_left (by simpa using c);unfold Iw;have e:(BitVec.ofInt (IntKind.bits .u32) (b:Int)&&&BitVec.ofInt (IntKind.bits .u32) (f:Int)).toNat=b&&&f:=by show(BitVec.ofInt 32 (b:Int)&&&BitVec.ofInt 32 (f:Int)).toNat=b&&&f;grind
 rw[e,wrap_u32,BW (by simpa using d)]
theorem AZG:∀x,x<256->x|||128=x%128+128:=by decide+kernel
theorem AX4:∀x,x<256->x&&&127=x%128:=by decide+kernel
theorem AU9(c:Nat):eN .u8 (J8 .u8 (c:Int)) (128:Int)=(((DT (c%128+128)).toNat:Nat):Int):=by have d:=AW9 (a:=c%256) (b:=128) (DB _ (by decide)) (by decide);rw[wrap_u8];rw[show(128:Int)=((128:Nat):Int)from rfl,d,AZG _ (DB _ (by decide)),EB (by omega)];congr 1;omega
theorem wI(i:Nat):2^(7*i)=128^i:=by rw[Nat.pow_mul]
theorem APS{x i:Nat}(hi:i<=9)(e:b<128^i)(f:x<128):eN .u64 (b:Int) (((x*128^i%18446744073709551616:Nat)):Int)=((b+x*128^i%18446744073709551616:Nat):Int):=by
 have g:0<128^i:=Nat.pow_pos (by decide);have h:=Ns hi;have j:(128:Nat)^9=9223372036854775808:=by decide
 rw[AVA (by omega) (DB _ (by decide))];congr 1;have c:∃d,(18446744073709551616:Nat)=128^i*d:=by have:i=0\/i=1\/i=2\/i=3\/i=4\/i=5\/i=6\/i=7\/i=8\/i=9:=by{omega};refine⟨18446744073709551616/128^i,?_⟩;grind
 obtain⟨d,c⟩:=c;rw[c,IT x,Nat.mul_mod_mul_left,<-wI,Nat.or_comm,Nat.add_comm];exact(A1v (by rw[wI];exact e) _).symm
theorem AUp{x i:Nat}(hi:i<=9)(b:x<128):J8 .u64 ((x:Int)*((2:Int)^(min ((7*i:Nat):Int).toNat (IntKind.bits .u64))))=((x*128^i%18446744073709551616:Nat):Int):=by
 have a:min ((7*i:Nat):Int).toNat (IntKind.bits .u64)=7*i:=by have:IntKind.bits .u64=64:=rfl;omega
 rw[a,show((2:Int)^(7*i))=((2^(7*i):Nat):Int)by simp,wG,wrap_u64,wI]
def G.more{S:Nat->Prop}(x:L a k)(m:G S k M)(d:∀b,S b->a.size<=b):L a M:=G.then x (m.af λc _ e=>.inr (d c e))
abbrev bl(a:E):List UInt8:=a.data.toList
theorem Ba(a:E):J (bl a)=a.size:=ARz a
theorem GQ(a:List UInt8):bl (Am a)=a:=EQ a
theorem Pq(a:E):Am (bl a)=a:=Es a
def Aq(a:E):Bool:=decide (1<=a.size/\a.size<=16/\∀c∈bl a,33<=c.toNat/\c.toNat<=126)
theorem GH:Aq h=Y↔1<=h.size/\h.size<=16/\∀c∈bl h,33<=c.toNat/\c.toNat<=126:=by simp[Aq]
structure bP where
 kind:Int
 name:E
 aq:E
 tries:Int
 aC:Int
 wait:Int
def bP.cells(x:bP):Array J0:=#[D x.kind,J7 x.name,J7 x.aq,D x.tries,D x.aC,D x.wait]
def Ho:bZ bP where enc x:=[D x.kind,J7 x.name,J7 x.aq,D x.tries,D x.aC,D x.wait];w:=6;len _:=rfl;pos:=by{omega};one x v a:=by simp at a;rcases a with rfl|rfl|rfl|rfl|rfl|rfl<;>rfl
abbrev Ew:E:=⟨#[]⟩
def bS(a lo hi:Int):Bool:=decide (lo<=a/\a<=hi)
theorem Be{lo hi:Int}:bS i lo hi=Y↔lo<=i/\i<=hi:=by simp[bS]
def MN(x:bP):Bool:=if x.kind=1 then((decide (x.aq=Ew)&&decide (x.aC=0))||(Aq x.aq&&bS x.aC 1 5))&&Aq x.name&&bS x.tries 1 5&&decide (x.wait=0)else if x.kind=2 then decide (x.name=Ew)&&decide (x.aq=Ew)&&decide (x.tries=0)&&decide (x.aC=0)&&bS x.wait 1 1000 else if x.kind=3 then decide (x.aq=Ew)&&decide (x.tries=0)&&decide (x.aC=0)&&decide (x.wait=0)&&Aq x.name else U
structure aV where
 steps:List bP
 aw:Int
def Eb(p:aV):Bool:=decide (J p.steps<=16)&&bS p.aw 0 16000&&p.steps.all MN
def GI(x:bP):List UInt8:=Bt x.kind.toNat++(if x.kind=1 then Bj (bl x.name)++Bt x.tries.toNat++Bj (bl x.aq)++Bt x.aC.toNat else if x.kind=2 then Bt x.wait.toNat else Bj (bl x.name))
def CE(p:aV):List UInt8:=Bt p.aw.toNat++Bt (J p.steps)++p.steps.flatMap GI
def Je(g e h:Nat)(i:Bool)(j:Rd):bP×Rd:=let d:=Bh g j;if d.1=1 then let a:=ER d.2;let b:=Bh e a.2;let c:=ER b.2;let f:=Bh e c.2;(⟨1,Am a.1,Am c.1,b.1,f.1,0⟩,f.2)else if d.1=2 then let a:=Bh h d.2;(⟨2,Ew,Ew,0,0,a.1⟩,a.2)else if d.1=3\/i=Y then let a:=ER d.2;(⟨d.1,Am a.1,Ew,0,0,0⟩,a.2)else(⟨d.1,Ew,Ew,0,0,0⟩,d.2)
def F6(a b c:Nat)(d:Bool):Nat->Rd->List bP×Rd|0,r=>([],r)|n+1,r=>let x:=Je a b c d r;let e:=F6 a b c d n x.2;(x.1::e.1,e.2)
def Qb(c d e f:Nat)(g:Bool)(h:List UInt8):aV×Rd:=let a:=Bh c ⟨h,U⟩;let b:=Bh 16 a.2;let s:=F6 d e f g b.1 b.2;(⟨s.1,a.1⟩,s.2)
def Fq(a:List UInt8):Option aV:=let x:=Qb 16000 3 5 1000 U a;if XY x.2&&Eb x.1 then Z x.1 else V
theorem AMo:XY bf=Y↔bf=⟨[],U⟩:=by obtain⟨l,b⟩:=bf;grind[XY]
theorem ATq{lo hi:Int}(a:bS i lo hi=Y)(b:0<=lo):(i.toNat:Int)=i:=by rw[Be]at a;omega
theorem ARq(a:Aq h=Y):h≠Ew:=by rintro rfl;rw[GH]at a;have:Ew.size=0:=rfl;omega
theorem AQw(l:3<=b)(y:5<=f)(z:1000<=w){x:bP}(a:MN x=Y)(j:List UInt8):Je b f w al ⟨GI x++j,U⟩=(x,⟨j,U⟩):=by
 obtain⟨A,name,m,tries,d,B⟩:=x;have e:∀{s:E},s.size<=16->J (bl s)<18446744073709551616:=λg=>by rw[Ba];omega
 have k:∀{s:E},Aq s=Y->s.size<=16:=λg=>(GH.1 g).2.1;unfold MN at a;split at a;{rename_i c;subst c;simp[As,FF,AW]at a;obtain⟨⟨⟨o,h⟩,p⟩,rfl⟩:=a;have q:m.size<=16/\0<=d/\d<=5:=by{rcases o with⟨rfl,rfl⟩|⟨g,C⟩;{exact⟨by decide,by omega,by omega⟩};grind[Be]};rw[Be]at p;have i:=FE (n:=(1:Int).toNat) (most:=b) (by decide) (by omega);have r:=Ls (e (k h));have t:=FE (n:=tries.toNat) (most:=f) (by omega) (by omega);simp only[Je,GI,AT,AI,i,r,t,Ls (e q.1),FE (n:=d.toNat) (most:=f) (by omega) (by omega)];rw[A1 (by decide)];simp[Es];omega};split at a;{rename_i u c;subst c;simp[As,AW]at a;obtain⟨⟨⟨⟨rfl,rfl⟩,rfl⟩,rfl⟩,v⟩:=a;rw[Be]at v;simp only[Je,GI,AT,AI,FE (n:=(2:Int).toNat) (most:=b) (by decide) (by omega)];rw[A0 (by decide),A1 (by decide),A0 (by decide),FE (by omega) (by omega)];simp;omega};split at a;{rename_i u F c;subst c;simp[As,AW]at a;obtain⟨⟨⟨⟨rfl,rfl⟩,rfl⟩,rfl⟩,h⟩:=a;have i:=FE (n:=(3:Int).toNat) (by decide) (by simpa using l);simp only[Je,GI,AT,AI,i];rw[A0 (by decide),A0 (by decide),A1 (.inl rfl),A0 (by decide),A0 (by decide),Ls (e (k h))];simp[Es]};cases a
theorem AGp{all:Bool}(d:3<=b)(e:5<=f)(g:1000<=n)(a:List UInt8):∀{l:List bP},l.all MN=Y->F6 b f n all (J l) ⟨l.flatMap GI++a,U⟩=(l,⟨a,U⟩)|[],_=>rfl|x::l,c=>by simp only[RT,As]at c;simp[Bs,F6,CC,AI,AQw d e g c.1,AGp d e g a c.2]
theorem AH8{all:Bool}(m:16000<=b)(e:3<=f)(g:5<=w)(h:1000<=aw){p:aV}(a:Eb p=Y):Qb b f w aw all (CE p)=(p,⟨[],U⟩):=by obtain⟨l,i⟩:=p;simp only[Eb,As,AW]at a;obtain⟨⟨j,c⟩,k⟩:=a;have o:=Be.1 c;have d:=AGp (all:=all) e g h [] k;rw[AK]at d;simp[Qb,CE,AI,FE (n:=i.toNat) (most:=b) (by omega) (by omega),FE (by omega) j,d,ATq c (by decide)]
theorem Zv{p:aV}(a:Eb p=Y):Fq (CE p)=Z p:=by simp[Fq,AH8 (A2 _) (A2 _) (A2 _) (A2 _) a,a];rfl
theorem AOM(a:(Je b f n al bf).2.bad=U):bf.bad=U/\(MN (Je b f n al bf).1=Y->bf.rest=GI (Je b f n al bf).1++(Je b f n al bf).2.rest):=by unfold Je at a⊢;simp only at a⊢;split at a;{rename_i c;obtain⟨l,p,_⟩:=Hr a;obtain⟨m,q⟩:=Uw l;obtain⟨o,s,_⟩:=Hr m;obtain⟨d,k⟩:=Uw o;obtain⟨e,i,_⟩:=Hr d;simp_all[A1,GI,AT,GQ,AE,AI]};split at a;{rename_i g c;obtain⟨d,k,_⟩:=Hr a;obtain⟨e,i,_⟩:=Hr d;simp_all[A0,A1,GI,AE,trivial,AI]};split at a;{rename_i g j c;obtain⟨d,k⟩:=Uw a;have⟨e,i,_⟩:=Hr d;refine⟨e,λh=>?_⟩;rw[A0 g,A0 j,A1 c]at h⊢;simp[GI,GQ,AE];grind};rename_i g j c;have⟨e,i,_⟩:=Hr a;refine⟨e,λh=>?_⟩;rw[A0 g,A0 j,A0 c]at h;exfalso;unfold MN at h;grind
theorem ADf:∀(n:Nat){r:Rd},(F6 b f w al n r).2.bad=U->r.bad=U/\J (F6 b f w al n r).1=n/\((F6 b f w al n r).1.all MN=Y->r.rest=(F6 b f w al n r).1.flatMap GI++(F6 b f w al n r).2.rest)|0,r,a=>⟨a,rfl,λ_=>rfl⟩|n+1,r,a=>by simp[F6]at a⊢;obtain⟨c,d,e⟩:=ADf n a;obtain⟨g,h⟩:=AOM c;simp_all
theorem Sd{p:aV}(a:Fq a4=Z p):Eb p=Y/\CE p=a4:=by unfold Fq at a;simp only at a;split at a;{rename_i e;simp[As]at e;obtain⟨d,b⟩:=e;obtain rfl:=CH a;refine⟨b,?_⟩;rw[AMo]at d;have f:(Qb 16000 3 5 1000 U a4).2.bad=false:=by{rw[d]};have g:(Qb 16000 3 5 1000 U a4).2.rest=[]:=by{rw[d]};simp[Qb]at f g b⊢;obtain⟨h,i,c⟩:=ADf _ f;obtain⟨j,k,_⟩:=Hr h;have⟨n,m,_⟩:=Hr j;simp only[Eb,As]at b;have c:=c b.2;rw[g,AK]at c;simp only[CE,AE,i];rw[<-c,AI,<-k,<-m]};cases a
theorem ANk{p:aV}:Fq a4=Z p↔Eb p=Y/\CE p=a4:=⟨Sd,λ⟨a,b⟩=>by grind[Zv]⟩
theorem ALc{b0 bk bt bw:Nat}{all:Bool}(d:16000<=b0)(e:3<=bk)(f:5<=bt)(g:1000<=bw)(a:List UInt8):Fq a=if Eb (Qb b0 bk bt bw all a).1=Y/\XY (Qb b0 bk bt bw all a).2=Y/\CE (Qb b0 bk bt bw all a).1=a then Z (Qb b0 bk bt bw all a).1 else none:=by split;{simp_all[ANk]};rename_i b;cases hd:Fq a with|none=>rfl|some p=>exfalso;obtain⟨c,h⟩:=Sd hd;subst h;rw[AH8 d e f g c]at b;exact b ⟨c,rfl,rfl⟩
inductive Fv where
 |i (n:Int)
 |s (x:E)
 |b (x:Bool)
 deriving DecidableEq
def Fv.v:Fv->J0|.i a=>D a|.s x=>J7 x|.b x=>J3 x
def Fv.ok(a:Q1)(b:Q7):Fv->Bool|.i _=>(match a.underlying b with|some (.int D)=>Y|_=>U)|.s _=>(match a.underlying b with|some .string=>Y|_=>U)|.b _=>match a.underlying b with|some .bool=>Y|_=>U
def vS:Fv->Fv->Bool|.i _,.i _=>Y|.s _,.s _=>Y|.b _,.b _=>Y|_,_=>U
def mX(a:Q1):Nat->List Field->List Fv->Bool|_,[],[]=>Y|i,f::b,x::c=>!(f.name==String.ofList [Char.ofNat 95])&&Nat.beq f.offset i&&x.ok a f.type&&mX a (i+1) b c|_,_,_=>U
def dc:List Fv->List Fv->Bool|[],[]=>Y|x::a,b::c=>vS x b&&dc a c|_,_=>U
theorem AWB{e:Q1}{x a:Fv}(c:x.ok e u=Y)(g:vS x a=Y)(f:World):(Op.equalIn (b+1) u x.v a.v).run e f=.ok (decide (x=a)) f:=by cases x<;>cases a<;>simp only[vS,BY]at g<;>simp only[Fv.ok]at c<;>split at c<;>(try cases c);{grind[Fv.v,run_equalIn_int,Fv.i.injEq]};{simp_all[Fv.v,run_equalIn_string,toList_inj,Fv.s.injEq]};grind[Fv.v,run_equalIn_bool',Fv.b.injEq]
theorem Fv.plain{b:Q1}{x:Fv}(a:x.ok b u=Y):b.plainKey u=true:=by cases x<;>simp only[Fv.ok]at a<;>split at a<;>(try cases a)<;>(grind[Program.plainKey])
theorem APV {n:Q1}(h j:List Fv)(e:World): ∀(k:List Field) (a c:List Fv) (i:Nat),h.drop i=a->j.drop i=c->mX n i k a=Y->dc a c=Y->
  (Op.eqFields (b+1) (h.map Fv.v).toArray (j.map Fv.v).toArray k).run n e= .ok (decide (a=c)) e:=by
 intro k
 induction k with
 |nil=>
  intro a c i p q m g;cases a with
  |nil=>
   cases c with
   |nil=>simp[Op.eqFields]
   |cons o c=>simp[dc] at g
  |cons x a=>simp[mX] at m
 |cons f k w=>
  intro a c i p q m g;cases a with
  |nil=>simp[mX] at m
  |cons x a=>
   cases c with
   |nil=>simp[dc] at g
   |cons o c=>
    simp only[mX,dc,As,Nat.beq_eq] at m g;have⟨⟨⟨s,t⟩,r⟩,y⟩:=m;have z:h[i]? =Z x:=by have:=congrArg (λl:List Fv=>l[0]?) p;simpa [Fc] using this
    have A:j[i]? =Z o:=by have:=congrArg (λl:List Fv=>l[0]?) q;simpa [Fc] using this
    have B:h.drop (i+1)=a:=by rw[<- Ix,p];rfl
    have C:j.drop (i+1)=c:=by rw[<- Ix,q];rfl
    have F:(part f.type (h.map Fv.v).toArray f.offset).run n e= .ok x.v e:=run_part_plain e (Fv.plain r) (by rw[t];simp[z]);have H:(part f.type (j.map Fv.v).toArray f.offset).run n e= .ok o.v e:=run_part_plain e (Fv.plain r) (by rw[t];simp[A])
    have I : String.ofList [Char.ofNat 95] = "_" := by decide
    rw[I] at s
    have u : (f.name == "_") =U := by simpa using s
    simp[Op.eqFields,u,Sem.run_bind,Sem.run_ite,F,H,Result.andThen_ok,AWB r g.1];by_cases v:x=o
    ·simp[v,w a c (i+1) B C y g.2,Result.andThen]
    ·have K : f.name ≠ "_" := by simpa using u
     simp[v,Result.andThen,K]
def lO(a:Q1)(b:Q7)(c:List Fv):Bool:=!a.stoodInHeld b&&!a.eqGuardType a.depth b&&mX a 0 (a.fieldsOf b).toList c
theorem AOn{b ys:List Fv}(g:x.underlying u=Z (.struct (x.fieldsOf u)))(c:lO x u b=Y)(i:dc b ys=Y){f:Array J0}(j:bi=(b.map Fv.v).toArray)(k:f=(ys.map Fv.v).toArray)(l:e (J3 (decide (b=ys))) a):El d x (do eqGuard .eql u co c4 (.agg bi) (.agg f);binOp .eql u (.agg bi) (.agg f)) a e:=by simp[lO,As,GO]at c;subst j;subst k;refineλm=>⟨_,a,m,?_,l⟩;rw[Sem.run_bind,run_eqGuard_agg _ _ _ _ _ _ _ c.1.2,Result.andThen_ok,run_eql_struct,run_equalIn_agg _ _ _ _ _ g c.1.1,APV b ys _ _ b ys 0 rfl rfl c.2 i];rfl
theorem AQB{xs ys:List Fv}(f:x.underlying u=Z (.struct (x.fieldsOf u)))(b:lO x u xs=Y)(g:dc xs ys=Y){c:Array J0}(i:bi=(xs.map Fv.v).toArray)(j:c=(ys.map Fv.v).toArray)(k:e (J3 (!decide (xs=ys))) a):El d x (do eqGuard .neq u co c4 (.agg bi) (.agg c);binOp .neq u (.agg bi) (.agg c)) a e:=by simp[lO,As,GO]at b;subst i;subst j;refineλl=>⟨_,a,l,?_,k⟩;rw[Sem.run_bind,run_eqGuard_agg _ _ _ _ _ _ _ b.1.2,Result.andThen_ok,run_neq_struct,run_equalIn_agg _ _ _ _ _ f b.1.1,APV xs ys _ _ xs ys 0 rfl rfl b.2 g];rfl
theorem Cj{d:J0}(f:a[b]?=Z (J2 #[r,bp] u (0,0)))(g:∀c,c[b]?=Z (J2 #[ek,d] u (0,0))->G (· =b) a c->c.size=a.size->be c):aj a ⟨b,0,V⟩ ek λe=>aj e ((⟨b,0,V⟩:Q6) 1) d be:=by refine Ac f (by simp) λe i j n=>?_;rw[CR];refine Ac i (by simp) λk l m o=>g k (by simpa using l) (j.trans m) (by omega)
theorem TE{p q s d e f g i j:J0}(t:a[b]?=Z (J2 #[r,bp,ek,p,q,s] u (0,0)))(v:∀c,c[b]?=Z (J2 #[d,e,f,g,i,j] u (0,0))->G (· =b) a c->c.size=a.size->be c):aj a ⟨b,0,V⟩ d λk=>aj k ((⟨b,0,V⟩:Q6) 1) e λl=>aj l ((⟨b,0,V⟩:Q6) 2) f λm=>aj m ((⟨b,0,V⟩:Q6) 3) g λn=>aj n ((⟨b,0,V⟩:Q6) 4) i λo=>aj o ((⟨b,0,V⟩:Q6) 5) j be:=by refine Ac t ?_ λk w x X=>?_;simp;rw[CR,CR,CR,CR,CR];refine Ac w ?_ λl y z Q=>?_;simp;refine Ac y ?_ λm A B N=>?_;simp;refine Ac A ?_ λn C F ac=>?_;simp;refine Ac C ?_ λo H I ae=>?_;simp;refine Ac H (by simp) λP R S af=>v P (by simpa using R) (((((x.trans z).trans B).trans F).trans I).trans S) (by omega)
theorem Mw{v w x y z d e f g i j k l:J0}(A:a[b]?=Z (J2 #[r,bp,ek,v,w,x,y,z] u (0,0)))(B:∀c,c[b]?=Z (J2 #[d,e,f,g,i,j,k,l] u (0,0))->G (· =b) a c->c.size=a.size->be c):aj a ⟨b,0,V⟩ d λm=>aj m ((⟨b,0,V⟩:Q6) 1) e λn=>aj n ((⟨b,0,V⟩:Q6) 2) f λo=>aj o ((⟨b,0,V⟩:Q6) 3) g λp=>aj p ((⟨b,0,V⟩:Q6) 4) i λq=>aj q ((⟨b,0,V⟩:Q6) 5) j λs=>aj s ((⟨b,0,V⟩:Q6) 6) k λt=>aj t ((⟨b,0,V⟩:Q6) 7) l be:=by refine Ac A ?_ λm C F al=>?_;simp;rw[CR,CR,CR,CR,CR,CR,CR];refine Ac C ?_ λn H I O=>?_;simp;refine Ac H ?_ λo P R an=>?_;simp;refine Ac P ?_ λp S X ao=>?_;simp;refine Ac S ?_ λq Q N ap=>?_;simp;refine Ac Q ?_ λs ac ae aq=>?_;simp;refine Ac ac ?_ λt af ag ar=>?_;simp;refine Ac af (by simp) λah ai ak au=>B ah (by simpa using ai) (((((((F.trans I).trans R).trans X).trans N).trans ae).trans ag).trans ak) (by omega)
theorem aj.bC{j:Nat}{dx:Array J0}(d:a[b]?=Z (J2 bi u (0,0)))(e:j<bi.size)(f:bi.setIfInBounds j r=dx)(g:∀c,c[b]?=Z (J2 dx u (0,0))->G (· =b) a c->c.size=a.size->be c):aj a ((⟨b,0,V⟩:Q6).add j) r be:=by rw[CR,B8];exact Ac d e λi k=>g i (by rw[<-f];exact k)
structure Ev where
 id:Int
 kind:Int
 tick:Int
 ref:Int
 step:Int
 turn:Int
 aq:Bool
 data:E
def bG:bZ Ev where enc x:=[D x.id,D x.kind,D x.tick,D x.ref,D x.step,D x.turn,J3 x.aq,J7 x.data];w:=8;len _:=rfl;pos:=by{omega};one x v a:=by simp at a;rcases a with rfl|rfl|rfl|rfl|rfl|rfl|rfl|rfl<;>rfl
def Ev.fv(x:Ev):List Fv:=[.i x.id,.i x.kind,.i x.tick,.i x.ref,.i x.step,.i x.turn,.b x.aq,.s x.data]
variable{q:Ev}{p b0:List Ev}
theorem ADR{x:Ev}:x.fv=q.fv↔x=q:=by cases x;cases q;simp[Ev.fv]
instance:DecidableEq Ev:=λx y=>decidable_of_iff (x.fv=y.fv) ADR
def cN(a:Int):Bool:=decide (a=3\/a=4\/a=5\/a=11\/a=7\/a=8\/a=9)
def cU(a:Int):Bool:=decide (a=6\/a=10)
def dw(a:Int):Bool:=decide (a=7\/a=8\/a=9)
def dz(a:Int):Bool:=decide (a=6)
def dW(a:Int):Bool:=decide (a=1\/a=12)
def cH(b:Bool)(a lo hi:Int):Bool:=if b then bS a lo hi else decide (a=0)
def Dq(a:Ev):Bool:=bS a.kind 1 18&&bS a.id 1 500&&bS a.tick 0 1099511627776&&cH (cN a.kind) a.ref 1 (a.id-1)&&cH (cU a.kind) a.step 0 15&&cH (dw a.kind) a.turn 1 5&&(!a.aq||dz a.kind)&&(decide (a.data=Ew)||dW a.kind)
def Ky(a:Ev):Bool:=if a.kind=1 then(Fq (bl a.data)).isSome else if a.kind=12 then Aq a.data else Y
def EY(a:Ev):Bool:=Dq a&&Ky a
def Vz(a:Bool)(b:Int):List UInt8:=if a then Bt b.toNat else[]
def iI(a:Bool)(b:E):List UInt8:=if a then Bj (bl b)else[]
def Qa(a:Ev):List UInt8:=Bt a.id.toNat++(Bt a.kind.toNat++(Bt a.tick.toNat++(Vz (cN a.kind) a.ref++(Vz (cU a.kind) a.step++(Vz (dw a.kind) a.turn++(Vz (dz a.kind) (if a.aq then 1 else 0)++iI (dW a.kind) a.data))))))
structure lQ where
 id:Nat
 kind:Nat
 tick:Nat
 ref:Nat
 step:Nat
 turn:Nat
def lQ.wide(a:lQ):Prop:=500<=a.id/\18<=a.kind/\1099511627776<=a.tick/\500<=a.ref/\15<=a.step/\5<=a.turn
def gG:lQ:=⟨500,18,1099511627776,500,15,5⟩
def GG(b:Bool)(m:Nat)(a:Rd):Nat×Rd:=if b then Bh m a else(0,a)
def Ww(b:Bool)(a:Rd):List UInt8×Rd:=if b then ER a else([],a)
def TQ(c:lQ)(f:Rd):Ev×Rd:=let i:=Bh c.id f;let b:=Bh c.kind i.2;let t:=Bh c.tick b.2;let a:=GG (cN b.1) c.ref t.2;let s:=GG (cU b.1) c.step a.2;let d:=GG (dw b.1) c.turn s.2;let u:=GG (dz b.1) 1 d.2;let e:=Ww (dW b.1) u.2;(⟨i.1,b.1,t.1,a.1,s.1,d.1,decide (u.1=1),Am e.1⟩,e.2)
def lR(a:List UInt8):Option Ev:=let x:=TQ gG ⟨a,U⟩;if XY x.2&&EY x.1 then Z x.1 else V
theorem rk{f:Bool}{n:Int}{m:Nat}(a:cH f n 0 m=Y)(c:m<18446744073709551616)(b:List UInt8):GG f m ⟨Vz f n++b,U⟩=(n.toNat,⟨b,U⟩):=by cases f with|false=>simp[cH]at a;subst a;rfl|true=>simp[cH,AT,Be]at a;simp[GG,Vz,AT];grind[FE]
theorem vT{lo hi:Int}(a:cH al i lo hi=Y)(b:ap<=lo)(c:hi<=bm):cH al i ap bm=true:=by cases al with|false=>exact a|true=>simp[cH,AT,Be]at a⊢;omega
theorem vU{lo hi:Int}(a:cH al i lo hi=Y)(b:0<=lo):(i.toNat:Int)=i:=by cases al with|false=>simp_all[cH]|true=>simp[cH,AT,Be]at a;omega
theorem AUL(a:(decide (h=Ew)||al)=Y)(c:h.size<18446744073709551616)(b:List UInt8):Ww al ⟨iI al h++b,U⟩=(bl h,⟨b,U⟩):=by cases al with|false=>simp at a;subst a;rfl|true=>simp_all[Ww,iI,AT,Ls,Ba]
theorem Nf(a:EY q=Y):Dq q=true:=by simp_all[EY,As]
theorem AUw{a:lQ}(k:a.wide)(hi:a.ref<18446744073709551616/\a.step<18446744073709551616/\a.turn<18446744073709551616)(d:Dq q=Y)(l:q.data.size<18446744073709551616)(g:List UInt8):TQ a ⟨Qa q++g,U⟩=(q,⟨g,U⟩):=by
 obtain⟨id,b,tick,ref,step,turn,c,K⟩:=q;simp only[Dq,As]at d;obtain⟨⟨⟨⟨⟨⟨⟨o,hid⟩,p⟩,h⟩,i⟩,j⟩,P⟩,r⟩:=d;have⟨R,S,X,Q,N,ac⟩:=k;have ae:=Be.1 o;have af:=Be.1 hid;have ag:=Be.1 p;have s:=FE (n:=id.toNat) (most:=a.id) (by omega) (by omega);have t:=FE (n:=b.toNat) (most:=a.kind) (by omega) (by omega);have u:=FE (n:=tick.toNat) (most:=a.tick) (by omega) (by omega);have v:b.toNat=b:=by omega
 have w:=rk (vT h (by omega) (by omega)) hi.1;have x:=rk (vT i (by omega) (by omega)) hi.2.1;have y:=rk (vT j (by omega) (by omega)) hi.2.2;have z:=rk (f:=dz b) (n:=if c then 1 else 0) (m:=1) (by cases ah:dz b with|true=>simp[cH,AT,Be];split<;>omega|false=>simp_all[cH]) (by decide);simp only[TQ,Qa,AI,s,t,u,v,w,x,y,z,AUL r l];have A:decide ((if c=Y then(1:Int)else 0).toNat=1)=c:=by cases c<;>rfl
 have B:=vU h (by decide);have C:=vU i (by decide);have F:=vU j (by decide);have H:id.toNat=id:=by omega
 have I:tick.toNat=tick:=by omega
 rw[A,B,C,F,H,I,Es]
theorem YF{m:Nat}(a:(GG al m bf).2.bad=U):bf.bad=U/\bf.rest=Vz al (GG al m bf).1++(GG al m bf).2.rest/\(GG al m bf).1<=m:=by cases al with|false=>exact⟨a,rfl,AF _⟩|true=>simp[GG,Vz,AT,AE]at a⊢;exact Hr a
theorem ARs(a:(Ww al bf).2.bad=U):bf.bad=U/\bf.rest=iI al (Am (Ww al bf).1)++(Ww al bf).2.rest:=by cases al with|false=>exact⟨a,rfl⟩|true=>simp_all[Ww,iI,AT,GQ,Uw]
theorem AQb{b:lQ}(c:(TQ b bf).2.bad=U):bf.bad=U/\bf.rest=Qa (TQ b bf).1++(TQ b bf).2.rest:=by
 simp[TQ]at c⊢;obtain⟨d,e⟩:=ARs c;obtain⟨f,g,h⟩:=YF d;obtain⟨i,j,_⟩:=YF f;obtain⟨k,l,_⟩:=YF i;obtain⟨m,n,_⟩:=YF k;obtain⟨o,p,_⟩:=Hr m;obtain⟨q,s,_⟩:=Hr o;have⟨t,u,_⟩:=Hr q;refine⟨t,?_⟩;simp only[Qa,AI,AE];rw[<-e];have v:∀a:Nat,a<=1->(if decide (a=1)=Y then(1:Int)else 0)=a:=λa w=>by have:a=0\/a=1:=by{omega};rcases this with rfl|rfl<;>rfl
 rw[v _ h,<-g,<-j,<-l,<-n,<-p,<-s,<-u]
theorem ANH(a:lR a4=Z q):EY q=Y/\Qa q=a4:=by unfold lR at a;simp only at a;split at a;{rename_i b;simp[As]at b;obtain⟨c,d⟩:=b;obtain rfl:=CH a;refine⟨d,?_⟩;rw[AMo]at c;obtain⟨_,f⟩:=AQb (by rw[c]);grind};cases a
def ASY:gG.wide:=⟨A2 _,A2 _,A2 _,A2 _,A2 _,A2 _⟩
theorem ANy(b:Dq q=Y):q.data.size<=J (Qa q):=by simp[Dq,As]at b;have a:=b.2;cases c:dW q.kind with|false=>rw[c]at a;simp at a;rw[a];exact AF _|true=>simp[Qa,iI,c,AT,Bj,A6,Ba];omega
theorem AQu(d:J a4<18446744073709551616):lR a4=Z q↔EY q=Y/\Qa q=a4:=by refine⟨ANH,λ⟨a,b⟩=>?_⟩;have c:=ANy (Nf a);have:=AUw ASY ⟨by decide,by decide,by decide⟩ (Nf a) (by rw[b]at c;omega) [];rw[AK,b]at this;unfold lR;simp[this,a];rfl
structure Jb where
 id:Int
 step:Int
 aq:Bool
 turn:Int
def fS:bZ Jb where enc x:=[D x.id,D x.step,J3 x.aq,D x.turn];w:=4;len _:=rfl;pos:=by{omega};one x v a:=by simp at a;rcases a with rfl|rfl|rfl|rfl<;>rfl
structure Ck where
 id:Int
 step:Int
 tick:Int
def gJ:bZ Ck where enc x:=[D x.id,D x.step,D x.tick];w:=3;len _:=rfl;pos:=by{omega};one x v a:=by simp at a;rcases a with rfl|rfl|rfl<;>rfl
structure aI where
 prog:aV
 status:Int
 next:Int
 bg:Int
 asked:Int
 taken:Int
 fresh:Bool
 au:List Jb
 ag:List Ck
 cancel:Bool
 aD:Bool
def GU:aI:=⟨⟨[],0⟩,0,0,0,0,0,U,[],[],U,U⟩
def stepOf(p:aV)(a b:Int):Option bP:=if 0<=a then(p.steps[a.toNat]?).bind λx=>if x.kind=b then Z x else V else V
def CY(p:aV)(a:Jb):Int:=match stepOf p a.step 1 with|none=>0|some x=>if a.aq then x.aC else x.tries
def MH(b:aI)(c d:Int):Option Nat:=b.au.findIdx? λa=>decide (a.id=c)&&decide (a.turn=d)
def DZ(a:aI)(b:Ev):Option aI:=if b.kind=2 then(if a.asked=0/\a.taken=0/\a.fresh=Y then Z {a with asked:=b.id}else V)else if b.kind=3 then(if a.asked=b.ref then Z {a with asked:=0,taken:=b.id,fresh:=U}else V)else if b.kind=4 then(if a.taken=b.ref then Z {a with taken:=0}else V)else(if a.taken=b.ref then Z {a with taken:=0,fresh:=Y}else V)
def MI(b:aI)(a:Ev):Option aI:=if a.kind=6 then(stepOf b.prog a.step 1).bind λx=>if a.aq=Y/\x.aq=Ew then V else Z {b with au:=b.au++[⟨a.id,a.step,a.aq,1⟩]}else(MH b a.ref a.turn).bind λi=>(b.au[i]?).bind λc=>if a.kind=8 then(if a.turn=CY b.prog c then V else Z {b with au:=b.au.set i {c with turn:=c.turn+1}})else if a.kind=7\/a.turn=CY b.prog c then Z {b with au:=b.au.eraseIdx i,fresh:=Y}else V
def Jg(b:aI)(a:Ev):Option aI:=if a.kind=10 then(stepOf b.prog a.step 2).map λx=>{b with ag:=b.ag++[⟨a.id,a.step,a.tick+x.wait⟩]}else(b.ag.findIdx? λc=>decide (c.id=a.ref)&&decide (c.tick<=a.tick)).map λi=>{b with ag:=b.ag.eraseIdx i,fresh:=Y}
def iL(a:aI)(status:Int):aI:={a with status:=status,asked:=0,taken:=0,fresh:=U,au:=[],ag:=[]}
def Ob(a:aI):Prop:=a.asked=0/\a.taken=0/\a.au=[]
instance(s:aI):Decidable (Ob s):=decidable_of_iff (s.asked=0/\s.taken=0/\J s.au=0) (by simp[Ob])
def Kz(a:aI)(b:Ev):Option aI:=if b.kind=12 then Z {a with fresh:=Y}else if b.kind=13 then(if a.cancel=Y then V else Z {a with cancel:=Y,fresh:=Y})else if b.kind=14 then(if a.aD=Y\/a.prog.aw=0\/b.tick<a.bg+a.prog.aw then V else Z {a with aD:=Y,fresh:=Y})else if b.kind=18 then Z (iL a 4)else if b.kind=15 then(if Ob a then Z (iL a 1)else V)else if b.kind=16 then(if Ob a then Z (iL a 2)else V)else if b.kind=17 then(if Ob a then Z (iL a 3)else V)else V
def OU(b:aI)(a:Ev):Option aI:=(if 2<=a.kind/\a.kind<=5 then DZ b a else if 6<=a.kind/\a.kind<=9 then MI b a else if a.kind=10\/a.kind=11 then Jg b a else Kz b a).map λt=>{t with next:=b.next+1}
def Xa(a:Ev):aI:=⟨(Fq (bl a.data)).getD ⟨[],0⟩,0,2,a.tick,0,0,Y,[],[],U,U⟩
def BN(b:aI)(a:Ev):Int×aI:=if EY a=U then(120,GU)else if b.next=0 then(if a.kind=1/\a.id=1 then(0,Xa a)else(120,GU))else if b.status≠0 then(182,GU)else if a.id≠b.next then(120,GU)else match OU b a with|none=>(120,GU)|some t=>(0,t)
def CK(a:aI):List Ev->Option aI|[]=>Z a|e::l=>if(BN a e).1=0 then CK (BN a e).2 l else V
theorem ZI:∀{s:aI},CK s (p++b0)=(CK s p).bind λt=>CK t b0:=by induction p with|nil=>intro s;rfl|cons c l d=>intro s;rw[DO,CK,CK];grind
variable{O db:aI}
theorem ADM(a:CK O p=Z db)(b:(BN db q).1=0):CK O (p++[q])=Z (BN db q).2:=by simp_all[ZI,CK,A1]
theorem Lp(a:(BN O q).1=0):EY q=true:=by grind[BN]
theorem X0(a:(BN O q).1=0):(O.next=0->q.id=1/\(BN O q).2.next=2)/\(O.next≠0->q.id=O.next/\(BN O q).2.next=O.next+1):=by unfold BN at a⊢;split at a;{cases a};rename_i g;rw[A0 g];split at a;{rename_i b;rw[A1 b];split at a;{rename_i c;rw[A1 c];exact⟨λ_=>⟨c.2,rfl⟩,λa=>A4 b a⟩};cases a};rename_i b;rw[A0 b];split at a;{cases a};rename_i c;rw[A0 c];split at a;{cases a};rename_i d;rw[A0 d];cases f:OU O q with|none=>rw[f]at a;cases a|some t=>refine⟨λa=>A4 a b,λ_=>⟨by simpa using d,?_⟩⟩;obtain⟨h,-,rfl⟩:=Hk.1 f;rfl
theorem ALq:∀{l:List Ev}{s t:aI},CK s l=Z t->1<=s.next->t.next=s.next+J l/\∀(i:Nat)(b:Ev),l[i]?=Z b->b.id=s.next+i/\EY b=true:=by intro l;induction l with|nil=>intro s t a c;cases a;simp_all|cons b l d=>intro s t a c;rw[CK]at a;split at a;{rename_i e;have f:=(X0 e).2 (by omega);obtain⟨g,h⟩:=d a (by omega);refine⟨by grind,λi x j=>?_⟩;grind[Lp]};cases a
theorem Zt(a:CK GU p=Z O)(c:p≠[]):O.next=J p+1/\∀(i:Nat)(b:Ev),p[i]?=Z b->b.id=i+1/\EY b=true:=by cases p with|nil=>cases c rfl|cons b p=>rw[CK]at a;split at a;{rename_i d;have e:=(X0 d).1 rfl;obtain⟨f,g⟩:=ALq a (by omega);refine⟨by grind,λi x h=>?_⟩;grind[Lp]};cases a
def fJ:List UInt8->Option (List UInt8)|[]=>V|a::p=>match fJ p with|some b=>Z (a::b)|none=>if a<255 then Z [a+1]else V
theorem APe{b:UInt8}(c:df<255):b<df+1↔¬df<b:=by
 have e:df.toNat<255:=HX.1 c;have d:(df+1).toNat=df.toNat+1:=by rw[UInt8.toNat_add];show(df.toNat+1)%256=_;omega
 rw[HX,HX,d];omega
theorem AYH{b:UInt8}(c:¬df<255):¬df<b:=λd=>by rw[HX]at c d;have:b.toNat<256:=b.toNat_lt;have e:(255:UInt8).toNat=255:=rfl;omega
theorem APi:∀(p j:List UInt8),(¬j<p/\(∀h,fJ p=Z h->j<h))↔p<+:j|[],j=>by simp[fJ]|a::p,[]=>by constructor;{rintro⟨c,_⟩;exact A4 (List.nil_lt_cons a p) c};intro c;exact A4 (List.prefix_nil.1 c) (by simp)|a::p,b::j=>by have s:=APi p j;have e:∀{x q:UInt8}{l m:List UInt8},x::l<q::m↔x<q\/x=q/\l<m:=A0X;rw[List.cons_prefix_cons,<-s];constructor;{rintro⟨o,f⟩;have r:¬b<a:=λc=>o (e.2 (.inl c));have t:¬a<b:=λc=>by{unfold fJ at f;cases k:fJ p with|some h=>rw[k]at f;rcases e.1 (f _ rfl)with d|⟨d,_⟩;{exact r d};subst d;exact Sh _ c|none=>rw[k]at f;by_cases i:a<255;{have:=f [a+1] (by simp[i]);rcases e.1 this with d|⟨_,d⟩;{exact(APe i).1 d c};exact A4 d (by simp)};exact AYH i c};have n:a=b:=by{by_cases n:a=b;{exact n};rcases UInt8.lt_or_lt_of_ne n with c|c;{exact A4 c t};exact A4 c r};subst n;refine⟨rfl,λc=>o (e.2 (.inr ⟨rfl,c⟩)),λh g=>?_⟩;have:=f (a::h) (by unfold fJ;rw[g]);rcases e.1 this with d|⟨_,d⟩;{exact A4 d (Sh _)};exact d};rintro⟨rfl,o,f⟩;refine⟨λc=>?_,λh g=>?_⟩;{rcases e.1 c with d|⟨_,d⟩;{exact A4 d (Sh _)};exact o d};unfold fJ at g;cases k:fJ p with|some u=>rw[k]at g;obtain rfl:=CH g;exact e.2 (.inr ⟨rfl,f u k⟩)|none=>rw[k]at g;by_cases i:a<255;{have n:h=[a+1]:=by{simpa[i]using g.symm};subst n;exact e.2 (.inl ((APe i).2 (Sh _)))};simp[i]at g
theorem wq:∀{p:List UInt8},(∀x∈p,¬x<255)->fJ p=V|[],_=>rfl|a::p,b=>by unfold fJ;rw[wq λx c=>b x (CM _ c)];simp[b a FG]
theorem AXO:∀{p:List UInt8}{i:Nat}{a:UInt8},p[i]?=Z a->a<255->(∀x∈p.drop (i+1),¬x<255)->fJ p=Z (p.take i++[a+1])|[],i,a,c,_,_=>by simp at c|b::p,0,a,c,d,hd=>by simp at c;subst c;unfold fJ;rw[wq (by simpa using hd)];simp[d]|b::p,i+1,a,c,d,hd=>by unfold fJ;rw[AXO (p:=p) (i:=i) (a:=a) (by simpa using c) d (by simpa using hd)];simp
def j7(p a:E):Bool:=(p.data.toList).isPrefixOf a.data.toList
theorem rH(p a:E):j7 p a=Y↔p.data.toList<+:a.data.toList:=by unfold j7;rw[A01]
def QD:Nat->Nat->List UInt8|0,_=>[]|k+1,a=>QD k (a/256)++[DT a]
theorem RU:∀(k a:Nat),J (QD k a)=k|0,_=>rfl|k+1,a=>by rw[QD,A6,RU k];rfl
theorem AIe(a:Nat):DT a=DT (a%256):=by apply UInt8.toNat_inj.1;simp[DT,Ys]
theorem AQv(c:b<256)(d:f<256)(e:DT b=DT f):b=f:=by have:=congrArg UInt8.toNat e;rwa[EB c,EB d]at this
def AY7(a:Nat):QD 4 a=[DT (a/256/256/256),DT (a/256/256),DT (a/256),DT a]:=rfl
theorem AVV(h:f<65536)(i:b<f):QD 4 b<QD 4 f:=by
 rw[AY7,AY7];have d:b/256/256=0:=by omega
 have e:f/256/256=0:=by omega
 rw[d,e];have lt:∀{x c:Nat},c<256->x<c->DT x<DT c:=λ{x c}j k=>by grind[UInt8.lt_iff_toNat_lt,EB]
 refine List.Lex.cons (List.Lex.cons ?_);by_cases g:b/256=f/256;{rw[g];refine List.Lex.cons (List.Lex.rel ?_);grind[AIe]};exact List.Lex.rel (lt (by omega) (by omega))
theorem AYR(p:List UInt8)(d:a4<cf):p++a4<p++cf:=by induction p with|nil=>exact d|cons c p e=>exact List.Lex.cons e
def kE:UInt8:=104
def mZ(a:E):List UInt8:=kE::Bj (bl a)
def Zn(a:E):E:=Am (mZ a)
def eY(a:E)(b:Nat):E:=Am (mZ a++QD 4 b)
def Og(a:E):E:=Am (119::bl a)
def QT(a:E):E:=Am (114::bl a)
def na(a b:Nat):E:=Am (116::DT a::QD 8 b)
def ng(a b c:Nat):E:=Am (109::DT a::(QD 8 b++QD 8 c))
theorem ADS(a:h.size<=16):Bj (bl h)=DT h.size::bl h:=by grind[Bj,Ba,GK]
theorem Uu(a:h.size<=16):mZ h=104::DT h.size::bl h:=by unfold mZ;rw[ADS a];rfl
theorem ATg(b:h.size<=16)(a:Nat):(eY h a).size<=22:=by unfold eY;simp_all[AX,A6,RU,Uu,Bs,Ba]
theorem AQ9(a:h.size<=16):(Zn h).size<=18:=by simp_all[Zn,AX,Uu,Bs,Ba]
theorem Zz(a:E):(Og a).size=a.size+1:=by unfold Og;rw[AX,Bs,Ba]
theorem YT(a:E):(QT a).size=a.size+1:=by unfold QT;rw[AX,Bs,Ba]
theorem ADO(a b:Nat):(na a b).size=10:=by unfold na;rw[AX];rfl
theorem ADF(a b c:Nat):(ng a b c).size=18:=by unfold ng;rw[AX];rfl
theorem pj{i:Nat}(a:b<65536)(c:i<b):aQ (eY h i) (eY h b)=true:=by simp_all[p8,AW,eY,EQ,AYR,AVV]
theorem AO6(a:E)(b:Nat):j7 (Zn a) (eY a b)=true:=by simp_all[rH,Zn,eY,EQ,List.prefix_append]
theorem AQH(d:h.size<=16)(e:a1.size<=16)(a:j7 (Zn h) (eY a1 b)=Y):h=a1:=by rw[rH]at a;unfold Zn eY at a;rw[EQ,EQ,Uu d,Uu e]at a;obtain⟨t,c⟩:=a;simp only[DO,LR,Ss]at c;have f:=AQv (by omega) (by omega) c.1;have:=(List.append_inj c.2 (by simp_all)).1;rw[<-Es h,<-Es a1];exact congrArg Am this
theorem AVM(d:h.size<=16)(e:a1.size<=16){i:Nat}(hi:i<65536)(f:b<65536)(c:eY h i=eY a1 b):h=a1/\i=b:=by have g:h=a1:=AQH d e (by rw[<-c];exact AO6 h i);subst g;refine⟨rfl,?_⟩;rcases LL i b with a|a|a;{exact A4 c (Sn (pj f a))};{exact a};exact A4 c.symm (Sn (pj hi a))
theorem ARl(c:Og h=Og a1):h=a1:=by have:=LD.1 c;simp only[LR,Ss]at this;rw[<-Es h,<-Es a1];exact congrArg Am this
theorem AMF(c:QT h=QT a1):h=a1:=by have:=LD.1 c;simp only[LR,Ss]at this;rw[<-Es h,<-Es a1];exact congrArg Am this
def Dc(a:E):UInt8:=(bl a).headD 0
theorem rK(a:E)(b:Nat):Dc (eY a b)=104:=by unfold Dc eY;rw[GQ];rfl
theorem JR(a:E):Dc (Og a)=119:=by unfold Dc Og;rw[GQ];rfl
theorem QH(a:E):Dc (QT a)=114:=by unfold Dc QT;rw[GQ];rfl
theorem AOS(a b:Nat):Dc (na a b)=116:=by unfold Dc na;rw[GQ];rfl
theorem ANa(a b c:Nat):Dc (ng a b c)=109:=by unfold Dc ng;rw[GQ];rfl
theorem wu(a:j7 (Zn h) a1=Y):Dc a1=104:=by rw[rH]at a;obtain⟨t,b⟩:=a;unfold Dc;show(a1.data.toList).headD 0=104;rw[<-b];unfold Zn;rw[EQ];rfl
def Tq(a next:Nat)(b:Bool):E:=Am (Bt a++(Bt next++Bt (if b then 1 else 0)))
def kF(a:List UInt8)(b next:Nat):E:=Am (Bj a++(Bt b++Bt next))
def wv(a:Nat)(b:E)(c d:Nat):E:=Am (Bt a++(Bj (bl b)++(Bt c++Bt d)))
theorem Im{n:Nat}(a:n<16384):J (Bt n)<=2:=ALf 1 n (by omega)
theorem ANg{kind ref turn:Nat}{wid:E}(a:kind<128)(b:wid.size<=16)(c:ref<=500)(d:turn<=5):(wv kind wid ref turn).size<=22:=by unfold wv;have:=Im (n:=ref) (by omega);rw[AX,GK a,ADS b,GK (n:=turn) (by omega)];simp only[A6,Bs,Ba,Kx];omega
theorem AN2{next:Nat}(a:b<128)(c:next<=501):(Tq b next al).size<=4:=by unfold Tq;grind[Im,AX,GK,List.length_append,List.length_cons,List.length_nil]
structure aP where
 wid:E
 ak:Nat
 cy:Int
 bX:Int
 kept:Bool
 st:aI
 more:List Ev
 az:List Pr
 conds:List Pr
 err:Int
 now:Int
def ZK(a:aI):Bool:=decide (a.next<=497)
def FU(b:E)(c:Nat)(cy bX:Int)(d:Bool)(st:aI)(a:Int):aP:=⟨b,c,cy,bX,d,st,[],[],[],if a<0\/1099511611776<a then 1 else 0,a⟩
def Dp(a:aP)(b:Ev):Ev:={b with id:=if 1>a.st.next then 1 else a.st.next,tick:=a.now}
def DW(a:aP)(b:Ev):aP:=if a.err≠0 then a else if a.more=[]/\ZK a.st=U/\b.kind≠18 then{a with err:=2}else if(BN a.st (Dp a b)).1≠0 then{a with err:=(BN a.st (Dp a b)).1}else{a with st:=(BN a.st (Dp a b)).2,more:=a.more++[Dp a b]}
def kG(a:aP):Int:=a.st.next-1
structure gK where
 kind:Int
 ref:Int
 turn:Int
def KF(a:gK)(b:E):Bool:=bS a.kind 1 7&&Aq b&&bS a.ref 0 500&&bS a.turn 0 5
def lU(a:gK)(b:E):E:=wv a.kind.toNat b a.ref.toNat a.turn.toNat
def Rp(a:Nat)(b:Int)(c:Nat):E:=if b<0 then na a c else ng a b.toNat c
def FP(a:aP)(b:gK)(c:Int)(d:Nat):aP:=if a.err≠0 then a else if KF b a.wid=U then{a with err:=1}else{a with az:=a.az++[⟨Rp a.ak c d,lU b a.wid,U⟩]}
def pq(a:aP)(b val:E):aP:={a with conds:=a.conds++[⟨b,⟨#[]⟩,Y⟩],az:=a.az++[⟨b,val,U⟩]}
def Ey(a:aP):Bool:=decide (a.more≠[])&&(decide (a.st.status=0)&&(a.st.fresh&&(decide (a.st.asked=0)&&decide (a.st.taken=0))))
def Dv(a:aP):Int×Int:=(a.st.status,if Ey a then a.st.next+1 else a.st.next)
def bH(a:aP):Pr:=if 0<a.bX then⟨Og a.wid,Tq a.cy.toNat a.bX.toNat a.kept,U⟩else⟨Og a.wid,⟨#[]⟩,Y⟩
def SK(b:E)(a:Ev):Pr:=⟨eY b a.id.toNat,Am (Qa a),U⟩
def Ff(a:aP):List Pr:=a.more.map (SK a.wid)++(if a.more=[]then[]else[⟨Og a.wid,Tq a.st.status.toNat a.st.next.toNat U,U⟩])
structure aP.ga (C:aP):Prop where
 pos:C.err=0-> ∀e∈C.more,EY e=Y
 err0:0<=C.err
theorem PP(a:aP)(b:Ev):(DW a b).wid=a.wid/\(DW a b).ak=a.ak/\(DW a b).cy=a.cy/\(DW a b).bX=a.bX/\(DW a b).kept=a.kept/\(DW a b).az=a.az/\(DW a b).conds=a.conds/\(DW a b).now=a.now:=by unfold DW;split;{simp};split;{simp};split<;>simp
variable{ao:aP}
theorem wx{e:Ev}(c:ao.err=0)(d:ao.more≠[]\/ao.st.next<=497\/e.kind=18)(f:(BN ao.st (Dp ao e)).1=0):DW ao e={ao with st:=(BN ao.st (Dp ao e)).2,more:=ao.more++[Dp ao e]}:=by unfold DW;rw[A0 (by simp[c]),A0 (by rintro⟨g,b,h⟩;rcases d with a|a|a;{exact a g};{unfold ZK at b;simp at b;omega};exact h a),A0 (by simp[f])]
def wy(a:Q6):Q->Nat->List J0->(Q->Prop)->Prop|h,_,[],K=>K h|h,i,v::b,K=>aj h (a.add i) v λc=>wy a c (i+1) b K
def cE(a:Q)(b:Q6)(c:List J0)(d:Q->Prop):Prop:=wy b a 0 c d
def gL(a:Array J0)(b:Nat)(c:List J0):Array J0:=⟨a.toList.take b++(c++a.toList.drop (b+J c))⟩
theorem ARf(a:b<bi.size):gL (bi.setIfInBounds b r) (b+1) b2=gL bi b (r::b2):=by
 obtain⟨l⟩:=bi;have a:b<J l:=a;apply congrArg Array.mk;simp[A0y,Bs];have c:l.set b r=l.take b++r::l.drop (b+1):=by rw[A0M,A1 a]
 rw[c,Pa,Wa,BT,Hc (by omega)];rw[show b+1-b=1 from by omega,A03,PJ (by omega),show b+1+J b2-b=J b2+1 from by omega];rw[Pc (l:=l.take b) (by grind)];simp[LN,SD,CN,Lz,Ix,AI,DO];rw[show b+1+J b2=b+(J b2+1)from by omega]
theorem AUk:gL bi b []=bi:=by simp_all[gL]
theorem AUW:∀(c:List J0)(i:Nat){a:Q}{d:Array J0},a[b]?=Z (J2 d u (0,0))->f+i+J c<=d.size->(∀e,e[b]?=Z (J2 (gL d (f+i) c) u (0,0))->G (· =b) a e->e.size=a.size->be e)->wy ⟨b,f,V⟩ a i c be|[],i,a,d,g,_,h=>h a (by rw[AUk];exact g) ⟨A2 _,λ_ _ _=>rfl⟩ rfl|v::c,i,a,d,g,j,h=>by rw[Bs]at j;show aj a (Addr.add ⟨b,f,V⟩ i) v _;rw[CR];refine Ac g (by omega) λp k l q=>AUW c (i+1) k (by simp;omega) λm r n s=>h m ?_ (l.trans n) (by omega);grind[ARf]
def Ap{vs:List J0}(d:a[b]?=Z (J2 bi u (0,0)))(e:f+J vs<=bi.size)(g:∀c,c[b]?=Z (J2 (gL bi f vs) u (0,0))->G (· =b) a c->c.size=a.size->be c):cE a ⟨b,f,V⟩ vs be:=AUW vs 0 d e g
theorem Dk(c:a[b]?=Z (J2 bi u bs))(d:(bi.toList.drop f).take (J b2)=b2):Cells a ⟨b,f,V⟩ b2:=λe v g=>by rw[CR];refine AL c ?_;grind
def kH:(l:List Sc)->(iD l->Prop)->Prop|[],K=>K ()|s::l,K=>∃x:s.Ty,kH l λa=>K (x,a)
theorem Zl:∀{l:List Sc}{K:iD l->Prop}(x:iD l),K x->kH l K|[],_,_,a=>a|_::_,_,x,a=>⟨x.1,Zl x.2 a⟩
def gM(a:Q)(b:Q6):Nat->(l:List Sc)->(iD l->Prop)->Prop|_,[],K=>K ()|i,s::l,K=>s.load a (b.add i) λx=>gM a b (i+1) l λc=>K (x,c)
theorem QX:∀{l:List Sc}{i:Nat}{K:iD l->Prop}(x:iD l),(∀b v,(jD l x)[b]?=Z v->ah a (a2.add (i+b))=Z v)->K x->gM a a2 i l K|[],_,_,_,_,c=>c|s::l,i,K,x,d,c=>by have e:gM a a2 (i+1) l λf=>K (x.1,f):=QX x.2 (λb v g=>by have:=d (b+1) v g;rwa[<-KB,Nat.add_right_comm]at this) c;cases s<;>exact⟨_,d 0 _ rfl,e⟩
abbrev Ev.l(x:Ev):List J0:=[D x.id,D x.kind,D x.tick,D x.ref,D x.step,D x.turn,J3 x.aq,J7 x.data]
abbrev Ev.c(x:Ev):Array J0:=x.l.toArray
abbrev Ev.v(x:Ev):J0:=.agg x.l.toArray
abbrev MS:Ev:=⟨0,0,0,0,0,0,U,⟨#[]⟩⟩
abbrev Ev.s:List Sc:=[.int D,.int D,.int D,.int D,.int D,.int D,.bool,.str]
abbrev ASI:Type:=Int×Int×Int×Int×Int×Int×Bool×E×Unit
abbrev Ev.t(x:Ev):ASI:=(x.id,x.kind,x.tick,x.ref,x.step,x.turn,x.aq,x.data,())
abbrev ATR(p:ASI):Ev:=⟨p.1,p.2.1,p.2.2.1,p.2.2.2.1,p.2.2.2.2.1,p.2.2.2.2.2.1,p.2.2.2.2.2.2.1,p.2.2.2.2.2.2.2.1⟩
def rM(a:Ev->Prop):Prop:=kH Ev.s λp=>a (ATR p)
def UR{a:Ev->Prop}(x:Ev)(b:a x):rM a:=Zl x.t b
def pv(a:Q)(b:Q6)(c:Ev->Prop):Prop:=gM a b 0 Ev.s λp=>c (ATR p)
theorem Da{b:Ev->Prop}(x:Ev)(c:Cells a a2 x.l)(d:b x):pv a a2 b:=QX x.t (λe v f=>by rw[B8];exact c e v f) d
abbrev Jb.l(x:Jb):List J0:=[D x.id,D x.step,J3 x.aq,D x.turn]
abbrev Jb.c(x:Jb):Array J0:=x.l.toArray
abbrev Jb.v(x:Jb):J0:=.agg x.l.toArray
abbrev AXt:Jb:=⟨0,0,U,0⟩
abbrev Jb.s:List Sc:=[.int D,.int D,.bool,.int D]
abbrev AU6:Type:=Int×Int×Bool×Int×Unit
abbrev Jb.t(x:Jb):AU6:=(x.id,x.step,x.aq,x.turn,())
abbrev AXy(p:AU6):Jb:=⟨p.1,p.2.1,p.2.2.1,p.2.2.2.1⟩
def AZI(a:Q)(b:Q6)(c:Jb->Prop):Prop:=gM a b 0 Jb.s λp=>c (AXy p)
theorem Tv{b:Jb->Prop}(x:Jb)(c:Cells a a2 x.l)(d:b x):AZI a a2 b:=QX x.t (λe v f=>by rw[B8];exact c e v f) d
abbrev Ck.l(x:Ck):List J0:=[D x.id,D x.step,D x.tick]
abbrev Ck.c(x:Ck):Array J0:=x.l.toArray
abbrev Ck.v(x:Ck):J0:=.agg x.l.toArray
abbrev AXm:Ck:=⟨0,0,0⟩
abbrev Ck.s:List Sc:=[.int D,.int D,.int D]
abbrev AUD:Type:=Int×Int×Int×Unit
abbrev Ck.t(x:Ck):AUD:=(x.id,x.step,x.tick,())
abbrev AXP(p:AUD):Ck:=⟨p.1,p.2.1,p.2.2.1⟩
def AYv(a:Q)(b:Q6)(c:Ck->Prop):Prop:=gM a b 0 Ck.s λp=>c (AXP p)
theorem ARk{b:Ck->Prop}(x:Ck)(c:Cells a a2 x.l)(d:b x):AYv a a2 b:=QX x.t (λe v f=>by rw[B8];exact c e v f) d
abbrev bP.l(x:bP):List J0:=[D x.kind,J7 x.name,J7 x.aq,D x.tries,D x.aC,D x.wait]
abbrev bP.c(x:bP):Array J0:=x.l.toArray
abbrev bP.v(x:bP):J0:=.agg x.l.toArray
abbrev Su:bP:=⟨0,⟨#[]⟩,⟨#[]⟩,0,0,0⟩
abbrev bP.s:List Sc:=[.int D,.str,.str,.int D,.int D,.int D]
abbrev AO4:Type:=Int×E×E×Int×Int×Int×Unit
abbrev bP.t(x:bP):AO4:=(x.kind,x.name,x.aq,x.tries,x.aC,x.wait,())
abbrev APE(p:AO4):bP:=⟨p.1,p.2.1,p.2.2.1,p.2.2.2.1,p.2.2.2.2.1,p.2.2.2.2.2.1⟩
def AXM(a:bP->Prop):Prop:=kH bP.s λp=>a (APE p)
def wz{a:bP->Prop}(x:bP)(b:a x):AXM a:=Zl x.t b
def AWz(a:Q)(b:Q6)(c:bP->Prop):Prop:=gM a b 0 bP.s λp=>c (APE p)
theorem R5{b:bP->Prop}(x:bP)(c:Cells a a2 x.l)(d:b x):AWz a a2 b:=QX x.t (λe v f=>by rw[B8];exact c e v f) d
structure bQ where
 steps:Sl
 aw:Int
 status:Int
 next:Int
 bg:Int
 asked:Int
 taken:Int
 fresh:Bool
 au:Sl
 ag:Sl
 cancel:Bool
 aD:Bool
abbrev bQ.l(x:bQ):List J0:=[J4 x.steps.p x.steps.len x.steps.cap,D x.aw,D x.status,D x.next,D x.bg,D x.asked,D x.taken,J3 x.fresh,J4 x.au.p x.au.len x.au.cap,J4 x.ag.p x.ag.len x.ag.cap,J3 x.cancel,J3 x.aD]
abbrev bQ.c(x:bQ):Array J0:=x.l.toArray
abbrev bQ.v(x:bQ):J0:=.agg x.l.toArray
abbrev Ca:bQ:=⟨⟨V,0,0⟩,0,0,0,0,0,0,U,⟨V,0,0⟩,⟨V,0,0⟩,U,U⟩
abbrev bQ.s:List Sc:=[.sl,.int D,.int D,.int D,.int D,.int D,.int D,.bool,.sl,.sl,.bool,.bool]
abbrev APs:Type:=Sl×Int×Int×Int×Int×Int×Int×Bool×Sl×Sl×Bool×Bool×Unit
abbrev bQ.t(x:bQ):APs:=(x.steps,x.aw,x.status,x.next,x.bg,x.asked,x.taken,x.fresh,x.au,x.ag,x.cancel,x.aD,())
abbrev APj(p:APs):bQ:=⟨p.1,p.2.1,p.2.2.1,p.2.2.2.1,p.2.2.2.2.1,p.2.2.2.2.2.1,p.2.2.2.2.2.2.1,p.2.2.2.2.2.2.2.1,p.2.2.2.2.2.2.2.2.1,p.2.2.2.2.2.2.2.2.2.1,p.2.2.2.2.2.2.2.2.2.2.1,p.2.2.2.2.2.2.2.2.2.2.2.1⟩
def py(a:bQ->Prop):Prop:=kH bQ.s λp=>a (APj p)
def EZ{a:bQ->Prop}(x:bQ)(b:a x):py a:=Zl x.t b
def PE(a:Q)(b:Q6)(c:bQ->Prop):Prop:=gM a b 0 bQ.s λp=>c (APj p)
theorem Ce{b:bQ->Prop}(x:bQ)(c:Cells a a2 x.l)(d:b x):PE a a2 b:=QX x.t (λe v f=>by rw[B8];exact c e v f) d
structure dG where
 status:Int
 next:Int
 kept:Bool
abbrev dG.l(x:dG):List J0:=[D x.status,D x.next,J3 x.kept]
abbrev dG.c(x:dG):Array J0:=x.l.toArray
abbrev dG.v(x:dG):J0:=.agg x.l.toArray
abbrev VB:dG:=⟨0,0,U⟩
abbrev dG.s:List Sc:=[.int D,.int D,.bool]
abbrev AO5:Type:=Int×Int×Bool×Unit
abbrev dG.t(x:dG):AO5:=(x.status,x.next,x.kept,())
abbrev AOy(p:AO5):dG:=⟨p.1,p.2.1,p.2.2.1⟩
def AXI(a:dG->Prop):Prop:=kH dG.s λp=>a (AOy p)
def AN4{a:dG->Prop}(x:dG)(b:a x):AXI a:=Zl x.t b
def rN(a:Q)(b:Q6)(c:dG->Prop):Prop:=gM a b 0 dG.s λp=>c (AOy p)
theorem Rz{b:dG->Prop}(x:dG)(c:Cells a a2 x.l)(d:b x):rN a a2 b:=QX x.t (λe v f=>by rw[B8];exact c e v f) d
structure cJ where
 wid:E
 ak:Int
 me:dG
 aH:Sl
 st:bQ
abbrev cJ.l(x:cJ):List J0:=[J7 x.wid,D x.ak,D x.me.status,D x.me.next,J3 x.me.kept,J4 x.aH.p x.aH.len x.aH.cap,J4 x.st.steps.p x.st.steps.len x.st.steps.cap,D x.st.aw,D x.st.status,D x.st.next,D x.st.bg,D x.st.asked,D x.st.taken,J3 x.st.fresh,J4 x.st.au.p x.st.au.len x.st.au.cap,J4 x.st.ag.p x.st.ag.len x.st.ag.cap,J3 x.st.cancel,J3 x.st.aD]
abbrev cJ.c(x:cJ):Array J0:=x.l.toArray
abbrev cJ.v(x:cJ):J0:=.agg x.l.toArray
abbrev Cu:cJ:=⟨⟨#[]⟩,0,⟨0,0,U⟩,⟨V,0,0⟩,⟨⟨V,0,0⟩,0,0,0,0,0,0,U,⟨V,0,0⟩,⟨V,0,0⟩,U,U⟩⟩
abbrev cJ.s:List Sc:=[.str,.int D,.int D,.int D,.bool,.sl,.sl,.int D,.int D,.int D,.int D,.int D,.int D,.bool,.sl,.sl,.bool,.bool]
abbrev APR:Type:=E×Int×Int×Int×Bool×Sl×Sl×Int×Int×Int×Int×Int×Int×Bool×Sl×Sl×Bool×Bool×Unit
abbrev cJ.t(x:cJ):APR:=(x.wid,x.ak,x.me.status,x.me.next,x.me.kept,x.aH,x.st.steps,x.st.aw,x.st.status,x.st.next,x.st.bg,x.st.asked,x.st.taken,x.st.fresh,x.st.au,x.st.ag,x.st.cancel,x.st.aD,())
abbrev AP5(p:APR):cJ:=⟨p.1,p.2.1,⟨p.2.2.1,p.2.2.2.1,p.2.2.2.2.1⟩,p.2.2.2.2.2.1,⟨p.2.2.2.2.2.2.1,p.2.2.2.2.2.2.2.1,p.2.2.2.2.2.2.2.2.1,p.2.2.2.2.2.2.2.2.2.1,p.2.2.2.2.2.2.2.2.2.2.1,p.2.2.2.2.2.2.2.2.2.2.2.1,p.2.2.2.2.2.2.2.2.2.2.2.2.1,p.2.2.2.2.2.2.2.2.2.2.2.2.2.1,p.2.2.2.2.2.2.2.2.2.2.2.2.2.2.1,p.2.2.2.2.2.2.2.2.2.2.2.2.2.2.2.1,p.2.2.2.2.2.2.2.2.2.2.2.2.2.2.2.2.1,p.2.2.2.2.2.2.2.2.2.2.2.2.2.2.2.2.2.1⟩⟩
def AWv(a:cJ->Prop):Prop:=kH cJ.s λp=>a (AP5 p)
def DF{a:cJ->Prop}(x:cJ)(b:a x):AWv a:=Zl x.t b
def rO(a:Q)(b:Q6)(c:cJ->Prop):Prop:=gM a b 0 cJ.s λp=>c (AP5 p)
theorem I8{b:cJ->Prop}(x:cJ)(c:Cells a a2 x.l)(d:b x):rO a a2 b:=QX x.t (λe v f=>by rw[B8];exact c e v f) d
structure dH where
 kind:Int
 wid:E
 ref:Int
 turn:Int
abbrev dH.l(x:dH):List J0:=[D x.kind,J7 x.wid,D x.ref,D x.turn]
abbrev dH.c(x:dH):Array J0:=x.l.toArray
abbrev dH.v(x:dH):J0:=.agg x.l.toArray
abbrev YL:dH:=⟨0,⟨#[]⟩,0,0⟩
abbrev dH.s:List Sc:=[.int D,.str,.int D,.int D]
abbrev AQF:Type:=Int×E×Int×Int×Unit
abbrev dH.t(x:dH):AQF:=(x.kind,x.wid,x.ref,x.turn,())
abbrev AWm(p:AQF):dH:=⟨p.1,p.2.1,p.2.2.1,p.2.2.2.1⟩
def AXJ(a:Q)(b:Q6)(c:dH->Prop):Prop:=gM a b 0 dH.s λp=>c (AWm p)
theorem SB{b:dH->Prop}(x:dH)(c:Cells a a2 x.l)(d:b x):AXJ a a2 b:=QX x.t (λe v f=>by rw[B8];exact c e v f) d
structure bq where
 kind:Int
 aL:E
 wid:E
 name:E
 steps:Sl
 aw:Int
 cr:Sl
 ref:Int
 turn:Int
 br:Int
 ak:Int
 aG:Bool
abbrev bq.l(x:bq):List J0:=[D x.kind,J7 x.aL,J7 x.wid,J7 x.name,J4 x.steps.p x.steps.len x.steps.cap,D x.aw,J4 x.cr.p x.cr.len x.cr.cap,D x.ref,D x.turn,D x.br,D x.ak,J3 x.aG]
abbrev bq.c(x:bq):Array J0:=x.l.toArray
abbrev bq.v(x:bq):J0:=.agg x.l.toArray
abbrev wA:bq:=⟨0,⟨#[]⟩,⟨#[]⟩,⟨#[]⟩,⟨V,0,0⟩,0,⟨V,0,0⟩,0,0,0,0,U⟩
abbrev bq.s:List Sc:=[.int D,.str,.str,.str,.sl,.int D,.sl,.int D,.int D,.int D,.int D,.bool]
abbrev APy:Type:=Int×E×E×E×Sl×Int×Sl×Int×Int×Int×Int×Bool×Unit
abbrev bq.t(x:bq):APy:=(x.kind,x.aL,x.wid,x.name,x.steps,x.aw,x.cr,x.ref,x.turn,x.br,x.ak,x.aG,())
abbrev AVX(p:APy):bq:=⟨p.1,p.2.1,p.2.2.1,p.2.2.2.1,p.2.2.2.2.1,p.2.2.2.2.2.1,p.2.2.2.2.2.2.1,p.2.2.2.2.2.2.2.1,p.2.2.2.2.2.2.2.2.1,p.2.2.2.2.2.2.2.2.2.1,p.2.2.2.2.2.2.2.2.2.2.1,p.2.2.2.2.2.2.2.2.2.2.2.1⟩
def AWr(a:Q)(b:Q6)(c:bq->Prop):Prop:=gM a b 0 bq.s λp=>c (AVX p)
theorem Gr{b:bq->Prop}(x:bq)(c:Cells a a2 x.l)(d:b x):AWr a a2 b:=QX x.t (λe v f=>by rw[B8];exact c e v f) d
structure bI where
 err:Int
 status:Int
 next:Int
 task:dH
 name:E
 aH:Sl
abbrev bI.l(x:bI):List J0:=[D x.err,D x.status,D x.next,D x.task.kind,J7 x.task.wid,D x.task.ref,D x.task.turn,J7 x.name,J4 x.aH.p x.aH.len x.aH.cap]
abbrev bI.c(x:bI):Array J0:=x.l.toArray
abbrev bI.v(x:bI):J0:=.agg x.l.toArray
abbrev BV:bI:=⟨0,0,0,⟨0,⟨#[]⟩,0,0⟩,⟨#[]⟩,⟨V,0,0⟩⟩
abbrev bI.s:List Sc:=[.int D,.int D,.int D,.int D,.str,.int D,.int D,.str,.sl]
abbrev APD:Type:=Int×Int×Int×Int×E×Int×Int×E×Sl×Unit
abbrev bI.t(x:bI):APD:=(x.err,x.status,x.next,x.task.kind,x.task.wid,x.task.ref,x.task.turn,x.name,x.aH,())
abbrev AQA(p:APD):bI:=⟨p.1,p.2.1,p.2.2.1,⟨p.2.2.2.1,p.2.2.2.2.1,p.2.2.2.2.2.1,p.2.2.2.2.2.2.1⟩,p.2.2.2.2.2.2.2.1,p.2.2.2.2.2.2.2.2.1⟩
def Xp(a:bI->Prop):Prop:=kH bI.s λp=>a (AQA p)
def BG{a:bI->Prop}(x:bI)(b:a x):Xp a:=Zl x.t b
def Oz(a:Q)(b:Q6)(c:bI->Prop):Prop:=gM a b 0 bI.s λp=>c (AQA p)
theorem DY{b:bI->Prop}(x:bI)(c:Cells a a2 x.l)(d:b x):Oz a a2 b:=QX x.t (λe v f=>by rw[B8];exact c e v f) d
structure eg where
 wait:Int
 q:bq
 take:Bool
 kR:Bool
abbrev eg.l(x:eg):List J0:=[D x.wait,D x.q.kind,J7 x.q.aL,J7 x.q.wid,J7 x.q.name,J4 x.q.steps.p x.q.steps.len x.q.steps.cap,D x.q.aw,J4 x.q.cr.p x.q.cr.len x.q.cr.cap,D x.q.ref,D x.q.turn,D x.q.br,D x.q.ak,J3 x.q.aG,J3 x.take,J3 x.kR]
abbrev eg.c(x:eg):Array J0:=x.l.toArray
abbrev eg.v(x:eg):J0:=.agg x.l.toArray
abbrev AOu:eg:=⟨0,⟨0,⟨#[]⟩,⟨#[]⟩,⟨#[]⟩,⟨V,0,0⟩,0,⟨V,0,0⟩,0,0,0,0,U⟩,U,U⟩
abbrev eg.s:List Sc:=[.int D,.int D,.str,.str,.str,.sl,.int D,.sl,.int D,.int D,.int D,.int D,.bool,.bool,.bool]
abbrev APw:Type:=Int×Int×E×E×E×Sl×Int×Sl×Int×Int×Int×Int×Bool×Bool×Bool×Unit
abbrev eg.t(x:eg):APw:=(x.wait,x.q.kind,x.q.aL,x.q.wid,x.q.name,x.q.steps,x.q.aw,x.q.cr,x.q.ref,x.q.turn,x.q.br,x.q.ak,x.q.aG,x.take,x.kR,())
abbrev AVm(p:APw):eg:=⟨p.1,⟨p.2.1,p.2.2.1,p.2.2.2.1,p.2.2.2.2.1,p.2.2.2.2.2.1,p.2.2.2.2.2.2.1,p.2.2.2.2.2.2.2.1,p.2.2.2.2.2.2.2.2.1,p.2.2.2.2.2.2.2.2.2.1,p.2.2.2.2.2.2.2.2.2.2.1,p.2.2.2.2.2.2.2.2.2.2.2.1,p.2.2.2.2.2.2.2.2.2.2.2.2.1⟩,p.2.2.2.2.2.2.2.2.2.2.2.2.2.1,p.2.2.2.2.2.2.2.2.2.2.2.2.2.2.1⟩
def AW6(a:Q)(b:Q6)(c:eg->Prop):Prop:=gM a b 0 eg.s λp=>c (AVm p)
theorem Uv{b:eg->Prop}(x:eg)(c:Cells a a2 x.l)(d:b x):AW6 a a2 b:=QX x.t (λe v f=>by rw[B8];exact c e v f) d
structure iM where
 key:E
 val:E
 ref:Int
 turn:Int
 aG:Bool
abbrev iM.l(x:iM):List J0:=[J7 x.key,J7 x.val,D x.ref,D x.turn,J3 x.aG]
abbrev iM.c(x:iM):Array J0:=x.l.toArray
abbrev iM.v(x:iM):J0:=.agg x.l.toArray
abbrev AZN:iM:=⟨⟨#[]⟩,⟨#[]⟩,0,0,U⟩
abbrev iM.s:List Sc:=[.str,.str,.int D,.int D,.bool]
abbrev APH:Type:=E×E×Int×Int×Bool×Unit
abbrev iM.t(x:iM):APH:=(x.key,x.val,x.ref,x.turn,x.aG,())
abbrev AZL(p:APH):iM:=⟨p.1,p.2.1,p.2.2.1,p.2.2.2.1,p.2.2.2.2.1⟩
abbrev ad(a:Nat):Q6:=⟨a,0,V⟩
def IE{a:an->el}{b:an}{c:an->Prop}(d:c b):∃x,a b=a x/\c x:=⟨_,rfl,d⟩
abbrev HP:=Q->Prop
abbrev aA(x:HP):HP:=x
abbrev jN{a:Type}(b:a->HP)(c:(a->HP)->HP):HP:=aA λd=>fP b λK=>c K d
abbrev T(b:Bool)(c d:HP):HP:=aA λa=>cX b (c a) (d a)
abbrev aT(p:Q2)(b:Q6->HP):HP:=aA λc=>At p λa=>b a c
abbrev iX(p:Q2)(b:Nat)(i:Int)(c:Q6->HP):HP:=aA λd=>iT p b i λa=>c a d
abbrev cK(a:Prop)(b:HP):HP:=aA λc=>dt a (b c)
abbrev aN(b c:HP):HP:=aA λa=>And (b a) (c a)
abbrev oK(a:Bool)(b:HP):HP:=aA λc=>qc a (b c)
abbrev nW(a:Obj)(c:Q6->HP):HP:=aA λd=>bW d a λb=>c (ad b)
abbrev nM(a:Nat->HP):HP:=aA λb=>bW b (.map #[] 0) a
abbrev sT(a:Q6)(b:J0)(c:HP):HP:=aA λd=>aj d a b c
abbrev sA(a:Q6)(b:List J0)(c:HP):HP:=aA λd=>cE d a b c
abbrev rU(a:ai)(m:Sem Unit)(b:HP):HP:=aA λc=>iV a P m c b
abbrev dF(a:Nat)(c:HP):HP:=aA λb=>b[a]?=Z (.deferred (Z []))/\c (b.setIfInBounds a (.deferred V))
def gA:List (Q6×J0)->HP|[],_=>True|[x],a=>ah a x.1=Z x.2|x::l,a=>ah a x.1=Z x.2/\gA l a
abbrev gT(b:List (Q6×J0))(c:HP):HP:=aA λa=>And (gA b a) (c a)
abbrev cB(b:ai)(c:Q8)(d:Array J0)(e:Bool->HP):HP:=aA λf=>AJ b P c d f λv g=>∃a:Bool,v=J3 a/\e a g
abbrev cEv(b:ai)(c:Q8)(d:Array J0)(e:Ev->HP):HP:=aA λf=>AJ b P c d f λv g=>rM λa=>v=a.v/\e a g
abbrev cI(b:ai)(c:Q8)(d:Array J0)(e:Int->HP):HP:=aA λf=>AJ b P c d f λv g=>∃a:Int,v=D a/\e a g
abbrev cL(b:ai)(c:Q8)(d:Array J0)(e:Sl->HP):HP:=aA λf=>AJ b P c d f λv g=>∃a:Sl,v=J4 a.p a.len a.cap/\e a g
abbrev cP(b:ai)(c:Q8)(d:Array J0)(e:(Q2)->HP):HP:=aA λf=>AJ b P c d f λv g=>∃a:Q2,v=J5 a/\e a g
abbrev Ha(b:ai)(c:Q8)(d:Array J0)(e:bI->HP):HP:=aA λf=>AJ b P c d f λv g=>Xp λa=>v=a.v/\e a g
abbrev cS(b:ai)(c:Q8)(d:Array J0)(e:E->HP):HP:=aA λf=>AJ b P c d f λv g=>∃a:E,v=J7 a/\e a g
abbrev iC(b:ai)(c:Q8)(d:Array J0)(e:bQ->HP):HP:=aA λf=>AJ b P c d f λv g=>py λa=>v=a.v/\e a g
abbrev cV(b:ai)(c:Q8)(d:Array J0)(e:J0->HP):HP:=aA λf=>AJ b P c d f λv g=>∃a:J0,v=a/\e a g
abbrev ADP(i:ai)(j:Q8)(k:Array J0)(l:Int->Int->Int->Int->Int->Int->Bool->E->HP):HP:=aA λm=>AJ i P j k m λv n=>∃a:Int,∃b:Int,∃c:Int,∃d:Int,∃e:Int,∃f:Int,∃g:Bool,∃h:E,v=.agg #[D a,D b,D c,D d,D e,D f,J3 g,J7 h]/\l a b c d e f g h n
abbrev kq(c:ai)(d:Q8)(e:Array J0)(f:Sl->Int->HP):HP:=aA λg=>AJ c P d e g λv h=>∃a:Sl,∃b:Int,v=.agg #[J4 a.p a.len a.cap,D b]/\f a b h
abbrev AWx(c:ai)(d:Q8)(e:Array J0)(f:Sl->Sl->HP):HP:=aA λg=>AJ c P d e g λv h=>∃a:Sl,∃b:Sl,v=.agg #[J4 a.p a.len a.cap,J4 b.p b.len b.cap]/\f a b h
abbrev Ia(m:ai)(n:Q8)(o:Array J0)(p:(Q2)->(Q2)->(Q2)->(Q2)->(Q2)->(Q2)->(Q2)->(Q2)->(Q2)->(Q2)->(Q2)->(Q2)->HP):HP:=aA λq=>AJ m P n o q λv r=>∃a:Q2,∃b:Q2,∃c:Q2,∃d:Q2,∃e:Q2,∃f:Q2,∃g:Q2,∃h:Q2,∃i:Q2,∃j:Q2,∃k:Q2,∃l:Q2,v=.agg #[J5 a,J5 b,J5 c,J5 d,J5 e,J5 f,J5 g,J5 h,J5 i,J5 j,J5 k,J5 l]/\p a b c d e f g h i j k l r
abbrev ct(a:ai)(b:Q8)(c:Array J0)(d:HP):HP:=aA λe=>AJ a P b c e λv f=>v=J1 #[]/\d f
abbrev qJ(c:ai)(d:Q8)(e:Array J0)(f:Ev->Bool->HP):HP:=aA λg=>AJ c P d e g λv h=>rM λa=>∃b:Bool,v=J1 #[a.v,J3 b]/\f a b h
abbrev uK(c:ai)(d:Q8)(e:Array J0)(f:Ev->Int->HP):HP:=aA λg=>AJ c P d e g λv h=>rM λa=>∃b:Int,v=J1 #[a.v,D b]/\f a b h
abbrev HY(c:ai)(d:Q8)(e:Array J0)(f:cJ->Int->HP):HP:=aA λg=>AJ c P d e g λv h=>AWv λa=>∃b:Int,v=J1 #[a.v,D b]/\f a b h
abbrev mM(c:ai)(d:Q8)(e:Array J0)(f:Int->Bool->HP):HP:=aA λg=>AJ c P d e g λv h=>∃a:Int,∃b:Bool,v=J1 #[D a,J3 b]/\f a b h
abbrev Zx(c:ai)(d:Q8)(e:Array J0)(f:Int->Int->HP):HP:=aA λg=>AJ c P d e g λv h=>∃a:Int,∃b:Int,v=J1 #[D a,D b]/\f a b h
abbrev AWs(d:ai)(e:Q8)(f:Array J0)(g:Int->Sl->Bool->HP):HP:=aA λh=>AJ d P e f h λv i=>∃b:Int,∃a:Sl,∃c:Bool,v=J1 #[D b,J4 a.p a.len a.cap,J3 c]/\g b a c i
abbrev qK(d:ai)(e:Q8)(f:Array J0)(g:Int->E->Int->HP):HP:=aA λh=>AJ d P e f h λv i=>∃a:Int,∃b:E,∃c:Int,v=J1 #[D a,J7 b,D c]/\g a b c i
abbrev mN(c:ai)(d:Q8)(e:Array J0)(f:Int->J0->HP):HP:=aA λg=>AJ c P d e g λv h=>∃a:Int,∃b:J0,v=J1 #[D a,b]/\f a b h
abbrev mO(c:ai)(d:Q8)(e:Array J0)(f:Sl->Bool->HP):HP:=aA λg=>AJ c P d e g λv h=>∃a:Sl,∃b:Bool,v=J1 #[J4 a.p a.len a.cap,J3 b]/\f a b h
abbrev AWq(d:ai)(e:Q8)(f:Array J0)(g:Sl->Bool->Bool->HP):HP:=aA λh=>AJ d P e f h λv i=>∃a:Sl,∃b:Bool,∃c:Bool,v=J1 #[J4 a.p a.len a.cap,J3 b,J3 c]/\g a b c i
abbrev Py(c:ai)(d:Q8)(e:Array J0)(f:Sl->Int->HP):HP:=aA λg=>AJ c P d e g λv h=>∃a:Sl,∃b:Int,v=J1 #[J4 a.p a.len a.cap,D b]/\f a b h
abbrev AS7(c:ai)(d:Q8)(e:Array J0)(f:dG->Int->HP):HP:=aA λg=>AJ c P d e g λv h=>AXI λa=>∃b:Int,v=J1 #[a.v,D b]/\f a b h
abbrev gX(c:ai)(d:Q8)(e:Array J0)(f:(Q2)->Int->HP):HP:=aA λg=>AJ c P d e g λv h=>∃a:Q2,∃b:Int,v=J1 #[J5 a,D b]/\f a b h
abbrev uL(d:ai)(e:Q8)(f:Array J0)(g:(Q2)->Sl->Int->HP):HP:=aA λh=>AJ d P e f h λv i=>∃b:Q2,∃a:Sl,∃c:Int,v=J1 #[J5 b,J4 a.p a.len a.cap,D c]/\g b a c i
abbrev mP(d:ai)(e:Q8)(f:Array J0)(g:(Q2)->(Q2)->Bool->HP):HP:=aA λh=>AJ d P e f h λv i=>∃a:Q2,∃b:Q2,∃c:Bool,v=J1 #[J5 a,J5 b,J3 c]/\g a b c i
abbrev qL(c:ai)(d:Q8)(e:Array J0)(f:E->Bool->HP):HP:=aA λg=>AJ c P d e g λv h=>∃a:E,∃b:Bool,v=J1 #[J7 a,J3 b]/\f a b h
abbrev Vg(d:ai)(e:Q8)(f:Array J0)(g:E->Bool->Int->HP):HP:=aA λh=>AJ d P e f h λv i=>∃a:E,∃b:Bool,∃c:Int,v=J1 #[J7 a,J3 b,D c]/\g a b c i
abbrev KX(c:ai)(d:Q8)(e:Array J0)(f:E->Int->HP):HP:=aA λg=>AJ c P d e g λv h=>∃a:E,∃b:Int,v=J1 #[J7 a,D b]/\f a b h
abbrev AKl(e:ai)(f:Q8)(g:Array J0)(h:E->bI->Bool->Int->HP):HP:=aA λi=>AJ e P f g i λv j=>∃a:E,Xp λb=>∃c:Bool,∃d:Int,v=J1 #[J7 a,b.v,J3 c,D d]/\h a b c d j
abbrev AZD(d:ai)(e:Q8)(f:Array J0)(g:E->E->Int->HP):HP:=aA λh=>AJ d P e f h λv i=>∃a:E,∃b:E,∃c:Int,v=J1 #[J7 a,J7 b,D c]/\g a b c i
abbrev oM(c:ai)(d:Q8)(e:Array J0)(f:bQ->Bool->HP):HP:=aA λg=>AJ c P d e g λv h=>py λa=>∃b:Bool,v=J1 #[a.v,J3 b]/\f a b h
abbrev qM(c:ai)(d:Q8)(e:Array J0)(f:bQ->Int->HP):HP:=aA λg=>AJ c P d e g λv h=>py λa=>∃b:Int,v=J1 #[a.v,D b]/\f a b h
abbrev VP(d:ai)(e:Q8)(f:Array J0)(g:bQ->Int->Int->HP):HP:=aA λh=>AJ d P e f h λv i=>py λa=>∃b:Int,∃c:Int,v=J1 #[a.v,D b,D c]/\g a b c i
abbrev oN(c:ai)(d:Q8)(e:Array J0)(f:bP->Bool->HP):HP:=aA λg=>AJ c P d e g λv h=>AXM λa=>∃b:Bool,v=J1 #[a.v,J3 b]/\f a b h
abbrev SX(d:ai)(e:Q8)(f:Array J0)(g:Sl->Int->Int->HP):HP:=aA λh=>AJ d P e f h λv i=>∃a:Sl,∃b:Int,∃c:Int,v=J1 #[.agg #[J4 a.p a.len a.cap,D b],D c]/\g a b c i
abbrev Dt(d:ai)(e:Q8)(f:Array J0)(g:Sl->Sl->bI->HP):HP:=aA λh=>AJ d P e f h λv i=>∃a:Sl,∃b:Sl,Xp λc=>v=J1 #[.agg #[J4 a.p a.len a.cap,J4 b.p b.len b.cap],c.v]/\g a b c i
abbrev uM(e:ai)(f:Q8)(g:Array J0)(h:E->E->Bool->Bool->HP):HP:=aA λi=>AJ e P f g i λv j=>∃a:E,∃b:E,∃c:Bool,∃d:Bool,v=J1 #[.agg #[J7 a,J7 b,J3 c],J3 d]/\h a b c d j
abbrev Tm(m:ai)(n:Q8)(o:Array J0)(p:E->E->Int->Int->Int->Int->E->Int->Int->E->Sl->Bool->HP):HP:=aA λq=>AJ m P n o q λv r=>∃b:E,∃c:E,∃d:Int,∃e:Int,∃f:Int,∃g:Int,∃h:E,∃i:Int,∃j:Int,∃k:E,∃a:Sl,∃l:Bool,v=J1 #[.agg #[J7 b,J7 c,D d,D e,D f,D g,J7 h,D i,D j,J7 k,J4 a.p a.len a.cap],J3 l]/\p b c d e f g h i j k a l r
abbrev Tp(c:ai)(d:Q8)(e:Array J0)(f:Int->Int->HP):HP:=aA λg=>AJ c P d e g λv h=>∃a:Int,∃b:Int,v=J1 #[.int .u32 a,.int .u32 b]/\f a b h
abbrev AR3(c:ai)(d:Q8)(e:Array J0)(f:Int->Int->HP):HP:=aA λg=>AJ c P d e g λv h=>∃a:Int,∃b:Int,v=J1 #[.int .u64 a,D b]/\f a b h
abbrev qN(d:ai)(e:Q8)(f:Array J0)(g:Int->E->Bool->HP):HP:=aA λh=>AJ d P e f h λv i=>∃a:Int,∃b:E,∃c:Bool,v=J1 #[.int .u64 a,J7 b,J3 c]/\g a b c i
abbrev AUK(c:ai)(d:Q8)(e:Array J0)(f:Int->J0->HP):HP:=aA λg=>AJ c P d e g λv h=>∃a:Int,∃b:J0,v=J1 #[.int .u64 a,b]/\f a b h
abbrev qO(b:ai)(c:Q8)(d:Array J0)(e:Int->HP):HP:=aA λf=>AJ b P c d f λv g=>∃a:Int,v=.int .u32 a/\e a g
abbrev jz(b:ai)(c:Q8)(d:Array J0)(e:Int->HP):HP:=aA λf=>AJ b P c d f λv g=>∃a:Int,v=.int .u64 a/\e a g
abbrev eB(b:ai)(c:Q8)(d:Array J0)(e:Bool->HP):HP:=aA λf=>uC b P c d f λv g=>∃a:Bool,v=J3 a/\e a g
abbrev lB(b:Q6)(c:Bool->HP):HP:=aA λa=>lr a b λx=>c x a
abbrev lI(b:Q6)(c:Int->HP):HP:=aA λa=>KP D a b λx=>c x a
abbrev AYl(b:Q6)(c:Int->HP):HP:=aA λa=>KP .u8 a b λx=>c x a
abbrev lL(b:Q6)(c:Sl->HP):HP:=aA λa=>JP a b λx=>c x a
abbrev lM(b:Q6)(c:(Option Nat)->HP):HP:=aA λa=>th a b λx=>c x a
abbrev lP(b:Q6)(c:(Q2)->HP):HP:=aA λa=>jZ a b λx=>c x a
abbrev lS(b:Q6)(c:E->HP):HP:=aA λa=>KJ a b λx=>c x a
abbrev lV(b:Q6)(c:J0->HP):HP:=aA λa=>pX a b λx=>c x a
abbrev AZR(b:Q6)(c:Ck->HP):HP:=aA λa=>AYv a b λx=>c x a
abbrev mQ(b:Q6)(c:eg->HP):HP:=aA λa=>AW6 a b λx=>c x a
abbrev Gw(b:Q6)(c:Ev->HP):HP:=aA λa=>pv a b λx=>c x a
abbrev Gp(b:Q6)(c:cJ->HP):HP:=aA λa=>rO a b λx=>c x a
abbrev jA(b:Q6)(c:Jb->HP):HP:=aA λa=>AZI a b λx=>c x a
abbrev jB(b:Q6)(c:dG->HP):HP:=aA λa=>rN a b λx=>c x a
abbrev Bl(b:Q6)(c:bI->HP):HP:=aA λa=>Oz a b λx=>c x a
abbrev Qc(b:Q6)(c:bq->HP):HP:=aA λa=>AWr a b λx=>c x a
abbrev Bo(b:Q6)(c:bQ->HP):HP:=aA λa=>PE a b λx=>c x a
abbrev ky(b:Q6)(c:bP->HP):HP:=aA λa=>AWz a b λx=>c x a
abbrev kA(b:Q6)(c:dH->HP):HP:=aA λa=>AXJ a b λx=>c x a
abbrev uN(c:ai)(d:J0)(e:String)(f:Array J0)(g:Sl->Int->HP):HP:=aA λh=>yi c P d e f h λv i=>∃a:Sl,∃b:Int,v=J1 #[J4 a.p a.len a.cap,D b]/\g a b i
abbrev rB(b:ai)(m:Sem J0)(c:Bool->HP):HP:=aA λd=>El b P m d λv e=>∃a:Bool,v=J3 a/\c a e
abbrev rI(b:ai)(m:Sem J0)(c:Int->HP):HP:=aA λd=>El b P m d λv e=>∃a:Int,v=D a/\c a e
abbrev rL(b:ai)(m:Sem J0)(c:Sl->HP):HP:=aA λd=>El b P m d λv e=>∃a:Sl,v=J4 a.p a.len a.cap/\c a e
abbrev rP(b:ai)(m:Sem J0)(c:(Q2)->HP):HP:=aA λd=>El b P m d λv e=>∃a:Q2,v=J5 a/\c a e
abbrev rS(b:ai)(m:Sem J0)(c:E->HP):HP:=aA λd=>El b P m d λv e=>∃a:E,v=J7 a/\c a e
abbrev AXB(c:ai)(m:Sem J0)(d:Int->Int->HP):HP:=aA λe=>El c P m e λv f=>∃a:Int,∃b:Int,v=.agg #[D a,D b]/\d a b f
abbrev rt(a:ai)(m:Sem J0)(b:HP):HP:=aA λc=>El a P m c λv d=>v=J1 #[]/\b d
abbrev qP(b:ai)(m:Sem J0)(c:Int->HP):HP:=aA λd=>El b P m d λv e=>∃a:Int,v=.int .u64 a/\c a e
abbrev vB(b:ai)(c:J0)(d:Array J0)(e:Bool->HP):HP:=aA λf=>JB b P c d f λv g=>∃a:Bool,v=J3 a/\e a g
abbrev aU:Lv:=.one (.int D)
abbrev aK:Lv:=.one .bool
abbrev eX:Lv:=.one .str
abbrev dS:Lv:=.one .sl
abbrev jC:Lv:=.one .ptr
instance:Coe Int J0:=⟨.int D⟩
instance:Coe Nat J0:=⟨λn=>D (n:Int)⟩
instance:Coe Bool J0:=⟨.bool⟩
instance:Coe E J0:=⟨.string⟩
instance:Coe (Q2) J0:=⟨.pointer⟩
instance:Coe Sl J0:=⟨λs=>J4 s.p s.len s.cap⟩
def Af(m:List (Nat×Live))(b:c3=semAt d P cy m b2 a e)(c:c3):AJ d P cy b2.toArray a e:=AMw mixed (b▸c)
end Go.Lf
