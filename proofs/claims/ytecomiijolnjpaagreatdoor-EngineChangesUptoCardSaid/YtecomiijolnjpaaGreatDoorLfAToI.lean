/-
 LIFT, part A: worlds as heaps beside a fixed rest; one operation's outcome at the level of values; a region that draws its order, walked in the text's order.
-/
import Derived.WalkKit
import Derived.OrdersIn
import Derived.RangeFuncIn
import Derived.RangeFuncLeaves
import Derived.RangeFuncCalls
import Derived.TacticsInMore
import Derived.RangeFuncRecord
set_option maxRecDepth 100000
set_option linter.unusedVariables false
set_option linter.unusedSimpArgs false
open Go.IntKind renaming i64→J9,wrap→J8
open Go.Value renaming string→J7,int→J6,pointer→J5,slice→J4,bool→J3,tuple→J1
open Go.Obj renaming cells→J2
open Go renaming Value→J0,Addr→Q6,TypeId→Q7,FuncId→Q8,Program→Q1
open Go.Addr renaming add→Q9,mk→Q5
namespace Go.Lf
abbrev Q2:=Option Q6
abbrev A2P:=ByteArray
abbrev A0:=@Nat.le_refl
abbrev A1:=@List.length_append
abbrev A2:=@List.getElem?_eq_getElem
abbrev A3:=@Bool.and_eq_true
abbrev A4:=@List.append_assoc
abbrev A5:=@List.length_cons
abbrev A6:=@Int.toNat_natCast
abbrev An:=@List.mem_cons_of_mem
abbrev As:=@Nat.mod_eq_of_lt
abbrev Ax:=@List.take_add_one
abbrev AD:=@Nat.zero_le
abbrev AE:=@List.length_take
abbrev AF:=@Nat.le_trans
abbrev AG:=@List.take_of_length_le
abbrev AH:=@List.flatMap_cons
abbrev AI:=@Nat.zero_add
abbrev AK:=@List.mem_of_getElem?
abbrev AM:=@List.append_nil
abbrev AN:=@List.mem_cons_self
abbrev AS:=@Nat.mul_le_mul_right
abbrev AT:=@List.map_map
abbrev AW:=@List.getElem_mem
abbrev B9:=@List.filter_cons
abbrev Bk:=@Nat.mul_one
abbrev Bm:=@List.getElem?_map
abbrev Bs:=@List.getElem?_drop
abbrev By:=@List.map_cons
abbrev BE:=@List.length_map
abbrev BT:=@Option.some.inj
abbrev BW:=@Nat.add_mul
abbrev BY:=@Option.some.injEq
abbrev C5:=@List.take_length
abbrev Cd:=@Nat.le_succ
abbrev Cl:=@Bool.false_eq_true
abbrev Cp:=@Bool.or_eq_true
abbrev CA:=@Bool.not_eq_true'
abbrev CC:=@List.eq_nil_of_length_eq_zero
abbrev CD:=@Array.getElem?_eq_getElem
abbrev CH:=@List.map_append
abbrev CI:=@List.all_eq_true
abbrev CM:=@List.map_congr_left
abbrev CN:=@List.length_singleton
abbrev CT:=@Nat.mod_lt
abbrev Dd:=@Nat.mul_comm
abbrev Ds:=@Iff.rfl
abbrev DA:=@List.nil_append
abbrev DB:=@List.getElem_of_mem
abbrev DE:=@List.getElem?_append_right
abbrev DG:=@List.length_drop
abbrev DH:=@Bool.eq_iff_iff
abbrev DM:=@Option.toList_some
abbrev DO:=@List.find?_cons
abbrev DP:=@List.take_append_drop
abbrev DQ:=@List.mem_of_mem_take
abbrev DS:=@Array.length_toList
abbrev E0:=@Array.getElem?_setIfInBounds_ne
abbrev Ek:=@Bool.true_and
abbrev F0:=@List.cons_append
abbrev Fc:=@Nat.pow_succ
abbrev Fk:=@List.getElem?_append_left
abbrev Fl:=@List.mem_append
abbrev Fm:=@Array.toList_setIfInBounds
abbrev Fo:=@List.getElem?_take
abbrev Ft:=@Bool.false_and
abbrev FF:=@List.drop_eq_getElem_cons
abbrev FG:=@List.length_nil
abbrev G0:=@Nat.lt_or_ge
abbrev G3:=@Nat.mul_assoc
abbrev G4:=@Function.comp_def
abbrev Ge:=@List.getElem?_of_mem
abbrev Gk:=@Nat.add_zero
abbrev GB:=@Nat.add_assoc
abbrev GC:=@List.flatMap_append
abbrev GF:=@Nat.lt_of_lt_of_le
abbrev GO:=@Nat.min_eq_left
abbrev GP:=@Array.getElem?_modify
abbrev GS:=@List.sum_cons
abbrev GW:=@Int.le_refl
abbrev Hb:=@Nat.pow_add
abbrev Hc:=@List.mem_cons
abbrev Hh:=@List.mem_range
abbrev Hi:=@List.filter_sublist
abbrev Hj:=@Option.bind_some
abbrev Hk:=@Bool.or_eq_false_iff
abbrev Hn:=@ByteArray.size_append
abbrev Hv:=@Array.toList_modify
abbrev HA:=@List.getElem?_cons_zero
abbrev HD:=@Nat.sub_zero
abbrev HE:=@List.drop_of_length_le
abbrev HG:=@Nat.two_pow_pos
abbrev HI:=@List.find?_eq_none
abbrev HJ:=@List.mem_append_left
abbrev HK:=@Bool.or_true
abbrev HL:=@List.set_append_right
abbrev HM:=@List.getElem?_set_self
abbrev HN:=@Option.map_some
abbrev HP:=@Nat.lt_succ_self
abbrev HQ:=@Nat.zero_mul
abbrev HS:=@List.drop_succ_cons
abbrev HT:=@List.drop_drop
abbrev HU:=@Nat.lt_trichotomy
abbrev HW:=@List.mem_of_mem_drop
abbrev HX:=@List.take_succ_cons
abbrev I0:=@List.foldl_append
abbrev I2:=@List.foldl_cons
abbrev I3:=@ByteArray.data_append
abbrev Is:=@List.cons.injEq
abbrev It:=@List.take_zero
abbrev Iv:=@Int.mul_assoc
abbrev Ix:=@Int.pow_add
abbrev ID:=@Nat.le_add_right
abbrev IF:=@List.filter_congr
abbrev IH:=@Array.mem_of_getElem?
abbrev IN:=@List.find?_some
abbrev IS:=@List.mem_of_find?_eq_some
abbrev IT:=@List.Perm.refl
abbrev Jx:=@Nat.eq_of_beq_eq_true
abbrev JT:=@Option.getD_some
abbrev Kd:=@List.mem_append_right
abbrev Kf:=@List.getElem?_take_of_lt
abbrev Kp:=@Nat.add_sub_cancel
abbrev Ks:=@List.getElem?_set_ne
abbrev Kx:=@Prod.mk.injEq
abbrev KB:=@Array.toList_append
abbrev Lk:=@List.append_cancel_left
abbrev Ln:=@Nat.or_lt_two_pow
abbrev Lo:=@List.map_id
abbrev Lq:=@List.take_append
abbrev Ly:=@Nat.shiftLeft_zero
abbrev Lz:=@Nat.xor_lt_two_pow
abbrev LI:=@Bool.and_false
abbrev LN:=@Nat.add_le_add_left
abbrev LO:=@List.map_flatMap
abbrev LR:=@Bool.not_true
abbrev LS:=@Array.mem_toList_iff
abbrev Mb:=@List.getElem_inj
abbrev Mn:=@Option.none_or
abbrev Mu:=@List.getElem?_eq_none
abbrev My:=@Nat.sub_self
abbrev Mz:=@Array.getElem?_toList
abbrev MA:=@Array.getElem?_append_left
abbrev MD:=@ByteArray.ext_iff
abbrev MT:=@List.takeWhile_cons
abbrev MY:=@List.getElem?_set
abbrev N2:=@List.getElem?_toArray
abbrev N3:=@List.toList_toArray
abbrev N4:=@Nat.lt_or_gt_of_ne
abbrev N5:=@List.drop_append_of_le_length
abbrev N6:=@List.foldl_nil
abbrev Nd:=@List.all_cons
abbrev No:=@List.mem_map_of_mem
abbrev Nx:=@List.range_succ
abbrev NO:=@List.flatten_append
abbrev NX:=@List.pairwise_map
abbrev Of:=@Nat.one_mul
abbrev On:=@List.drop_zero
abbrev OF:=@List.take_append_of_le_length
abbrev OK:=@Array.ext'
abbrev ON:=@Nat.shiftLeft_eq
abbrev OR:=@Nat.log2_lt
abbrev OS:=@Int.natAbs_natCast
abbrev P0:=@Nat.le_of_not_lt
abbrev P2:=@Nat.max_comm
abbrev P3:=@Nat.min_comm
abbrev P4:=@List.range_eq_range'
abbrev Pa:=@Bool.not_false
abbrev Pc:=@List.any_eq_true
abbrev Pl:=@Nat.min_eq_right
abbrev PA:=@List.filter_map
abbrev PB:=@List.set_getElem_self
abbrev PC:=@List.drop_length
abbrev PF:=@List.mapM_cons
abbrev PJ:=@List.getElem?_cons_succ
abbrev R0:=@Array.getElem?_push_lt
abbrev R1:=@Array.getElem?_push_size
abbrev R2:=@List.drop_append
abbrev Rg:=@Array.size_setIfInBounds
abbrev Rr:=@List.map_set
abbrev RC:=@List.length_set
abbrev RE:=@List.findSome?_cons
abbrev RK:=@List.findSome?_eq_none_iff
abbrev RM:=@Nat.pow_le_pow_right
abbrev RR:=@List.pairwise_cons
abbrev RT:=@Nat.lt_of_le_of_lt
abbrev RW:=@Nat.div_le_self
abbrev Se:=@List.length_filter_le
abbrev Sf:=@Array.toList_push
abbrev Sh:=@List.map_nil
abbrev Sp:=@List.mem_singleton
abbrev Ss:=@List.take_take
abbrev SD:=@Nat.le_log2
abbrev SJ:=@Nat.mul_lt_mul_of_pos_right
abbrev SM:=@List.reverse_cons
abbrev SO:=@Nat.pow_pos
abbrev SP:=@ByteArray.ext
abbrev SR:=@ByteArray.data_extract
abbrev SU:=@Array.toList_extract
abbrev SW:=@Bool.eq_false_iff
abbrev SZ:=@Bool.false_or
abbrev T4:=@List.nodup_iff_pairwise_ne
abbrev T6:=@List.getLast?_concat
abbrev Tl:=@List.mem_of_getLast?
abbrev To:=@List.filter_filter
abbrev TX:=@List.exists_mem_of_ne_nil
abbrev V0:=@Nat.add_sub_cancel_left
abbrev Vc:=@List.length_eq_zero_iff
abbrev Wa:=@List.append_eq_nil_iff
abbrev Wb:=@List.mem_or_eq_of_mem_set
abbrev Wf:=@Nat.div_div_eq_div_mul
abbrev Wg:=@Int.fdiv_eq_ediv_of_nonneg
abbrev Wk:=@List.setIfInBounds_toArray
abbrev WD:=@Array.mapM_eq_mapM_toList
abbrev Xs:=@Nat.le_of_ble_eq_true
abbrev XS:=@List.filterMap_cons
abbrev A00:=@List.takeWhile_sublist
abbrev A04:=@List.drop_eq_nil_of_le
abbrev A09:=@List.set_eq_take_append_cons_drop
abbrev A0d:=@Bool.and_eq_false_iff
abbrev A0e:=@List.getElem?_concat_length
abbrev A0f:=@List.pairwise_singleton
abbrev A0h:=@List.exists_of_findSome?_eq_some
abbrev A0i:=@Option.map_eq_some_iff
abbrev A0k:=@List.mem_of_mem_erase
abbrev A0l:=@List.length_erase_of_mem
abbrev A0n:=@List.cons_lt_cons_iff
abbrev A0q:=@Array.toList_eraseIdx
abbrev A0B:=@List.length_eraseIdx_le
abbrev A0O:=@Nat.two_pow_add_eq_or_of_lt
abbrev A0S:=@List.length_mergeSort
abbrev A0T:=@ByteArray.size_extract
abbrev A0Y:=@List.getElem?_singleton
structure al where
 tape:Nat->Question->Nat
 os:Os
 output:Array (Nat×A2P)
abbrev aa:=Array Obj
abbrev A2O:=J0->aa->Prop
def al.at(A:al)(a:aa)(b:Nat):World:= {heap:=a,tape:=A.tape,drawn:=b,os:=A.os,output:=A.output}
abbrev Fw(r:Option Nat):Fence:= {fn:=λ_=>True,depth:=none,alive:=false,round:=r}
theorem rZ(r:Option Nat)(a:Nat):(Fw r).room a:=λ_ b=>by simp at b
theorem Vu {r:Option Nat}{c:Nat}{P:Q1}{f:Q8}{args:Array J0}{a:World}{b:Ending->World->Prop}:
  CallsIn (Fw r) c P f args a b↔Calls P f args a b:=callsIn_wide
def lb(P:Q1)(l:Nat)(f:Q8)(tmps:Array J0)(assign body:Code)(a:World)(b:J0->World->Prop):Prop:=
 RoundIn (Fw none) 0 P l f tmps assign body a (λc d=> ∃v,c= .returned v/\b v d)
theorem lb.mono {P:Q1}{l:Nat}{f:Q8}{tmps:Array J0}{assign body:Code}{a:World}{b c:J0->World->Prop}
  (e:lb P l f tmps assign body a b) (g: ∀v d,b v d->c v d):lb P l f tmps assign body a c:=
 RoundIn.mono e λ_ _ ⟨v,h,i⟩=>⟨v,h,g _ _ i⟩
theorem zI {r:Option Nat}{d:Nat}{P:Q1}{l:Nat}{f:Q8}{tmps:Array J0}{assign body:Code}{a:World}{b:Ending->World->Prop}
  (e:RoundIn (Fw none) 0 P l f tmps assign body a b):RoundIn (Fw r) d P l f tmps assign body a b:=
 ⟨trivial,λc g _=>e.2 c g (rZ none _)⟩
def Next.out(P:Q1)(K:J0->World->Prop):Result Next->Prop
 | .ok (.value v) a=>K v a
 | .ok .skip a=>K undef a
 | .ok (.enter f args) a=>Calls P f args a (λb c=> ∃v,b= .returned v/\K v c)
 | .ok (.round l f tmps assign body) a=>lb P l f tmps assign body a K
 |_=>False
def EV(P:Q1)(a:Oper)(b:Operand->J0)(c:World)(K:J0->World->Prop):Prop:=Next.out P K ((execOp b a).run P c)
theorem Next.cA {P:Q1}{K d:J0->World->Prop}(c: ∀v b,K v b->d v b){x:Result Next}(a:Next.out P K x):Next.out P d x:=by
 cases x with
 |ok e b=>
  cases e<;>simp only[Next.out] at a ⊢ <;>
   first
    |exact c _ _ a
    |exact Calls.mono a λ_ _ ⟨v,f,g⟩=>⟨v,f,c _ _ g⟩
    |exact lb.mono a c
 |halt x b=>simp only[Next.out] at a
theorem EV.mono {P:Q1}{b:Oper}{c:Operand->J0}{a:World}{K d:J0->World->Prop}(e:EV P b c a K)(f: ∀v a,K v a->d v a):EV P b c a d:=Next.cA f e
theorem Calls.some {P:Q1}{f:Q8}{args:Array J0}{d:World}{c:Ending->World->Prop}(e:Calls P f args d c): ∃a b,c a b:=
 let ⟨a,b,_,r,_⟩:=e [];⟨a,b,r⟩
theorem EV.some {P:Q1}{e:Oper}{g:Operand->J0}{h:World}{K:J0->World->Prop}(a:EV P e g h K): ∃v b,K v b:=by
 unfold EV at a;cases i:(execOp g e).run P h with
 |ok j b=>
  rw[i] at a;cases j<;>simp only[Next.out] at a
  case value v=>exact⟨_,_,a⟩
  case skip=>exact⟨_,_,a⟩
  case enter f args=>obtain⟨k,c,v,_,d⟩:=Calls.some a;exact⟨v,c,d⟩
  case round l f tmps assign body=>
   obtain⟨k,c,⟨v,_,d⟩,_⟩:=a.2 default [] (rZ none _);exact⟨v,c,d⟩
 |halt j b=>rw[i] at a;simp only[Next.out] at a
def IG(a:Oper):Bool:=match a.op with| .defer _=>false| .select .. =>false|_=>true
theorem EV.wpIn {r:Option Nat}{m:Nat}{P:Q1}{b:Oper}{a:Act}{e:World}{K:Act->World->Prop}{Q:Exit->Act->World->Prop}
  (hd:IG b=true) (d:EV P b a.eval e λv g=>K (a.put b.dst v) g):b.wpIn (Fw r) m P a e K Q:=by
 refine⟨λ_ _=>trivial,?_⟩;have k:Oper.semAt r a.eval b=execOp a.eval b:=Oper.semAt_eq r a.eval b (λc n=>by simp[IG,n] at hd);show b.uponIn (Fw r) m P a K Q ((Oper.semAt r a.eval b).run P e);rw[k];unfold EV at d;generalize (execOp a.eval b).run P e=x at d;cases x with
 |ok j g=>
  cases j<;>simp only[Next.out] at d<;>simp only[Oper.uponIn]
  case value v=>exact d
  case skip=>exact d
  case enter f args=>
   refine⟨λh=>by simp at h,Vu.2 (Calls.mono d ?_)⟩;rintro o p ⟨v,rfl,i⟩;exact i
  case round l f tmps assign body=>
   refine⟨λh=>by simp at h,zI (RoundIn.mono d ?_)⟩;rintro o p ⟨v,rfl,i⟩;exact i
 |halt j g=>simp only[Next.out] at d
section
variable {P : Q1} {A : al} {r : Option Nat} {ops : Array Oper}
def dN(P:Q1)(A:al)(c:Oper)(d:Operand->J0)(v:J0)(a:aa):Prop:= ∀b,(execOp d c).run P (A.at a b)= .ok (.value v) (A.at a b)
def un(ord:Nat->Nat->Bool)(i a:Nat):Bool:= !(ord (max i a) (min i a))
def FA(P:Q1)(A:al)(ops:Array Oper)(qb:Oper->Bool)(ord:Nat->Nat->Bool)(Q:Act->aa->Prop):
  List Nat->Act->aa->List (Nat×(aa->Prop))->List (Nat×aa)->Prop
 | [],a,c,_,_=>Q a c
 |i::rest,a,c,d,e=>
  match ops[i]? with
  |none=>False
  |some b=>
   if Region.wanted b (yielded ops a.tmps)=true then
    if qb b=true then
     ∃v,dN P A b a.eval v c/\(∀ p∈e,un ord i p.1=true->dN P A b a.eval v p.2)/\FA P A ops qb ord Q rest (a.put b.dst v) c ((i,dN P A b a.eval v)::d) e
    else
     ∀g,EV P b a.eval (A.at c g) λv h=> ∃f j,h=A.at f j/\(∀ p∈d,un ord i p.1=true->p.2 f)/\FA P A ops qb ord Q rest (a.put b.dst v) f d ((i,c)::e)
   else FA P A ops qb ord Q rest (a.put b.dst undef) c d e
variable {qb : Oper -> Bool} {ord : Nat -> Nat -> Bool} {Q : Act -> aa -> Prop}
theorem FA.sub: ∀ {l:List Nat} {a:Act} {d:aa} {g h:List (Nat×(aa->Prop))} {j k:List (Nat×aa)},FA P A ops qb ord Q l a d g j->
  (∀ p∈h,p∈g)->(∀ p∈k,p∈j)->FA P A ops qb ord Q l a d h k:=by
 intro l
 induction l with
 |nil=>intro a d _ _ _ _ b _ _;exact b
 |cons i rest m=>
  intro a d g h j k b e f;unfold FA at b ⊢;cases t:ops[i]? with
  |none=>rw[t] at b;exact b
  |some B=>
   rw[t] at b;simp only at b ⊢;split
   ·rename_i n;rw[if_pos n] at b;split
    ·rename_i o;rw[if_pos o] at b;obtain⟨v,u,q,s⟩:=b;refine⟨v,u,λp c=>q p (f p c),m s (λp c=>?_) f⟩;rcases List.mem_cons.1 c with rfl|c
     ·exact AN
     ·exact An _ (e p c)
    ·rename_i o;rw[if_neg o] at b;intro w;refine(b w).mono ?_;rintro v C ⟨x,y,z,q,s⟩;refine⟨x,y,z,λp c=>q p (e p c),m s e (λp c=>?_)⟩;rcases List.mem_cons.1 c with rfl|c
     ·exact AN
     ·exact An _ (f p c)
   ·rename_i n;rw[if_neg n] at b;exact m b e f
def FE(a:Oper):Prop:= ∀c b,a.op≠ .select c b
theorem FA.swap {i m:Nat}{c d:Oper}(F:ops[i]? =some c)(q:ops[m]? =some d)(X:c.apart ops d=true)(Y:FE c)(Z:FE d)
  (K:un ord i m=true) (ab:qb c=true\/qb d=true) {l:List Nat} {a:Act} {e:aa} {H:List (Nat×(aa->Prop))} {I:List (Nat×aa)}
  (b:FA P A ops qb ord Q (m::i::l) a e H I):FA P A ops qb ord Q (i::m::l) a e H I:=by
 obtain⟨U,ac,V⟩:=Oper.apart_spec X;have ai:un ord m i=true:=by unfold un at *;rwa [P2,P3]
 have L: ∀u,execOp (a.put d.dst u).eval c=execOp a.eval c:=λu=>execOp_put c Y a d.dst u V
 have M: ∀u,execOp (a.put c.dst u).eval d=execOp a.eval d:=λu=>execOp_put d Z a c.dst u U
 have J: ∀u,Region.wanted c (yielded ops (a.put d.dst u).tmps)=Region.wanted c (yielded ops a.tmps):=λu=>wanted_put c a d.dst u V
 have w: ∀u,Region.wanted d (yielded ops (a.put c.dst u).tmps)=Region.wanted d (yielded ops a.tmps):=λu=>wanted_put d a c.dst u U
 have N: ∀u,dN P A c (a.put d.dst u).eval=dN P A c a.eval:=λu=>by funext v e;unfold dN;rw[L]
 have O: ∀u,dN P A d (a.put c.dst u).eval=dN P A d a.eval:=λu=>by funext v e;unfold dN;rw[M]
 have x: ∀v u,(a.put c.dst v).put d.dst u=(a.put d.dst u).put c.dst v:=λv u=>Act.put_comm a v u ac
 unfold FA at b ⊢;rw[q] at b;rw[F];simp only at b ⊢;by_cases n:Region.wanted d (yielded ops a.tmps)=true
 ·rw[if_pos n] at b;by_cases y:qb d=true
  ·rw[if_pos y] at b;obtain⟨R,S,T,b⟩:=b;unfold FA at b;rw[F] at b;simp only[J,N] at b;by_cases o:Region.wanted c (yielded ops a.tmps)=true
   ·rw[if_pos o] at b ⊢;by_cases z:qb c=true
    ·rw[if_pos z] at b ⊢;obtain⟨h,B,C,b⟩:=b;refine⟨h,B,C,?_⟩;unfold FA;rw[q];simp only[w,O];rw[if_pos n,if_pos y];refine⟨R,S,T,?_⟩;rw[x];exact b.sub (λp f=>by simp only[Hc] at f ⊢;rcases f with e|e|e<;>simp[e]) (λ_ e=>e)
    ·rw[if_neg z] at b ⊢;intro j;have:=b j;unfold EV at this;rw[L] at this;refine EV.mono this ?_;rintro h D ⟨g,k,s,f,b⟩;refine⟨g,k,s,λp t=>f p (An _ t),?_⟩;unfold FA;rw[q];simp only[w,O];rw[if_pos n,if_pos y];refine⟨R,f _ AN K,?_,?_⟩
     ·intro p t G;rcases List.mem_cons.1 t with rfl|t
      ·exact S
      ·exact T p t G
     ·rw[x];exact b
   ·rw[if_neg o] at b ⊢;unfold FA;rw[q];simp only[w,O];rw[if_pos n,if_pos y];exact⟨R,S,T,by rw[x];exact b⟩
  ·rw[if_neg y] at b;have z:qb c=true:=ab.resolve_right y;by_cases o:Region.wanted c (yielded ops a.tmps)=true
   ·rw[if_pos o,if_pos z];have key: ∀j,EV P d a.eval (A.at e j) λv D=> ∃g k,D=A.at g k/\(∀ p∈H,un ord m p.1=true->p.2 g)/\
      ∃h,dN P A c a.eval h g/\(∀ p∈(m,e)::I,un ord i p.1=true->dN P A c a.eval h p.2)/\
       FA P A ops qb ord Q l ((a.put d.dst v).put c.dst h) g ((i,dN P A c a.eval h)::H) ((m,e)::I):=by
     intro j;refine(b j).mono ?_;rintro v D ⟨g,k,s,f,b⟩;unfold FA at b;rw[F] at b;simp only[J,N] at b;rw[if_pos o,if_pos z] at b;exact⟨g,k,s,f,b⟩
    obtain⟨aj,ak,al,am,_,_,h,_,C,_⟩:=(key 0).some;have B:dN P A c a.eval h e:=C (m,e) AN K;refine⟨h,B,λp f G=>C p (An _ f) G,?_⟩;unfold FA;rw[q];simp only[w];rw[if_pos n,if_neg y];intro j;have:=key j;unfold EV at this ⊢;rw[M];refine Next.cA ?_ this;rintro v D ⟨g,k,s,f,W,ad,ae,b⟩;have af:dN P A c a.eval W e:=ae (m,e) AN K;have ag:W=h:=by have ah:=B 0;have E:=af 0;rw[ah] at E;injection E with E _;injection E with E;exact E.symm
    subst ag;refine⟨g,k,s,?_,?_⟩
    ·intro p t G;rcases List.mem_cons.1 t with rfl|t
     ·exact ad
     ·exact f p t G
    ·rw[x];exact b
   ·rw[if_neg o];unfold FA;rw[q];simp only[w];rw[if_pos n,if_neg y];intro j;have:=b j;unfold EV at this ⊢;rw[M];refine Next.cA ?_ this;rintro v D ⟨g,k,s,f,b⟩;unfold FA at b;rw[F] at b;simp only[J] at b;rw[if_neg o] at b;exact⟨g,k,s,f,by rw[x];exact b⟩
 ·rw[if_neg n] at b;unfold FA at b;rw[F] at b;simp only[J,N] at b;by_cases o:Region.wanted c (yielded ops a.tmps)=true
  ·rw[if_pos o] at b ⊢;by_cases z:qb c=true
   ·rw[if_pos z] at b ⊢;obtain⟨h,B,C,b⟩:=b;refine⟨h,B,C,?_⟩;unfold FA;rw[q];simp only[w];rw[if_neg n,x];exact b
   ·rw[if_neg z] at b ⊢;intro j;have:=b j;unfold EV at this ⊢;rw[L] at this;refine Next.cA ?_ this;rintro v D ⟨g,k,s,f,b⟩;refine⟨g,k,s,f,?_⟩;unfold FA;rw[q];simp only[w];rw[if_neg n,x];exact b
  ·rw[if_neg o] at b ⊢;unfold FA;rw[q];simp only[w];rw[if_neg n,x];exact b
theorem FA.fQ {i:Nat}{l m:List Nat}(f: ∀a c d e,FA P A ops qb ord Q l a c d e->FA P A ops qb ord Q m a c d e){a:Act}{c:aa}
  {d:List (Nat×(aa->Prop))} {e:List (Nat×aa)} (b:FA P A ops qb ord Q (i::l) a c d e):FA P A ops qb ord Q (i::m) a c d e:=by
 unfold FA at b ⊢;cases n:ops[i]? with
 |none=>rw[n] at b;exact b
 |some u=>
  rw[n] at b;simp only at b ⊢;split
  ·rename_i g;rw[if_pos g] at b;split
   ·rename_i h;rw[if_pos h] at b;obtain⟨v,o,j,k⟩:=b;exact⟨v,o,j,f _ _ _ _ k⟩
   ·rename_i h;rw[if_neg h] at b;intro p;refine(b p).mono ?_;rintro v w ⟨q,s,t,j,k⟩;exact⟨q,s,t,j,f _ _ _ _ k⟩
  ·rename_i g;rw[if_neg g] at b;exact f _ _ _ _ b
theorem FA.front {i:Nat}{h:List Nat}: ∀(b:List Nat),
  (∀ j∈b,∃f g,ops[i]? =some f/\ops[j]? =some g/\f.apart ops g=true/\FE f/\FE g/\un ord i j=true/\(qb f=true\/qb g=true))->
  ∀(a:Act) (c:aa) (d:List (Nat×(aa->Prop))) (e:List (Nat×aa)),FA P A ops qb ord Q (b++i::h) a c d e->
   FA P A ops qb ord Q (i::(b++h)) a c d e
 | [],_,_,_,_,_,k=>k
 |j::b,l,a,c,d,e,k=>by
  obtain⟨f,g,m,n,o,p,q,s,t⟩:=l j AN;have u:FA P A ops qb ord Q (j::i::(b++h)) a c d e:=
   FA.fQ (λa c d e=>FA.front b (λv w=>l v (An _ w)) a c d e) k
  exact FA.swap m n o p q s t u
def jZ(ops:Array Oper):Nat->Nat->Bool:=
 let b:=Region.before ops
 λi a=>(b.getD i 0).testBit a
def lh(ops:Array Oper)(qb:Oper->Bool)(ord:Nat->Nat->Bool):Bool:=
 (ops.toList.all λe=>IG e)&&
 (List.range ops.size).all λi=>
  match ops[i]? with
  |none=>false
  |some c=>
   (c.after.toList.all λa=> !Region.binds .any a||decide (a.on<i))&&
   (List.range i).all λb=>
    match ops[b]? with
    |none=>false
    |some d=>
     if ord i b then c.after.toList.any λa=>Region.binds .any a&&(a.on==b||(decide (b<a.on)&&ord a.on b))
     else c.apart ops d&&(qb c||qb d)
def rem(a:Nat)(listed:Array Bool):List Nat:=(List.range a).filter λi=> !listed.getD i true
end
section
variable {P : Q1} {A : al} {r : Option Nat} {ops : Array Oper} {qb : Oper -> Bool} {ord : Nat -> Nat -> Bool}
def left(a:Nat)(listed:Array Bool):List Nat:=(List.range a).filter λi=> !listed.getD i false
theorem mem_left {a:Nat}{listed:Array Bool}{i:Nat}:i∈left a listed↔i<a/\listed.getD i false=false:=by simp[left]
theorem range_split {n i:Nat}(c:i<n):List.range n=List.range i++i::(List.range' (i+1) (n-i-1)):=by
 rw[P4,P4];have a:List.range' 0 n=List.range' 0 i++List.range' i (n-i):=by have:=List.range'_append_1 (s:=0) (m:=i) (n:=n-i);rw[AI] at this;rw[this];congr 1;omega
 rw[a];congr 1;have b:n-i=(n-i-1)+1:=by omega
 rw[b,List.range'_succ];simp
theorem sd {c i:Nat}{listed:Array Bool}(e:i<c)(j:listed.size=c)(g:listed.getD i false=false):
  ∃d f,left c listed=d++i::f/\left c (listed.setIfInBounds i true)=d++f/\ ∀a∈d,a<i/\listed.getD a false=false:=by
 refine⟨(List.range i).filter λa=> !listed.getD a false,(List.range' (i+1) (c-i-1)).filter λa=> !listed.getD a false,?_,?_,?_⟩
 ·unfold left;rw[range_split e,List.filter_append,B9];simp only[g,Pa,if_true]
 ·unfold left;have h:(listed.setIfInBounds i true).getD i false=true:=by
   have:i<listed.size:=by omega
   simp[this]
  rw[range_split e,List.filter_append,B9];simp only[h,LR,Cl,if_false];congr 1
  ·refine IF λa b=>?_
   have:=List.mem_range.1 b;rw[getD_set_ne false (by omega)]
  ·refine IF λa b=>?_
   have:=(List.mem_range'_1.1 b).1;rw[getD_set_ne false (by omega)]
 ·intro a b;simp only[List.mem_filter,Hh,CA] at b;exact b
def eG(ord:Nat->Nat->Bool)(listed:Array Bool):Prop:= ∀a b,listed.getD a false=true->b<a->ord a b=true->listed.getD b false=true
theorem zJ(g:lh ops qb ord=true):(∀ (i:Nat) (c:Oper),ops[i]? =some c->IG c=true)/\
  (∀ (i:Nat) (c:Oper),ops[i]? =some c-> ∀a∈c.after,Region.binds .any a=true->a.on<i)/\
  (∀ (i b:Nat) (e f:Oper),ops[i]? =some e->ops[b]? =some f->b<i->
   (ord i b=true/\ ∃a∈e.after,Region.binds .any a=true/\(a.on=b\/(b<a.on/\ord a.on b=true)))\/(ord i b=false/\e.apart ops f=true/\(qb e=true\/qb f=true))):=by
 unfold lh at g;simp only[A3,CI,Hh] at g;obtain⟨n,l⟩:=g;refine⟨λi c d=>n c (by rw[LS];exact IH d),λi c d a h j=>?_,λi b e f m o p=>?_⟩
 ·have k:i<ops.size:=(Array.getElem?_eq_some_iff.1 d).1;have:=l i k;rw[d] at this;simp only[A3,CI,Cp,CA,decide_eq_true_eq] at this;exact(this.1 a (by simpa using h)).resolve_left (by simp[j])
 ·have k:i<ops.size:=(Array.getElem?_eq_some_iff.1 m).1;have:=l i k;rw[m] at this;simp only[A3,CI,Hh] at this;have:=this.2 b p;rw[o] at this;simp only at this;cases d:ord i b with
  |true=>
   rw[d] at this;simp only[if_true,Pc,A3,Cp,beq_iff_eq,decide_eq_true_eq] at this;obtain⟨a,h,j,q⟩:=this;exact .inl ⟨rfl,a,by simpa using h,j,q⟩
  |false=>
   rw[d] at this;simp only[Cl,if_false,A3,Cp] at this;exact .inr ⟨rfl,this.1,this.2⟩
theorem Ub {listed:Array Bool}{i:Nat}(a:i<listed.size):listed.getD i true=listed.getD i false:=by simp[a]
theorem NP {a:Oper}(c:IG a=true):FE a:=λe b d=>by simp[IG,d] at c
theorem FA.any {m:Nat}{Q:Act->aa->Prop}{L:Exit->Act->World->Prop}(ab: ∀a h f,Q a h->L .normal a (A.at h f))(ac:lh ops qb ord=true):
  ∀(fuel:Nat) (listed:Array Bool) (a:Act) (h:aa) (aA:List (Nat×(aa->Prop))) (bj:List (Nat×aa)),(left ops.size listed).length=fuel->listed.size=ops.size->
   eG ord listed->FA P A ops qb ord Q (left ops.size listed) a h aA bj-> ∀f,wpAnyIn (Fw r) m P .any ops L fuel listed a (A.at h f):=by
 obtain⟨z,ad,M⟩:=zJ ac;intro fuel
 induction fuel with
 |zero=>
  intro listed a h aA bj n B _ s f;have o:left ops.size listed= []:=CC n;refine⟨?_,?_⟩
  ·rcases C:Region.ready .any ops listed with _|⟨i,t⟩
   ·rfl
   ·exfalso;have j:i∈Region.ready .any ops listed:=by rw[C];exact AN
    obtain⟨u,ar,d,_⟩:=mem_ready.1 j;have w:i<ops.size:=(Array.getElem?_eq_some_iff.1 d).1;have:i∈left ops.size listed:=mem_left.2 ⟨w,by rw[<- Ub (by omega)];exact u⟩;rw[o] at this;cases this
  ·rw[o] at s;exact ab _ _ _ s
 |succ fuel D=>
  intro listed a h aA bj n B N s f;refine⟨λC=>?_,λi j=>?_⟩
  ·exfalso;have ae: ∀k i,i<k->i∈left ops.size listed->False:=by
    intro k
    induction k with
    |zero=>intro i j;omega
    |succ k af=>
     intro i _ j;obtain⟨w,u⟩:=mem_left.1 j;have d:ops[i]? =some ops[i]:=CD w;by_cases x: ∀e∈ops[i].after,Region.binds .any e=true->listed.getD e.on false=true
     ·have:i∈Region.ready .any ops listed:=mem_ready.2 ⟨by rw[Ub (by omega)];exact u,_,d,x⟩;rw[C] at this;cases this
     ·simp only[Classical.not_forall] at x;obtain⟨e,o,E,F⟩:=x;have au:=ad i _ d e o E;exact af e.on (by omega) (mem_left.2 ⟨by omega,by simpa using F⟩)
   have F:left ops.size listed≠ []:=by intro e;rw[e] at n;simp at n
   obtain⟨i,j⟩:=TX _ F;exact ae (i+1) i (by omega) j
  ·obtain⟨u,l,g,x⟩:=mem_ready.1 j;have w:i<ops.size:=(Array.getElem?_eq_some_iff.1 g).1;have ag:listed.getD i false=false:=by rw[<- Ub (by omega)];exact u
   obtain⟨ah,av,O,R,ai⟩:=sd w B ag;rw[O] at s;have S: ∀b,b<i->listed.getD b false=false->ord i b=false:=by
    intro b G p;have y:ops[b]? =some ops[b]:=CD (by omega);rcases M i b l _ g y G with⟨_,e,o,E,q⟩|⟨q,_⟩
    ·exfalso;have T:=x e o E;rcases q with rfl|⟨aj,ak⟩
     ·rw[T] at p;cases p
     ·have:=N e.on b T aj ak;rw[this] at p;cases p
    ·exact q
   have c:=FA.front (Q:=Q) (qb:=qb) (ord:=ord) (P:=P) (A:=A) (ops:=ops) ah (λb G=>by
    obtain⟨U,al⟩:=ai b G;have y:ops[b]? =some ops[b]:=CD (by omega);have d:=S b U al;rcases M i b l _ g y U with⟨q,_⟩|⟨_,am,an⟩
    ·rw[d] at q;cases q
    ·refine⟨l,_,g,y,am,NP (z i l g),NP (z b _ y),?_,an⟩;unfold un;rw[Nat.max_eq_left (by omega),Pl (by omega),d];rfl) a h aA bj s
   have H:eG ord (listed.setIfInBounds i true):=by
    intro k b V W d;by_cases X:b=i
    ·subst X;have:b<listed.size:=by omega
     simp[this]
    ·rw[getD_set_ne false (Ne.symm X)];by_cases Y:k=i
     ·subst Y;cases p:listed.getD b false with
      |true=>rfl
      |false=>rw[S b W p] at d;cases d
     ·rw[getD_set_ne false (Ne.symm Y)] at V;exact N k b V W d
   have I:(left ops.size (listed.setIfInBounds i true)).length=fuel:=by rw[R];rw[O] at n;simp only[A1,A5] at n ⊢;omega
   have J:(listed.setIfInBounds i true).size=ops.size:=by simp[B]
   rw[<- R] at c;unfold FA at c;rw[g] at c;unfold wpOpIn;simp only[g];split
   ·rename_i K;simp only[K,if_true] at c;by_cases Z:qb l=true
    ·rw[if_pos Z] at c;obtain⟨v,ao,_,c⟩:=c;refine EV.wpIn (z i l g) ?_;unfold EV;rw[ao f];exact D _ _ _ _ _ I J H c f
    ·rw[if_neg Z] at c;refine EV.wpIn (z i l g) ((c f).mono ?_);rintro v aw ⟨ax,ap,rfl,_,aq⟩;exact D _ _ _ _ _ I J H aq ap
   ·rename_i K;simp only at c;rw[if_neg K] at c;exact⟨λ_ _=>trivial,D _ _ _ _ _ I J H c f⟩
theorem se(a:Nat):left a (Array.replicate a false)=List.range a:=by unfold left;rw[List.filter_eq_self];intro i _;by_cases b:i<a<;>simp[b]
theorem Xw {id m:Nat}{Q:Act->aa->Prop}{d:Exit->Act->World->Prop}(f: ∀a b c,Q a b->d .normal a (A.at b c))(g:P.follows .mixedOrders=true)
  (h:lh ops qb ord=true) {a:Act} {b:aa} {c:Nat} (i:FA P A ops qb ord Q (List.range ops.size) a b [] []):(Code.region id ops true).wpIn (Fw r) m P d a (A.at b c):=by
 refine wpIn_region_any g ?_;have e:=se ops.size;refine FA.any (Q:=Q) (ord:=ord) (qb:=qb) (aA:= []) (bj:= []) f h _ _ _ b (by rw[e];simp) (by simp) ?_ (by rw[e];exact i) (c+1);intro j l k;exfalso;by_cases b:j<ops.size<;>simp[b] at k
end
def ag(b:aa)(a:Q6):Option J0:=
 match b[a.block]? with
 |some (.cells c _ _)=>if a.spot.isSome then none else c[a.off]?
 |_=>none
def fW(b:aa)(a:Q6):Bool:=
 match b[a.block]? with
 |some (.cells _ _ (c,d))=>c<=a.off&&a.off<d
 |_=>false
def dc(b:aa)(a:Q6)(v:J0):aa:=
 b.modify a.block λ
  | .cells c d frozen=> .cells (if a.spot.isSome then c else c.setIfInBounds a.off v) d frozen
  |o=>o
theorem zR(c:al)(b:aa)(d:Nat)(a:Q6):(c.at b d).cell? a=ag b a:=rfl
theorem fx(b:al)(c:aa)(d:Nat)(a:Q6)(v:J0):(b.at c d).setCell a v=b.at (dc c a v) d:=rfl
def At(p:Q2)(K:Q6->Prop):Prop:=match p with|some a=>K a|none=>False
def ae(b:Bool)(a c:Prop):Prop:=match b with|true=>a|false=>c
def ak(a:aa)(b:Obj)(K:Nat->aa->Prop):Prop:=K a.size (a.push b)
def Rj(b:aa)(a:Q6)(K:J0->Prop):Prop:= ∃v,ag b a=some v/\K v
def AC(c:IntKind)(d:aa)(a:Q6)(K:Int->Prop):Prop:= ∃b,ag d a=some (.int c b)/\K b
def Aa(c:aa)(a:Q6)(K:Bool->Prop):Prop:= ∃b,ag c a=some (.bool b)/\K b
def AJ(b:aa)(a:Q6)(K:A2P->Prop):Prop:= ∃s,ag b a=some (.string s)/\K s
def AZ(b:aa)(a:Q6)(K:Q2->Prop):Prop:= ∃p,ag b a=some (.pointer p)/\K p
structure Sl where
 p:Q2
 len:Nat
 cap:Nat
def Sl.v(s:Sl):J0:= .slice s.p s.len s.cap
def AY(b:aa)(a:Q6)(K:Sl->Prop):Prop:= ∃s:Sl,ag b a=some (.slice s.p s.len s.cap)/\K s
def zS(c:FloatKind)(d:aa)(a:Q6)(K:Nat->Prop):Prop:= ∃b,ag d a=some (.float c b)/\K b
def zT(c:FloatKind)(d:aa)(a:Q6)(K:Nat×Nat->Prop):Prop:= ∃b:Nat×Nat,ag d a=some (.complex c b.1 b.2)/\K b
def FM(c:aa)(a:Q6)(K:Option Nat->Prop):Prop:= ∃b,ag c a=some (.map b)/\K b
def ab(b:aa)(a:Q6)(v:J0)(K:aa->Prop):Prop:=(∃ u,ag b a=some u)/\fW b a=false/\K (dc b a v)
def bH(p:Q2)(len:Nat)(i:Int)(K:Q6->Prop):Prop:= ∃a,p=some a/\(0<=i/\i<len)/\K a
def aH(c K:Prop):Prop:=c/\K
def ah {a:Type}(c:a->aa->Prop)(body:(a->aa->Prop)->Prop):Prop:= ∀K:a->aa->Prop,(∀ x b,c x b->K x b)->body K
def Loop {a:Type}(c:(a->aa->Prop)->a->aa->Prop)(x:a)(b:aa):Prop:= ∀K:a->aa->Prop,(∀ x b,c K x b->K x b)->K x b
def BI(a:al)(P:Q1)(m:Sem J0)(c:aa)(K:A2O):Prop:= ∀d,∃v b e,m.run P (a.at c d)= .ok v (a.at b e)/\K v b
def AA(a:al)(P:Q1)(f:Q8)(args:Array J0)(c:aa)(d:A2O):Prop:=
 ∀e,Calls P f args (a.at c e) λg h=> ∃v,g= .returned v/\ ∃b i,h=a.at b i/\d v b
theorem AA.mono {b:al}{P:Q1}{f:Q8}{args:Array J0}{a:aa}{c d:A2O}(e:AA b P f args a c)(g: ∀v a,c v a->d v a):AA b P f args a d:=
 λh=>Calls.mono (e h) λ_ _ ⟨v,i,j,k,l,m⟩=>⟨v,i,j,k,l,g _ _ m⟩
def Du(a:al)(P:Q1)(fv:J0)(args:Array J0)(d:aa)(e:A2O):Prop:=
 ∀f,Next.out P (λv g=> ∃b h,g=a.at b h/\e v b) ((do let c <-Deferred.ofValue fv args;invoke c.target c.args:Sem Next).run P (a.at d f))
theorem Du.mono {b:al}{P:Q1}{fv:J0}{args:Array J0}{a:aa}{c d:A2O}(e:Du b P fv args a c)(f: ∀v a,c v a->d v a):Du b P fv args a d:=
 λg=>Next.cA (λ_ _ ⟨h,i,j,k⟩=>⟨h,i,j,f _ _ k⟩) (e g)
theorem TG {a b:Nat}(c:a≠b):Nat.beq a b=false:=by
 cases d:Nat.beq a b with
 |false=>rfl
 |true=>exact absurd (Jx d) c
structure Env where
 get:Nat->Option J0
 ds:List Nat
def Zu(a:Nat):Deferred:= {target:= .collected a,args:= #[]}
structure Fits (N:Nat) (a:Act) (e:Env):Prop where
 size:a.tmps.size=N
 get: ∀t v,e.get t=some v->a.tmps[t]? =some v
 ds:a.defers=e.ds.map Zu
def Env.set(a:Env)(b:Nat)(v:J0):Env:= {get:=λt=>bif Nat.beq t b then some v else a.get t,ds:=a.ds}
def Env.put(b:Env)(a:Option Tmp)(v:J0):Env:=match a with|none=>b|some a=>b.set a v
def mO(N:Nat)(a:Option Tmp):Bool:=match a with|none=>true|some a=>Nat.blt a N
theorem Fits.set {N:Nat}{a:Act}{f:Env}(d:Fits N a f){c:Nat}{v:J0}(hd:c<N):Fits N (a.put (some c) v) (f.set c v):=by
 refine⟨by simp[Act.put,d.size],?_,d.ds⟩;intro t u b;unfold Env.set at b;simp only at b;by_cases e:t=c
 ·subst e;have:Nat.beq t t=true:=by simp
  rw[this] at b;simp only[cond_true,BY] at b;subst b;simp[Act.put,d.size,hd]
 ·have:Nat.beq t c=false:=TG e;rw[this] at b;simp only[cond_false] at b;have:=d.get t u b;simp only[Act.put];rw[E0 (Ne.symm e)];exact this
theorem Fits.put {N:Nat}{a:Act}{c:Env}(d:Fits N a c){b:Option Tmp}{v:J0}(hd:mO N b=true):Fits N (a.put b v) (c.put b v):=by
 cases b with
 |none=>exact d
 |some b=>exact d.set (by simpa [mO] using hd)
theorem Fits.oH {N:Nat}{a:Act}{e:Env}(d:Fits N a e){c:Nat}{v:J0}(g:a.tmps[c]? =some v):Fits N a (e.set c v):=by
 refine⟨d.size,?_,d.ds⟩;intro t u b;unfold Env.set at b;simp only at b;by_cases f:t=c
 ·subst f;have:Nat.beq t t=true:=by simp
  rw[this] at b;simp only[cond_true,BY] at b;rw[<- b];exact g
 ·have:Nat.beq t c=false:=TG f;rw[this] at b;exact d.get t u b
def rdv(a:Env)(x:Operand):Option J0:=
 match x with
 | .tmp t=>a.get t
 | .const v=>some v
 | .global g=>some (.pointer (some ⟨g,0,none⟩))
 | .func f=>some (.func (.func f) #[] #[])
theorem Fits.rdv {N:Nat}{a:Act}{c:Env}(d:Fits N a c){x:Operand}{v:J0}(b:rdv c x=some v):a.eval x=v:=by
 cases x with
 |tmp t=>
  have:=d.get t v b;simp only[Act.eval];simp[this]
 |const u=>simpa [Lf.rdv,Act.eval] using b
 |global g=>simpa [Lf.rdv,Act.eval] using b
 |func f=>simpa [Lf.rdv,Act.eval] using b
def rd(a:Env)(x:Operand)(K:J0->Prop):Prop:=match rdv a x with|some v=>K v|none=>False
theorem BN {N:Nat}{a:Act}{c:Env}(e:Fits N a c){x:Operand}{K:J0->Prop}(b:rd c x K):K (a.eval x):=by
 unfold rd at b;cases d:rdv c x with
 |none=>rw[d] at b;exact b.elim
 |some v=>rw[d] at b;rw[e.rdv d];exact b
def ρof(a:Env)(x:Operand):J0:=match rdv a x with|some v=>v|none=>undef
def known(a:Env)(l:List Operand)(K:Prop):Prop:=match l with| []=>K|x::b=>(match rdv a x with|some _=>known a b K|none=>False)
theorem KH {N:Nat}{a:Act}{c:Env}(f:Fits N a c){K:Prop}: ∀ {l:List Operand},known c l K->(∀ x∈l,ρof c x=a.eval x)/\K
 | [],b=>⟨λ_ b=>(by cases b),b⟩
 |x::j,b=>by
  unfold known at b;cases d:rdv c x with
  |none=>rw[d] at b;exact b.elim
  |some v=>
   rw[d] at b;obtain⟨g,h⟩:=KH f b;refine⟨λi e=>?_,h⟩;rcases List.mem_cons.1 e with rfl|e
   ·unfold ρof;rw[d,f.rdv d]
   ·exact g i e
end Go.Lf
namespace Go
open Lf
def Sem.calc {b:Type}(P:Q1):Sem b->Option b
 | .pure a=>some a
 | .program f=>(f P).calc P
 |_=>none
end Go
namespace Go.Lf
theorem DR {e:Type}{P:Q1}{s:Sem e}: ∀ {a:e},s.calc P=some a-> ∀d,s.run P d= .ok a d:=by
 induction s with
 |pure a=>intro b c d;simp only[Sem.calc,BY] at c;subst c;rfl
 |program f g=>intro b c d;exact g P c d
 |_=>intro b c;simp only[Sem.calc] at c;cases c
def Ro {b:Type}(P:Q1)(s:Sem b)(K:b->Prop):Prop:=match s.calc P with|some a=>K a|none=>False
theorem MJ {d:Type}{P:Q1}{s:Sem d}{K:d->Prop}(b:Ro P s K): ∃a,(∀ e,s.run P e= .ok a e)/\K a:=by
 unfold Ro at b;cases c:s.calc P with
 |none=>rw[c] at b;exact b.elim
 |some a=>rw[c] at b;exact⟨a,DR c,b⟩
def LP:J0->Bool
 | .agg _| .tuple _=>false
 |_=>true
end Go.Lf
namespace Go
open Lf
def Sem.vc {e:Type}(P:Q1):Sem e->aa->(e->aa->Prop)->Prop
 | .pure a,c,K=>K a c
 | .program f,c,K=>(f P).vc P c K
 | .new g f,c,K=>ak c g λb d=>(f b).vc P d K
 | .load _ a f,c,K=>Rj c a λv=>(f v).vc P c K
 | .store _ a v f,c,K=>match LP v with|true=>ab c a v λd=>f.vc P d K|false=>False
 | .mark _ f,c,K=>f.vc P c K
 |_,_,_=>False
end Go
namespace Go.Lf
theorem su {c:Type}{A:al}{P:Q1}{m:Mode}{a:Q6}{v u:J0}{f:Sem c}{b:aa}{n:Nat}(d:LP v=true)(e:ag b a=some u)(g:fW b a=false):
  (Sem.store m a v f).run P (A.at b n)=f.run P (A.at (dc b a v) n):=by
 have h:(A.at b n).cell? a=some u:=e;have i:(A.at b n).frozen? a=false:=g;cases v<;>first|(simp[LP] at d;done)|(simp[Sem.run,h,i,fx])
theorem zU {o:Type}{A:al}{P:Q1}{s:Sem o}: ∀ {d:aa} {K:o->aa->Prop},s.vc P d K-> ∀e,∃v h i,s.run P (A.at d e)= .ok v (A.at h i)/\K v h:=by
 induction s with
 |pure a=>intro d K b e;exact⟨a,d,e,rfl,b⟩
 |program f g=>intro d K b e;exact g P b e
 |mark m f g=>intro d K b e;exact g b e
 |new q f g=>intro d K b e;exact g _ b e
 |load m a f g=>
  intro d K b e;obtain⟨v,r,b⟩:=b;obtain⟨j,h,i,k,l⟩:=g v b e;refine⟨j,h,i,?_,l⟩;simp only[Sem.run,zR,r];exact k
 |store m a v f g=>
  intro d K b e;unfold Sem.vc at b;cases n:LP v with
  |false=>rw[n] at b;exact b.elim
  |true=>
   rw[n] at b;obtain⟨⟨u,t⟩,w,b⟩:=b;obtain⟨j,h,i,k,l⟩:=g b e;refine⟨j,h,i,?_,l⟩;rw[su n t w];exact k
 |shape p f _=>intro d K b;exact b.elim
 |freeze a e f _=>intro d K b;exact b.elim
 |frozen a f _=>intro d K b;exact b.elim
 |getObj p f _=>intro d K b;exact b.elim
 |setObj p q f _=>intro d K b;exact b.elim
 |choose y f _=>intro d K b;exact b.elim
 |sys c f _=>intro d K b;exact b.elim
 |halt x=>intro d K b;exact b.elim
inductive Sc where
 |int (k:IntKind)|bool|str|ptr|sl|map|any|jc (k:FloatKind)|jd (k:FloatKind)
def Sc.Ty:Sc->Type
 | .int _=>Int
 | .bool=>Bool
 | .str=>A2P
 | .ptr=>Q2
 | .sl=>Sl
 | .map=>Option Nat
 | .any=>J0
 | .jc _=>Nat
 | .jd _=>Nat×Nat
def Sc.val:(s:Sc)->s.Ty->J0
 | .int c,(a:Int)=> .int c a
 | .bool,(b:Bool)=> .bool b
 | .str,(s:A2P)=> .string s
 | .ptr,(p:Q2)=> .pointer p
 | .sl,(s:Sl)=> .slice s.p s.len s.cap
 | .map,(d:Option Nat)=> .map d
 | .any,(v:J0)=>v
 | .jc c,(a:Nat)=> .float c a
 | .jd c,(a:Nat×Nat)=> .complex c a.1 a.2
def Sc.load(b:aa)(a:Q6):(s:Sc)->(s.Ty->Prop)->Prop
 | .int c,K=>AC c b a K
 | .bool,K=>Aa b a K
 | .str,K=>AJ b a K
 | .ptr,K=>AZ b a K
 | .sl,K=>AY b a K
 | .map,K=>FM b a K
 | .any,K=>Rj b a K
 | .jc c,K=>zS c b a K
 | .jd c,K=>zT c b a K
theorem Sc.bY {c:aa}{a:Q6}: ∀ {s:Sc} {K:s.Ty->Prop},s.load c a K-> ∃x,ag c a=some (s.val x)/\K x
 | .int _,_,b=>b
 | .bool,_,b=>b
 | .str,_,b=>b
 | .ptr,_,b=>b
 | .sl,_,b=>b
 | .map,_,b=>b
 | .any,_,b=>b
 | .jc _,_,b=>b
 | .jd _,_,b=>b
def oV(b:aa)(a:Q6):Nat->List Sc->(List J0->Prop)->Prop
 |_,[],K=>K []
 |i,s::l,K=>s.load b (a.add i) λx=>oV b a (i+1) l λc=>K (s.val x::c)
def oW:List Sc->(List J0->Prop)->Prop
 | [],K=>K []
 |s::l,K=> ∃x:s.Ty,oW l λa=>K (s.val x::a)
theorem sv: ∀ {l:List Sc} {K:List J0->Prop},oW l K-> ∃b,K b
 | [],_,a=>⟨[],a⟩
 |_::_,_,⟨_,a⟩=>let ⟨b,c⟩:=sv a;⟨_,c⟩
def jA(P:Q1):Nat->Q7->List Sc
 |0,_=> []
 |d+1,t=>
  match P.underlying t with
  |some .bool=> [.bool]
  |some (.int a)=> [.int a]
  |some (.float a)=> [.jc a]
  |some (.complex a)=> [.jd a]
  |some .string=> [.str]
  |some (.pointer _)=> [.ptr]
  |some (.slice _)=> [.sl]
  |some (.map _ _)=> [.map]
  |some (.struct b)=>b.toList.flatMap λf=>jA P d f.type
  |some (.array c e)=>(List.replicate c (jA P d e)).flatten
  |_=> [.any]
def WA(P:Q1)(t:Q7):Bool:=match P.underlying t with|some (.struct _)=>true|some (.array _ _)=>true|_=>false
mutual
def mP(P:Q1):Nat->Q7->(J0->Prop)->Prop
 |0,_,K=> ∃v,K v
 |d+1,t,K=>
  match P.underlying t with
  |some (.tuple ts)=>mQ P d ts.toList λa=>K (.tuple a.toArray)
  |_=>match WA P t with
   |true=>oW (jA P 20 t) λa=>K (.agg a.toArray)
   |false=>match jA P 20 t with
    | [s]=> ∃x:s.Ty,K (s.val x)
    |_=>False
def mQ(P:Q1):Nat->List Q7->(List J0->Prop)->Prop
 |_,[],K=>K []
 |0,_::_,_=>False
 |d+1,t::ts,K=>mP P d t λu=>mQ P d ts λa=>K (u::a)
end
theorem zV(P:Q1): ∀b,(∀ (t:Q7) (K:J0->Prop),mP P b t K-> ∃v,K v)/\(∀ (ts:List Q7) (K:List J0->Prop),mQ P b ts K-> ∃f,K f):=by
 intro b
 induction b with
 |zero=>
  refine⟨λt K a=>a,λts K a=>?_⟩;cases ts with
  |nil=>exact⟨[],a⟩
  |cons t ts=>exact a.elim
 |succ b c=>
  refine⟨λt K a=>?_,λts K a=>?_⟩
  ·unfold mP at a;split at a
   ·exact let ⟨e,d⟩:=c.2 _ _ a;⟨_,d⟩
   ·split at a
    ·exact let ⟨e,d⟩:=sv a;⟨_,d⟩
    ·split at a
     ·exact let ⟨x,g⟩:=a;⟨_,g⟩
     ·exact a.elim
  ·cases ts with
   |nil=>exact⟨[],a⟩
   |cons t ts=>
    unfold mQ at a;obtain⟨u,a⟩:=c.1 _ _ a;obtain⟨e,a⟩:=c.2 _ _ a;exact⟨_,a⟩
def PY(P:Q1)(t:Q7)(v:J0)(K:J0->Prop):Prop:=mP P 8 t λu=>v=u/\K u
theorem Od {P:Q1}{t:Q7}{v:J0}{K:J0->Prop}(a:PY P t v K):K v:=by obtain⟨u,rfl,a⟩:=(zV P 8).1 _ _ a;exact a
def bL(a b:A2P):Bool:=a.toList==b.toList
def aO(a b:A2P):Bool:=Op.bytesLess a.toList b.toList
def du(s:A2P)(i:Int):Int:=((s[i.toNat]?).getD 0).toNat
def Uj(P:Q1)(t:Q7)(a:Operand):Bool:=
 match P.underlying t with
 |some (.pointer _)=>match a with| .const (.pointer none)=>true|_=>false
 |some (.slice _)=>match a with| .const (.slice none 0 0)=>true|_=>false
 |some (.map _ _)=>match a with| .const (.map none)=>true|_=>false
 |some (.func _ _ _)=>match a with| .const .nilFunc=>true|_=>false
 |some (.interface _)=>match a with| .const .nilIface=>true|_=>false
 |_=>false
def jB:J0->Prop
 | .func .. =>True
 | .nilFunc=>True
 |_=>False
def WR:J0->Bool
 | .nilFunc=>true
 |_=>false
def lq:J0->Prop
 | .iface .. =>True
 | .nilIface=>True
 |_=>False
def Yl:J0->Bool
 | .nilIface=>true
 |_=>false
def lr(P:Q1)(t:Q7)(v:J0)(K:Bool->Prop):Prop:=
 match P.underlying t with
 |some (.pointer _)=>match v with| .pointer p=>K p.isNone|_=>False
 |some (.slice _)=>match v with| .slice p _ _=>K p.isNone|_=>False
 |some (.map _ _)=>match v with| .map a=>K a.isNone|_=>False
 |some (.func _ _ _)=>aH (jB v) (K (WR v))
 |some (.interface _)=>aH (lq v) (K (Yl v))
 |_=>False
def VT(a:BinOp)(b:Bool):J0:=match a with| .eql=> .bool b|_=> .bool !b
def oX(d:BinOp)(v u:J0)(K:J0->Prop):Prop:=
 match v,u with
 | .int c a,.int e b=>
  match decide (c=e) with
  |true=>match d with
   | .quo=>aH (b≠0) (K (.int c (c.wrap (a.tdiv b))))
   | .rem=>aH (b≠0) (K (.int c (a.tmod b)))
   |_=>False
  |false=>False
 |_,_=>False
def oY(d:BinOp)(v u:J0)(K:J0->Prop):Prop:=
 match v,u with
 | .int c a,.int _ b=>
  match d with
  | .shl=>aH (0<=b) (K (.int c (c.wrap (a*2^(min b.toNat c.bits)))))
  | .shr=>aH (0<=b) (K (.int c (a.fdiv (2^(min b.toNat c.bits)))))
  |_=>False
 |_,_=>False
def p5(v u:J0)(K:J0->Prop):Prop:=
 match v,u with
 | .string a,.string b=>aH (((a.size+b.size:Nat):Int)<=IntKind.i64.max) (K (.string (a++b)))
 |_,_=>False
inductive zW where
 |dX|div|shift|cat|je|jf|no
def isConst:Operand->Bool
 | .const _=>true
 |_=>false
def UA(P:Q1)(b:BinOp)(t:Q7)(x a:Operand):zW:=
 match b with
 | .quo| .rem=>match P.underlying t with|some (.int _)=>(match isConst a with|true=> .dX|false=> .div)|_=> .no
 | .shl| .shr=>match isConst a with|true=> .dX|false=> .shift
 | .add=>match P.underlying t with|some .string=> .cat|some (.int _)=> .dX|_=> .no
 | .eql| .neq=>
  match P.underlying t with
  |some (.int _)=> .dX
  |some .string=> .dX
  |some .bool=> .dX
  |some (.pointer _)|some (.slice _)|some (.map _ _)|some (.func _ _ _)|some (.interface _)=>(match Uj P t a with|true=> .je|false=>match Uj P t x with|true=> .jf|false=> .no)
  |_=> .no
 |_=>match P.underlying t with|some (.int _)=> .dX|some .string=> .dX|_=> .no
def p7(P:Q1)(a:BinOp)(t:Q7)(x c:Operand)(v u:J0)(K:J0->Prop):Prop:=
 match UA P a t x c with
 | .dX=>Ro P (do eqGuard a t x c v u;binOp a t v u) K
 | .div=>oX a v u K
 | .shift=>oY a v u K
 | .cat=>p5 v u K
 | .je=>lr P t v λb=>K (VT a b)
 | .jf=>lr P t u λb=>K (VT a b)
 | .no=>False
def p8(P:Q1)(t:Q7)(v i:J0)(K:J0->Prop):Prop:=
 match P.underlying t with
 |some (.slice c)=>match v,i,P.info? c with
  | .slice p len _,.int _ b,some d=>bH p len b λa=>K (.pointer (some (a.add (b.toNat*d.size))))
  |_,_,_=>False
 |some (.array len c)=>match v,i,P.info? c with
  | .pointer p,.int _ b,some d=>At p λa=>aH (0<=b/\b<(len:Int)) (K (.pointer (some (a.add (b.toNat*d.size)))))
  |_,_,_=>False
 |_=>False
def pa(P:Q1)(t:Q7)(v i:J0)(K:J0->Prop):Prop:=
 match P.underlying t with
 |some .string=>match v,i with
  | .string s,.int _ a=>aH (0<=a/\a<(s.size:Int)) (K (.int .u8 (du s a)))
  |_,_=>False
 |some (.array _ _)=>Ro P (Instr.index t v i) K
 |_=>False
def gF(x:Option J0)(b max:Nat)(K:Nat->Prop):Prop:=
 match x with
 |some (.int _ a)=>aH (0<=a/\a<=(max:Int)) (K a.toNat)
 |none=>K b
 |_=>False
def A7(p:Q2)(a l b:Nat):Q2:=if a=l then p else p.map (·.add (l*b))
def pb(P:Q1)(t:Q7)(v:J0)(d e:Option J0)(K:J0->Prop):Prop:=
 match P.underlying t with
 |some .string=>match v with
  | .string s=>gF e s.size s.size λb=>gF d 0 b λl=>K (.string (s.extract l b))
  |_=>False
 |some (.slice f)=>match v,P.info? f with
  | .slice p len g,some h=>gF e len g λb=>gF d 0 b λl=>K (.slice (A7 p g l h.size) (b-l) (g-l))
  |_,_=>False
 |some (.array c f)=>match v,P.info? f with
  | .pointer p,some h=>At p λa=>gF e c c λb=>gF d 0 b λl=>K (.slice (some (if c=l then a else a.add (l*h.size))) (b-l) (c-l))
  |_,_=>False
 |_=>False
def pd(P:Q1)(t:Q7)(v:J0)(c d:Option J0)(e:J0)(K:J0->Prop):Prop:=
 match P.underlying t with
 |some (.slice f)=>match v,P.info? f,d,e with
  | .slice p _ g,some h,some (.int _ b),.int _ a=>aH (0<=a/\a<=(g:Int)) (aH (0<=b/\b<=(a.toNat:Int)) (gF c 0 b.toNat λl=>K (.slice (A7 p a.toNat l h.size) (b.toNat-l) (a.toNat-l))))
  |_,_,_,_=>False
 |_=>False
def pg(c:Bool)(a b:Option J0)(K:J0->Prop):Prop:=
 match a,b with
 |some (.bool x),some (.bool d)=>K (.bool (cond c x d))
 |some x,some d=>ae c (K x) (K d)
 |some x,none=>ae c (K x) False
 |none,some d=>ae c False (K d)
 |none,none=>False
def sw(v:J0)(K:J0->Prop):Prop:=
 match v with
 | .pointer p=>At p λa=>K (.pointer (some a))
 |_=>False
def lu(a:Env)(x:Option Operand)(K:Option J0->Prop):Prop:=match x with|none=>K none|some x=>rd a x λv=>K (some v)
def YU(b:Bool)(K:Prop):Prop:=match b with|true=>K|false=>False
def lx(P:Q1)(t:Q7)(v:J0)(K:Array J0->Prop):Prop:=
 match WA P t with
 |true=>K v.cells
 |false=>YU (LP v) (K #[v])
theorem zX {v:J0}(a:LP v=true):v.cells= #[v]:=by cases v<;>first|rfl|(simp[LP] at a)
theorem Qg {P:Q1}{t:Q7}{v:J0}{K:Array J0->Prop}(a:lx P t v K):K v.cells:=by
 unfold lx at a;split at a
 ·exact a
 ·cases b:LP v with
  |false=>rw[b] at a;exact a.elim
  |true=>rw[b] at a;rw[zX b];exact a
def ka(b:Nat->Option (Nat×Nat))(cells:Array J0):List (Nat×Array J0)->Option (Array J0)
 | []=>some cells
 |(i,a)::rest=>
  match b i with
  |none=>none
  |some (off,d)=>
   if a.size≠d||off+a.size>cells.size then none
   else ka b (a.zipIdx.foldl (λe (c,f)=>e.setIfInBounds (off+f) c) cells) rest
theorem mR(a:Nat->Option (Nat×Nat)): ∀(l:List (Nat×J0)) (cells:Array J0),Instr.fill a cells l=ka a cells (l.map λp=>(p.1,p.2.cells))
 | [],cells=>rfl
 |(i,v)::rest,cells=>by
  simp only[Instr.fill,By,ka];cases a i with
  |none=>rfl
  |some p=>obtain⟨off,b⟩:=p;simp only[];split<;>first|rfl|exact mR a rest _
def zY(P:Q1)(t:Q7)(i:Nat):Option Q7:=
 match P.underlying t with
 |some (.struct b)=>(b[i]?).map (·.type)
 |some (.array _ a)=>some a
 |some (.slice a)=>some a
 |_=>none
def ly(P:Q1)(t:Q7)(a:Env):List (Nat×Operand)->(List (Nat×Array J0)->Prop)->Prop
 | [],K=>K []
 |(i,x)::b,K=>match zY P t i with
  |some ft=>rd a x λv=>lx P ft v λc=>ly P t a b λl=>K ((i,c)::l)
  |none=>False
def placesOf(P:Q1):List Field->Option (List (Nat×Nat))
 | []=>some []
 |f::a=>match P.info? f.type with
  |some i=>match placesOf P a with
   |some l=>some ((f.offset,i.size)::l)
   |none=>none
  |none=>none
def ph(P:Q1)(t:Q7)(a:List (Nat×Array J0)):Option (Array J0):=
 match P.info? t with
 |some i=>match i.zero with
  |some z=>match P.underlying t with
   |some (.struct c)=>match placesOf P c.toList with
    |some l=>ka (l.toArray[·]?) z.cells a
    |none=>none
   |some (.array _ d)=>match P.info? d with
    |some b=>ka (λe=>some (e*b.size,b.size)) z.cells a
    |none=>none
   |_=>none
  |none=>none
 |none=>none
def zZ(P:Q1)(t:Q7)(a:Array (Nat×Operand))(b:Env)(K:J0->Prop):Prop:=
 ly P t b a.toList λl=>match ph P t l with|some cells=>K (.agg cells)|none=>False
def mS(P:Q1)(e:Oper)(d:Env)(K:J0->Prop):Prop:=
 match e.op with
 | .nilCheck x=>rd d x λv=>sw v K
 | .binOp k t x g _=>rd d x λv=>rd d g λu=>p7 P k t x g v u K
 | .indexAddr t x i=>rd d x λv=>rd d i λu=>p8 P t v u K
 | .index t x i=>rd d x λv=>rd d i λu=>pa P t v u K
 | .slice t x h j n=>match n with
  |none=>rd d x λv=>lu d h λl=>lu d j λf=>pb P t v l f K
  |some m=>rd d x λv=>lu d h λl=>lu d j λf=>rd d m λo=>pd P t v l f o K
 | .pick c a b=>rd d c λv=>match v with| .bool c=>pg c (rdv d a) (rdv d b) K|_=>False
 | .build t q=>zZ P t q d K
 | .fieldAddr t x i=>rd d x λv=>match v with| .pointer p=>At p λa=>Ro P (Instr.fieldAt t (.pointer (some a)) i) K|_=>False
 |_=>known d e.op.operands.toList (Ro P (execOp (ρof d) e) λx=>match x with| .value v=>K v|_=>False)
theorem At.mk {p:Q2}{K:Q6->Prop}(b:At p K): ∃a,p=some a/\K a:=by
 cases p with
 |none=>exact b.elim
 |some a=>exact⟨a,rfl,b⟩
theorem iN {P:Q1}{s:Sem J0}{v:J0}{w a:World}(b:s.run P w= .ok v a):(do pure (.value (<- s)):Sem Next).run P w= .ok (.value v) a:=by rw[Sem.run_bind,b];rfl
theorem ASf {P:Q1}{s:Sem Unit}{w a:World}(b:s.run P w= .ok () a):(do s;pure .skip:Sem Next).run P w= .ok .skip a:=by rw[Sem.run_bind,b];rfl
section
variable {P : Q1} {w : World}
theorem BH {t:Q7}{a:TypeDesc}(b:P.underlying t=some a):(underlying t).run P w= .ok a w:=run_underlying b w
theorem sx {t:Q7}{i:TypeInfo}(a:P.info? t=some i):(typeInfo t).run P w= .ok i w:=by simp[typeInfo,a]
theorem run_sizeOf {t:Q7}{i:TypeInfo}(a:P.info? t=some i):(sizeOf t).run P w= .ok i.size w:=by simp[sizeOf,sx a]
def TS(P:Q1)(t:Q7):Option J0:=
 match P.underlying t with
 |some (.pointer _)=>some (.pointer none)
 |some (.slice _)=>some (.slice none 0 0)
 |some (.map _ _)=>some (.map none)
 |some (.func _ _ _)=>some .nilFunc
 |some (.interface _)=>some .nilIface
 |_=>none
theorem XF {t:Q7}{b:Operand}(a:Uj P t b=true): ∃u,b= .const u/\TS P t=some u:=by unfold Uj at a;unfold TS;split at a<;>first|(cases a;done)|(split at a<;>first|(cases a;done)|exact⟨_,rfl,rfl⟩)
theorem AFj(g:Nat){t:Q7}{v u:J0}{K:Bool->Prop}(c:lr P t v K)(d:TS P t=some u):
  ∃b,(∀ w,(Op.equalIn (g+1) t v u).run P w= .ok b w)/\(∀ w,(Op.equalIn (g+1) t u v).run P w= .ok b w)/\K b:=by
 unfold lr at c;unfold TS at d;cases e:P.underlying t with
 |none=>rw[e] at c;exact c.elim
 |some i=>
  rw[e] at c d;cases i<;>simp only[] at c d<;>try exact c.elim
  case pointer h=>
   simp only[BY] at d;subst d;cases v<;>simp only[] at c<;>try exact c.elim
   case pointer p=>
    refine⟨_,λw=>?_,λw=>?_,c⟩
    ·cases p<;>simp[Op.equalIn,BH e]
    ·cases p<;>simp[Op.equalIn,BH e]
  case slice h=>
   simp only[BY] at d;subst d;cases v<;>simp only[] at c<;>try exact c.elim
   case slice p a b=>
    refine⟨_,λw=>?_,λw=>?_,c⟩
    ·cases p<;>simp[Op.equalIn,BH e]
    ·cases p<;>simp[Op.equalIn,BH e]
  case map j h=>
   simp only[BY] at d;subst d;cases v<;>simp only[] at c<;>try exact c.elim
   case map p=>
    refine⟨_,λw=>?_,λw=>?_,c⟩
    ·cases p<;>simp[Op.equalIn,BH e]
    ·cases p<;>simp[Op.equalIn,BH e]
  case func ps k l=>
   simp only[BY] at d;subst d;obtain⟨f,c⟩:=c;cases v<;>simp only[jB] at f
   ·refine⟨_,λw=>?_,λw=>?_,c⟩<;>simp[Op.equalIn,BH e,WR]
   ·refine⟨_,λw=>?_,λw=>?_,c⟩<;>simp[Op.equalIn,BH e,WR]
  case interface m=>
   simp only[BY] at d;subst d;obtain⟨f,c⟩:=c;cases v<;>simp only[lq] at f
   ·refine⟨_,λw=>?_,λw=>?_,c⟩<;>simp[Op.equalIn,BH e,Yl]
   ·refine⟨_,λw=>?_,λw=>?_,c⟩<;>simp[Op.equalIn,BH e,Yl]
end
section
variable {P : Q1}
def PR(P:Q1)(s:Sem J0)(K:J0->Prop):Prop:= ∃v,(∀ a,s.run P a= .ok v a)/\K v
theorem AEK {N:Nat}{a:Act}{c:Env}(f:Fits N a c){o:Oper}{K:J0->Prop}(g:FE o)
  (h:known c o.op.operands.toList (Ro P (execOp (ρof c) o) λx=>match x with| .value v=>K v|_=>False)):
  ∃v,(∀ d,(execOp a.eval o).run P d= .ok (.value v) d)/\K v:=by
 obtain⟨i,j⟩:=KH f h;obtain⟨x,b,e⟩:=MJ j;rw[execOp_congr o g (λx b=>i x (by simpa using b))] at b;cases x<;>simp only[] at e
 exact⟨_,b,e⟩
theorem AL2 {d:BinOp}{t:Q7}{x g:Operand}{v u:J0}{K:J0->Prop}(h:d= .quo\/d= .rem)(c:oX d v u K):PR P (do eqGuard d t x g v u;binOp d t v u) K:=by
 unfold oX at c;cases v<;>cases u<;>simp only[] at c<;>try exact c.elim
 rename_i i a j b;by_cases f:i=j
 ·subst f;rcases h with rfl|rfl
  ·simp only[decide_true] at c;obtain⟨e,c⟩:=c;exact⟨_,λk=>by simp[eqGuard,binOp,Op.intDiv,e],c⟩
  ·simp only[decide_true] at c;obtain⟨e,c⟩:=c;exact⟨_,λk=>by simp[eqGuard,binOp,Op.intDiv,e],c⟩
 ·rw[decide_eq_false f] at c;exact c.elim
theorem APC {b:BinOp}{t:Q7}{x d:Operand}{v u:J0}{K:J0->Prop}(e:b= .shl\/b= .shr)(a:oY b v u K):PR P (do eqGuard b t x d v u;binOp b t v u) K:=by
 unfold oY at a;cases v<;>cases u<;>simp only[] at a<;>try exact a.elim
 rcases e with rfl|rfl
 ·simp only[] at a;obtain⟨c,a⟩:=a;exact⟨_,λf=>by simp[eqGuard,binOp,Op.shift,Int.not_lt.2 c],a⟩
 ·simp only[] at a;obtain⟨c,a⟩:=a;exact⟨_,λf=>by simp[eqGuard,binOp,Op.shift,Int.not_lt.2 c],a⟩
theorem AMY {t:Q7}{x b:Operand}{v u:J0}{K:J0->Prop}(a:p5 v u K):PR P (do eqGuard .add t x b v u;binOp .add t v u) K:=by
 unfold p5 at a;cases v<;>cases u<;>simp only[] at a<;>try exact a.elim
 obtain⟨c,a⟩:=a;refine⟨_,λe=>?_,a⟩;have d: ¬(((_:A2P).size+(_:A2P).size:Nat):Int)>IntKind.i64.max:=Int.not_lt.2 c;simp only[eqGuard,binOp,Op.stringOp,if_neg d];rfl
theorem sy {t:Q7}{v u:J0}{K:Bool->Prop}(c:lr P t v K)(d:TS P t=some u):
  ∃b,(∀ a,(Op.equal t v u).run P a= .ok b a)/\(∀ a,(Op.equal t u v).run P a= .ok b a)/\K b:=AFj 9999 c d
theorem binOp_eql {a:BinOp}{t:Q7}{v u:J0}{b:Bool}(g:a= .eql\/a= .neq)(c:TS P t=some u){d:World}(e:(Op.equal t v u).run P d= .ok b d):
  (binOp a t v u).run P d= .ok (VT a b) d/\True:=by
 have f:u= .pointer none\/u= .slice none 0 0\/u= .map none\/u= .nilFunc\/u= .nilIface:=by unfold TS at c;split at c<;>simp at c<;>subst c<;>simp
 refine⟨?_,trivial⟩;rcases g with rfl|rfl
 ·rcases f with rfl|rfl|rfl|rfl|rfl<;>cases v<;>simp[binOp,e,VT]
 ·rcases f with rfl|rfl|rfl|rfl|rfl<;>cases v<;>simp[binOp,e,VT]
theorem AIw {a:BinOp}{t:Q7}{v u:J0}{b:Bool}(g:a= .eql\/a= .neq)(c:TS P t=some u){d:World}(e:(Op.equal t u v).run P d= .ok b d):
  (binOp a t u v).run P d= .ok (VT a b) d/\True:=by
 have f:u= .pointer none\/u= .slice none 0 0\/u= .map none\/u= .nilFunc\/u= .nilIface:=by unfold TS at c;split at c<;>simp at c<;>subst c<;>simp
 refine⟨?_,trivial⟩;rcases g with rfl|rfl
 ·rcases f with rfl|rfl|rfl|rfl|rfl<;>cases v<;>simp[binOp,e,VT]
 ·rcases f with rfl|rfl|rfl|rfl|rfl<;>cases v<;>simp[binOp,e,VT]
theorem sA {b:BinOp}{t:Q7}{x e:Operand}{v u:J0}{d:World}(f:b= .eql\/b= .neq)(a:TS P t=some u)(g:(∃ c,x= .const c)\/(∃ c,e= .const c)):
  (eqGuard b t x e v u).run P d= .ok () d/\(eqGuard b t x e u v).run P d= .ok () d:=by
 have h:u= .pointer none\/u= .slice none 0 0\/u= .map none\/u= .nilFunc\/u= .nilIface:=by unfold TS at a;split at a<;>simp at a<;>subst a<;>simp
 clear a;rcases f with rfl|rfl<;>rcases g with⟨c,rfl⟩|⟨c,rfl⟩<;>rcases h with rfl|rfl|rfl|rfl|rfl<;>cases v<;>exact⟨by simp[eqGuard],by simp[eqGuard]⟩
theorem AMa {d:BinOp}{t:Q7}{x h:Operand}{v u:J0}{K:J0->Prop}(n: ∀c,x= .const c->v=c)(o: ∀c,h= .const c->u=c)(e:p7 P d t x h v u K):
  PR P (do eqGuard d t x h v u;binOp d t v u) K:=by
 unfold p7 at e;cases a:UA P d t x h with
 |dX=>rw[a] at e;exact MJ e
 |no=>rw[a] at e;exact e.elim
 |div=>
  rw[a] at e;refine AL2 ?_ e;unfold UA at a;cases d<;>simp only[] at a<;>first|exact .inl rfl|exact .inr rfl|(exfalso;split at a<;>first|(cases a;done)|(split at a<;>first|(cases a;done)|(split at a<;>cases a)))
 |shift=>
  rw[a] at e;refine APC ?_ e;unfold UA at a;cases d<;>simp only[] at a<;>first|exact .inl rfl|exact .inr rfl|(exfalso;split at a<;>first|(cases a;done)|(split at a<;>first|(cases a;done)|(split at a<;>cases a)))
 |cat=>
  rw[a] at e;have:d= .add:=by unfold UA at a;cases d<;>simp only[] at a<;>first|rfl|(exfalso;split at a<;>first|(cases a;done)|(split at a<;>first|(cases a;done)|(split at a<;>cases a)))
  subst this;exact AMY e
 |je=>
  rw[a] at e;have f:(d= .eql\/d= .neq)/\Uj P t h=true:=by
   unfold UA at a;cases d<;>simp only[] at a<;>first
    |(refine⟨.inl rfl,?_⟩;split at a<;>first|(cases a;done)|(split at a<;>first|assumption|(split at a<;>cases a)))
    |(refine⟨.inr rfl,?_⟩;split at a<;>first|(cases a;done)|(split at a<;>first|assumption|(split at a<;>cases a)))
    |(exfalso;split at a<;>first|(cases a;done)|(split at a<;>first|(cases a;done)|(split at a<;>cases a)))
  obtain⟨f,i⟩:=f;obtain⟨c,l,g⟩:=XF i;have:=o c l;subst this;obtain⟨b,p,_,j⟩:=sy e g;refine⟨VT d b,λk=>?_,j⟩;rw[Sem.run_bind,(sA f g (.inr ⟨_,l⟩)).1];exact(binOp_eql f g (p k)).1
 |jf=>
  rw[a] at e;have f:(d= .eql\/d= .neq)/\Uj P t x=true:=by
   unfold UA at a;cases d<;>simp only[] at a<;>first
    |(refine⟨.inl rfl,?_⟩;split at a<;>first|(cases a;done)|(split at a<;>first|(cases a;done)|(split at a<;>first|assumption|(cases a;done))))
    |(refine⟨.inr rfl,?_⟩;split at a<;>first|(cases a;done)|(split at a<;>first|(cases a;done)|(split at a<;>first|assumption|(cases a;done))))
    |(exfalso;split at a<;>first|(cases a;done)|(split at a<;>first|(cases a;done)|(split at a<;>cases a)))
  obtain⟨f,i⟩:=f;obtain⟨c,m,g⟩:=XF i;have:=n c m;subst this;obtain⟨b,_,q,j⟩:=sy e g;refine⟨VT d b,λk=>?_,j⟩;rw[Sem.run_bind,(sA f g (.inl ⟨_,m⟩)).2];exact(AIw f g (q k)).1
end
section
variable {P : Q1}
theorem ADq {t:Q7}{v i:J0}{K:J0->Prop}(b:p8 P t v i K):PR P (Instr.indexAt t v i) K:=by
 unfold p8 at b;split at b
 ·rename_i h d;split at b
  ·rename_i p len c j k l e;obtain⟨a,rfl,⟨f,g⟩,b⟩:=b;refine⟨_,λm=>?_,b⟩;simp[Instr.indexAt,asIntOf,BH d,run_sizeOf e,f,g]
  ·exact b.elim
 ·rename_i len h d;split at b
  ·rename_i p j k l e;obtain⟨a,rfl,b⟩:=At.mk b;obtain⟨⟨f,g⟩,b⟩:=b;refine⟨_,λm=>?_,b⟩;simp[Instr.indexAt,asIntOf,BH d,run_sizeOf e,f,g,Instr.sureAddr]
  ·exact b.elim
 ·exact b.elim
theorem AHg {t:Q7}{v i:J0}{K:J0->Prop}(a:pa P t v i K):PR P (Instr.index t v i) K:=by
 unfold pa at a;split at a
 ·rename_i c;split at a
  ·rename_i s g b;obtain⟨⟨d,h⟩,a⟩:=a;refine⟨_,λj=>?_,a⟩;have e:b.toNat<s.size:=by omega
   have f:s[b.toNat]? =some s[b.toNat]:=by simp[e]
   simp[Instr.index,asIntOf,BH c,d,f,du]
  ·exact a.elim
 ·exact MJ a
 ·exact a.elim
theorem UN {x:Option J0}{d max:Nat}{K:Nat->Prop}(a:gF x d max K):
  (x=none/\K d)\/ ∃c b,x=some (.int c b)/\0<=b/\b<=(max:Int)/\K b.toNat:=by
 unfold gF at a;split at a
 ·rename_i c b;obtain⟨⟨e,f⟩,a⟩:=a;exact .inr ⟨c,b,rfl,e,f,a⟩
 ·exact .inl ⟨rfl,a⟩
 ·exact a.elim
theorem run_sliceBound {d:IntKind}{a:Int}{b:Nat}{e:BoundsCode}(f:0<=a)(g:a<=(b:Int))(c:World):
  (Instr.sliceBound (.int d a) b e).run P c= .ok a.toNat c:=by
 simp[Instr.sliceBound,asIntOf,f,g]
theorem Mh {b:Bool}{len g:Nat}{k m:Option J0}{K:Nat->Nat->Prop}
  (p:gF m len g λe=>gF k 0 e λl=>K l e): ∃l e,(∀ d,(Instr.sliceBounds b len g k m none).run P d= .ok (l,e,g) d)/\K l e:=by
 obtain⟨f,h⟩|⟨s,t,f,n,o,h⟩:=UN p
 ·obtain⟨a,c⟩|⟨q,r,a,i,j,c⟩:=UN h
  ·exact⟨_,_,λd=>by simp[Instr.sliceBounds,f,a],c⟩
  ·exact⟨_,_,λd=>by simp[Instr.sliceBounds,f,a,run_sliceBound i j],c⟩
 ·obtain⟨a,c⟩|⟨q,r,a,i,j,c⟩:=UN h
  ·exact⟨_,_,λd=>by simp[Instr.sliceBounds,f,a,run_sliceBound n o],c⟩
  ·exact⟨_,_,λd=>by simp[Instr.sliceBounds,f,a,run_sliceBound n o,run_sliceBound i j],c⟩
theorem AHR {t:Q7}{v:J0}{g h:Option J0}{K:J0->Prop}(c:pb P t v g h K):PR P (Instr.sliceAt t v g h none) K:=by
 unfold pb at c;split at c
 ·rename_i d;split at c
  ·rename_i s;obtain⟨l,i,e,c⟩:=Mh (P:=P) (b:=false) c;refine⟨_,λj=>?_,c⟩;simp[Instr.sliceAt,Instr.slice,BH d,e]
  ·exact c.elim
 ·rename_i k d;split at c
  ·rename_i p len o m f;obtain⟨l,i,e,c⟩:=Mh (P:=P) (b:=true) c;refine⟨_,λj=>?_,c⟩;simp[Instr.sliceAt,Instr.slice,BH d,e,run_sizeOf f,A7]
  ·exact c.elim
 ·rename_i q k d;split at c
  ·rename_i p m f;obtain⟨a,rfl,n⟩:=At.mk c;obtain⟨l,i,e,c⟩:=Mh (P:=P) (b:=false) n;refine⟨_,λj=>?_,c⟩;simp[Instr.sliceAt,BH d,e,run_sizeOf f,Instr.sureAddr]
  ·exact c.elim
 ·exact c.elim
theorem AGJ {t:Q7}{v d:J0}{e f:Option J0}{K:J0->Prop}(a:pd P t v e f d K):PR P (Instr.sliceAt t v e f (some d)) K:=by
 unfold pd at a;split at a
 ·rename_i q g;split at a
  ·rename_i p len r s u w b x h;obtain⟨⟨i,j⟩,⟨k,l⟩,a⟩:=a;obtain⟨c,b⟩|⟨y,z,c,m,n,b⟩:=UN a
   ·refine⟨_,λo=>?_,b⟩;simp[Instr.sliceAt,Instr.slice,Instr.sliceBounds,BH g,run_sizeOf h,A7,c,run_sliceBound i j,run_sliceBound k l]
   ·refine⟨_,λo=>?_,b⟩;simp[Instr.sliceAt,Instr.slice,Instr.sliceBounds,BH g,run_sizeOf h,A7,c,run_sliceBound i j,run_sliceBound k l,run_sliceBound m n]
  ·exact a.elim
 ·exact a.elim
theorem ae.mk {b:Bool}{c d:Prop}(a:ae b c d):(b=true->c)/\(b=false->d):=by
 cases b
 ·exact⟨λa=>(by cases a),λ_=>a⟩
 ·exact⟨λ_=>a,λa=>(by cases a)⟩
theorem AIy {c:Bool}{a b:Option J0}{va vb:J0}(e: ∀v,a=some v->va=v)(f: ∀v,b=some v->vb=v){K:J0->Prop}(d:pg c a b K):
  K (if c then va else vb):=by
 unfold pg at d;split at d
 ·rename_i x g;rw[e _ rfl,f _ rfl];cases c<;>exact d
 ·rename_i x g _;rw[e _ rfl,f _ rfl];cases c<;>exact d
 ·rename_i x;rw[e _ rfl];cases c
  ·exact d.elim
  ·exact d
 ·rename_i g;rw[f _ rfl];cases c
  ·exact d
  ·exact d.elim
 ·exact d.elim
theorem Qr {N:Nat}{a:Act}{b:Env}(d:Fits N a b){x:Option Operand}{K:Option J0->Prop}(c:lu b x K):K (x.map a.eval):=by
 cases x with
 |none=>exact c
 |some x=>exact BN d c
theorem RV {N:Nat}{a:Act}{c:Env}(d:Fits N a c){t:Q7}: ∀ {l:List (Nat×Operand)} {K:List (Nat×Array J0)->Prop},ly P t c l K->K (l.map λp=>(p.1,(a.eval p.2).cells))
 | [],K,b=>b
 |(i,x)::g,K,b=>by
  unfold ly at b;split at b
  ·have e:=Qg (BN d b);have f:=RV d e;exact f
  ·exact b.elim
theorem tu: ∀(a:List Field),placesOf P a=a.mapM (λf=>(P.info? f.type).map λi=>(f.offset,i.size))
 | []=>rfl
 |f::b=>by
  simp only[placesOf,PF,Option.bind_eq_bind,Option.pure_def,tu b];cases P.info? f.type with
  |none=>rfl
  |some i=>simp only[HN,Hj];cases b.mapM (λf=>(P.info? f.type).map λi=>(f.offset,i.size))<;>rfl
theorem AJ7 {t:Q7}{b:Array (Nat×J0)}{cells:Array J0}(a:ph P t (b.toList.map λp=>(p.1,p.2.cells))=some cells)(c:World):
  (Instr.build t b).run P c= .ok (.agg cells) c:=by
 unfold ph at a;split at a
 ·rename_i j e;split at a
  ·rename_i z f;split at a
   ·rename_i k d;split at a
    ·rename_i l g;rw[<- mR] at a;rw[tu] at g;have h:Instr.fill (λx=>l[x]?) z.cells b.toList=some cells:=by simpa using a
     simp[Instr.build,run_underlying d,typeInfo,zeroValue,e,f,WD,run_places c _ _ g,h]
    ·cases a
   ·rename_i m n d;split at a
    ·rename_i o i;rw[<- mR] at a;simp[Instr.build,run_underlying d,sizeOf,typeInfo,zeroValue,e,f,i,a]
    ·cases a
   ·cases a
  ·cases a
 ·cases a
theorem Vt {N:Nat}{a:Act}{n:Env}(e:Fits N a n){o:Oper}{K:J0->Prop}(r:FE o)(d:mS P o n K):
  ∃v,(∀ g,(execOp a.eval o).run P g= .ok (.value v) g)/\K v:=by
 have lift: ∀ {s:Sem J0},PR P s K->(execOp a.eval o=do pure (.value (<- s)))-> ∃v,(∀ g,(execOp a.eval o).run P g= .ok (.value v) g)/\K v:=by intro s ⟨v,j,u⟩ w;exact⟨v,λg=>by rw[w];exact iN (j g),u⟩
 have y:=AEK (P:=P) e (o:=o) (K:=K) r;unfold mS at d;cases f:o.op
 case nilCheck x=>
  rw[f] at d;have d:=BN e d;unfold sw at d;cases k:a.eval x<;>rw[k] at d<;>simp only[] at d
  rename_i p;obtain⟨b,rfl,d⟩:=At.mk d;exact⟨_,λg=>by simp[execOp,f,k],d⟩
 case binOp A t x q t'=>
  rw[f] at d;have d:=BN e (BN e d);refine lift (AMa (λc h=>by subst h;rfl) (λc h=>by subst h;rfl) d) ?_;simp[execOp,f]
 case indexAddr t x i=>
  rw[f] at d;have d:=BN e (BN e d);refine lift (ADq d) ?_;simp[execOp,f]
 case index t x i=>
  rw[f] at d;have d:=BN e (BN e d);refine lift (AHg d) ?_;simp[execOp,f]
 case slice t x B C z=>
  rw[f] at d;cases z with
  |some m=>
   have d:=BN e (Qr e (Qr e (BN e d)));refine lift (AGJ d) ?_;simp[execOp,f]
  |none=>
   have d:=Qr e (Qr e (BN e d));refine lift (AHR d) ?_;simp[execOp,f]
 case build t D=>
  rw[f] at d;have d:=RV e d;split at d
  ·rename_i cells h;refine⟨_,λg=>?_,d⟩;simp only[execOp,f];refine iN (AJ7 ?_ g);rw[<- h];congr 1;simp
  ·exact d.elim
 case pick c x q=>
  rw[f] at d;have d:=BN e d;cases h:a.eval c<;>rw[h] at d<;>simp only[] at d
  rename_i b;have d:=AIy (va:=a.eval x) (vb:=a.eval q) (λv j=>e.rdv j) (λv j=>e.rdv j) d;exact⟨_,λg=>by simp[execOp,f,h,asBool],d⟩
 case fieldAddr t x i=>
  rw[f] at d;have d:=BN e d;cases k:a.eval x<;>rw[k] at d<;>simp only[] at d
  obtain⟨b,rfl,l⟩:=At.mk d;clear d;unfold Ro at l;split at l
  ·rename_i v h;exact⟨v,λg=>by simp only[execOp,f,k];exact iN (DR h g),l⟩
  ·exact l.elim
 all_goals (rw[f] at d;simp only[] at d;rw[<- f] at d;exact y d)
def MK(b:aa)(a:Q6):Nat->List J0->Prop
 |_,[]=>True
 |i,[v]=>ag b (a.add i)=some v
 |i,v::c=>ag b (a.add i)=some v/\MK b a (i+1) c
def loadT(P:Q1)(t:Q7)(c:aa)(a:Q6)(K:J0->(aa->Prop)->Prop):Prop:=
 match WA P t with
 |true=>match P.info? t with
  |some i=>match Nat.beq (jA P 20 t).length i.size with
   |true=>oV c a 0 (jA P 20 t) λd=>K (.agg d.toArray) (λb=>MK b a 0 d)
   |false=>False
  |none=>False
 |false=>match P.underlying t with
  |some _=>match jA P 20 t with
   | [s]=>s.load c a λx=>K (s.val x) (λb=>ag b a=some (s.val x))
   |_=>False
  |none=>False
def nf(P:Q1)(b:Oper)(c:Env)(d:aa)(K:J0->(aa->Prop)->Prop):Prop:=
 match b.op with
 | .load t x=>rd c x λv=>match v with
  | .pointer p=>At p λa=>loadT P t d a K
  |_=>False
 |_=>False
theorem VM {b:aa}{a:Q6}{i:Nat}{v:J0}{c:List J0}:MK b a i (v::c)↔ag b (a.add i)=some v/\MK b a (i+1) c:=by
 cases c with
 |nil=>simp[MK]
 |cons u d=>simp[MK]
theorem VN {d:aa}{a:Q6}: ∀ {l:List Sc} {i:Nat} {K:List J0->Prop},oV d a i l K-> ∃c,c.length=l.length/\MK d a i c/\K c
 | [],_,_,b=>⟨[],rfl,trivial,b⟩
 |s::l,i,K,b=>by
  obtain⟨x,e,b⟩:=Sc.bY b;obtain⟨c,f,g,b⟩:=VN b;exact⟨s.val x::c,by simp[f],VM.2 ⟨e,g⟩,b⟩
theorem run_loadCellsFrom {A:al}{b:aa}{a:Q6}{n:Nat}: ∀ {c:List J0} {i:Nat} {acc:Array J0},MK b a i c->
  (loadCellsFrom a i c.length acc).run P (A.at b n)= .ok (acc++c.toArray) (A.at b n)
 | [],_,acc,_=>by simp[loadCellsFrom]
 |v::c,i,acc,d=>by
  obtain⟨e,f⟩:=VM.1 d;have g:=run_loadCellsFrom (A:=A) (n:=n) (acc:=acc.push v) f;have h:(load (a.add i)).run P (A.at b n)= .ok v (A.at b n):=by have j:(A.at b n).cell? (a.add i)=some v:=e;simp[load,Sem.run,j]
  simp only[A5,loadCellsFrom,Sem.run_bind,h,Result.andThen_ok,g];simp
theorem tv {t:Q7}{b:World}(c: ∃a,P.underlying t=some a):(isAgg t).run P b= .ok (WA P t) b:=by obtain⟨a,hd⟩:=c;unfold isAgg WA;rw[hd];cases a<;>simp[BH hd]
theorem tw {A:al}{t:Q7}{i:aa}{a:Q6}{K:J0->(aa->Prop)->Prop}(b:loadT P t i a K):
  ∃v st,(∀ c,st c-> ∀n,(loadVar t a).run P (A.at c n)= .ok v (A.at c n))/\st i/\K v st:=by
 unfold loadT at b;cases d:WA P t with
 |true=>
  rw[d] at b;simp only[] at b;have f: ∃e,P.underlying t=some e:=by
   cases f:P.underlying t with
   |none=>simp[WA,f] at d
   |some e=>exact⟨e,rfl⟩
  split at b
  ·rename_i q j;split at b
   ·rename_i g;have g:=Jx g;obtain⟨r,k,l,b⟩:=VN b;refine⟨_,_,λc h n=>?_,l,b⟩;have m:=run_loadCellsFrom (P:=P) (A:=A) (n:=n) (acc:= #[]) h;simp only[loadVar,Sem.run_bind,tv f,d,Result.andThen_ok,if_true,run_sizeOf j];rw[<- g,<-k];simp only[loadCells,m,Result.andThen_ok];simp
   ·exact b.elim
  ·exact b.elim
 |false=>
  rw[d] at b;simp only[] at b;split at b
  ·rename_i e hd;split at b
   ·rename_i s _;obtain⟨x,o,b⟩:=Sc.bY b;refine⟨_,_,λc h n=>?_,o,b⟩;have p:(A.at c n).cell? a=some (s.val x):=h;simp[loadVar,tv ⟨e,hd⟩,d,load,Sem.run,p]
   ·exact b.elim
  ·exact b.elim
theorem bY {A:al}{N:Nat}{a:Act}{e:Env}(h:Fits N a e){f:Oper}{g:aa}{K:J0->(aa->Prop)->Prop}(c:nf P f e g K):
  ∃v st,(∀ d,st d->dN P A f a.eval v d)/\st g/\K v st:=by
 unfold nf at c;split at c
 ·rename_i t x i;have c:=BN h c;split at c
  ·rename_i p d;obtain⟨b,rfl,c⟩:=At.mk c;obtain⟨v,st,j,k,c⟩:=tw (A:=A) c;refine⟨v,st,λl m n=>?_,k,c⟩;have:=j l m n;simp only[execOp,i,d];refine iN ?_;simp only[Instr.loadAt,Instr.sureAddr,Sem.run_bind,Sem.run_pure,Result.andThen_ok];exact this
  ·exact c.elim
 ·exact c.elim
end
section
variable {P : Q1} {A : al} {r : Option Nat} {ops : Array Oper} {qb : Oper -> Bool} {ord : Nat -> Nat -> Bool}
abbrev Kt:=Act->aa->List (Nat×(aa->Prop))->Prop
def Em(P:Q1)(A:al)(ops:Array Oper)(qb:Oper->Bool)(ord:Nat->Nat->Bool)(i:Nat)(K:Kt):Kt:=λa c d=>
 match ops[i]? with
 |none=>False
 |some b=>
  if Region.wanted b (yielded ops a.tmps)=true then
   if qb b=true then
    ∃v,dN P A b a.eval v c/\K (a.put b.dst v) c ((i,dN P A b a.eval v)::d)
   else
    ∀f,EV P b a.eval (A.at c f) λv g=> ∃e h,g=A.at e h/\(∀ p∈d,un ord i p.1=true->p.2 e)/\K (a.put b.dst v) e d
  else K (a.put b.dst undef) c d
def lP(K:Kt):Prop:= ∀a b c d,K a b c->(∀ p∈d,p∈c)->K a b d
theorem Em.mono {i:Nat}{K j:Kt}(e: ∀a c d,K a c d->j a c d){a:Act}{c:aa}{d:List (Nat×(aa->Prop))}
  (b:Em P A ops qb ord i K a c d):Em P A ops qb ord i j a c d:=by
 unfold Em at b ⊢;cases k:ops[i]? with
 |none=>rw[k] at b;exact b
 |some s=>
  rw[k] at b;simp only at b ⊢;split
  ·rename_i f;rw[if_pos f] at b;split
   ·rename_i g;rw[if_pos g] at b;obtain⟨v,l,h⟩:=b;exact⟨v,l,e _ _ _ h⟩
   ·rename_i g;rw[if_neg g] at b;intro m;refine(b m).mono ?_;rintro v t ⟨n,o,p,q,h⟩;exact⟨n,o,p,q,e _ _ _ h⟩
  ·rename_i f;rw[if_neg f] at b;exact e _ _ _ b
theorem Em.fq {i:Nat}{K:Kt}(e:lP K):lP (Em P A ops qb ord i K):=by
 intro a s t u b d;unfold Em at b ⊢;cases j:ops[i]? with
 |none=>rw[j] at b;exact b
 |some w=>
  rw[j] at b;simp only at b ⊢;split
  ·rename_i f;rw[if_pos f] at b;split
   ·rename_i g;rw[if_pos g] at b;obtain⟨v,k,h⟩:=b;refine⟨v,k,e _ _ _ _ h (λp c=>?_)⟩;rcases List.mem_cons.1 c with rfl|c
    ·exact AN
    ·exact An _ (d p c)
   ·rename_i g;rw[if_neg g] at b;intro l;refine(b l).mono ?_;rintro v x ⟨m,n,o,q,h⟩;exact⟨m,n,o,λp c=>q p (d p c),e _ _ _ _ h d⟩
  ·rename_i f;rw[if_neg f] at b;exact e _ _ _ _ b d
theorem Em.swap {i l:Nat}{c d:Oper}(s:ops[i]? =some c)(g:ops[l]? =some d)(L:c.apart ops d=true)(M:FE c)(N:FE d)
  (O:un ord i l=true) (o:qb d=true) {K:Kt} (R:lP K) {a:Act} {e:aa} {E:List (Nat×(aa->Prop))}
  (b:Em P A ops qb ord l (Em P A ops qb ord i K) a e E):Em P A ops qb ord i (Em P A ops qb ord l K) a e E:=by
 obtain⟨F,S,G⟩:=Oper.apart_spec L;have W:un ord l i=true:=by unfold un at *;rwa [P2,P3]
 have t: ∀u,execOp (a.put d.dst u).eval c=execOp a.eval c:=λu=>execOp_put c M a d.dst u G
 have T: ∀u,execOp (a.put c.dst u).eval d=execOp a.eval d:=λu=>execOp_put d N a c.dst u F
 have H: ∀u,Region.wanted c (yielded ops (a.put d.dst u).tmps)=Region.wanted c (yielded ops a.tmps):=λu=>wanted_put c a d.dst u G
 have j: ∀u,Region.wanted d (yielded ops (a.put c.dst u).tmps)=Region.wanted d (yielded ops a.tmps):=λu=>wanted_put d a c.dst u F
 have I: ∀u,dN P A c (a.put d.dst u).eval=dN P A c a.eval:=λu=>by funext v e;unfold dN;rw[t]
 have w: ∀u,dN P A d (a.put c.dst u).eval=dN P A d a.eval:=λu=>by funext v e;unfold dN;rw[T]
 have k: ∀v u,(a.put c.dst v).put d.dst u=(a.put d.dst u).put c.dst v:=λv u=>Act.put_comm a v u S
 unfold Em at b ⊢;rw[g] at b;rw[s];simp only at b ⊢;by_cases f:Region.wanted d (yielded ops a.tmps)=true
 ·rw[if_pos f] at b;rw[if_pos o] at b;obtain⟨x,J,b⟩:=b;rw[s] at b;simp only[H,I] at b;by_cases m:Region.wanted c (yielded ops a.tmps)=true
  ·rw[if_pos m] at b ⊢;by_cases n:qb c=true
   ·rw[if_pos n] at b ⊢;obtain⟨q,y,b⟩:=b;refine⟨q,y,?_⟩;rw[g];simp only[j,w];rw[if_pos f,if_pos o];refine⟨x,J,?_⟩;rw[k];exact R _ _ _ _ b λp h=>by simp only[Hc] at h ⊢;rcases h with e|e|e<;>simp[e]
   ·rw[if_neg n] at b ⊢;intro z;have:=b z;unfold EV at this;rw[t] at this;refine EV.mono this ?_;rintro q U ⟨B,C,D,h,b⟩;refine⟨B,C,D,λp V=>h p (An _ V),?_⟩;rw[g];simp only[j,w];rw[if_pos f,if_pos o];refine⟨x,h _ AN O,?_⟩;rw[k];exact b
  ·rw[if_neg m] at b ⊢;rw[g];simp only[j,w];rw[if_pos f,if_pos o];exact⟨x,J,by rw[k];exact b⟩
 ·rw[if_neg f] at b;rw[s] at b;simp only[H,I] at b;by_cases m:Region.wanted c (yielded ops a.tmps)=true
  ·rw[if_pos m] at b ⊢;by_cases n:qb c=true
   ·rw[if_pos n] at b ⊢;obtain⟨q,y,b⟩:=b;refine⟨q,y,?_⟩;rw[g];simp only[j];rw[if_neg f,k];exact b
   ·rw[if_neg n] at b ⊢;intro z;have:=b z;unfold EV at this ⊢;rw[t] at this;refine Next.cA ?_ this;rintro v U ⟨B,C,D,h,b⟩;refine⟨B,C,D,h,?_⟩;rw[g];simp only[j];rw[if_neg f,k];exact b
  ·rw[if_neg m] at b ⊢;rw[g];simp only[j];rw[if_neg f,k];exact b
def Qc(ord:Nat->Nat->Bool)(l:List Nat)(i:Nat):Bool:=l.all λa=> !ord i a
def Sz(ops:Array Oper)(qb:Oper->Bool)(i:Nat):Bool:=match ops[i]? with|some a=>qb a|none=>false
def kD(ops:Array Oper)(qb:Oper->Bool)(ord:Nat->Nat->Bool)(l:List Nat):Option Nat:=l.find? λi=>Sz ops qb i&&Qc ord l i
def FT(P:Q1)(A:al)(ops:Array Oper)(qb:Oper->Bool)(ord:Nat->Nat->Bool)(Q:Act->aa->Prop):Nat->List Nat->Kt
 |_,[]=>λa b _=>Q a b
 |0,_::_=>λ_ _ _=>False
 |k+1,x::l=>λa b c=>
  match kD ops qb ord (x::l) with
  |some i=>Em P A ops qb ord i (FT P A ops qb ord Q k ((x::l).erase i)) a b c
  |none=> ∀i∈x::l,Qc ord (x::l) i=true->Em P A ops qb ord i (FT P A ops qb ord Q k ((x::l).erase i)) a b c
variable {Q : Act -> aa -> Prop}
theorem FT.fq: ∀(k:Nat) (l:List Nat),lP (FT P A ops qb ord Q k l)
 |_,[]=>by intro a d _ _ b _;unfold FT at b ⊢;exact b
 |0,_::_=>by intro a d _ _ b _;unfold FT at b;exact b.elim
 |k+1,x::l=>by
  intro a d h j b e;unfold FT at b ⊢;split
  ·rename_i i c;rw[c] at b;exact Em.fq (FT.fq k _) _ _ _ _ b e
  ·rename_i c;rw[c] at b;exact λi f g=>Em.fq (FT.fq k _) _ _ _ _ (b i f g) e
def nK(ops:Array Oper)(qb:Oper->Bool)(ord:Nat->Nat->Bool):Bool:=
 (ops.toList.all λe=>IG e)&&
 (List.range ops.size).all λi=>
  match ops[i]? with
  |none=>false
  |some c=>
   (c.after.toList.all λa=> !Region.binds .any a||decide (a.on<i))&&
   (List.range ops.size).all λb=>
    match ops[b]? with
    |none=>false
    |some d=>
     if decide (b<i) then
      if ord i b then c.after.toList.any λa=>Region.binds .any a&&(a.on==b||(decide (b<a.on)&&ord a.on b))
      else(!(qb c||qb d))||(c.apart ops d&&d.apart ops c)
     else !ord i b
structure lQ (ops:Array Oper) (qb:Oper->Bool) (ord:Nat->Nat->Bool):Prop where
 nd: ∀(i:Nat) (o:Oper),ops[i]? =some o->IG o=true
 back: ∀(i:Nat) (o:Oper),ops[i]? =some o-> ∀e∈o.after,Region.binds .any e=true->e.on<i
 low: ∀i j,i<ops.size->j<ops.size->ord i j=true->j<i
 pair: ∀(i j:Nat) (oi oj:Oper),ops[i]? =some oi->ops[j]? =some oj->j<i->
   (ord i j=true/\ ∃e∈oi.after,Region.binds .any e=true/\(e.on=j\/(j<e.on/\ord e.on j=true)))\/
   (ord i j=false/\(qb oi=true\/qb oj=true->oi.apart ops oj=true/\oj.apart ops oi=true))
theorem AG5(b:nK ops qb ord=true):lQ ops qb ord:=by
 unfold nK at b;simp only[A3,CI,Hh] at b;obtain⟨n,h⟩:=b;refine⟨λi m a=>n m (by rw[LS];exact IH a),λi m a j k l=>?_,λi c f g a=>?_,λi c u v f g o=>?_⟩
 ·have e:i<ops.size:=(Array.getElem?_eq_some_iff.1 a).1;have:=h i e;rw[a] at this;simp only[A3,CI,Cp,CA,decide_eq_true_eq] at this;exact(this.1 j (by simpa using k)).resolve_left (by simp[l])
 ·have p:ops[i]? =some ops[i]:=CD f;have q:ops[c]? =some ops[c]:=CD g;have:=h i f;rw[p] at this;simp only[A3,CI,Hh] at this;have:=this.2 c g;rw[q] at this;simp only at this;by_cases e:c<i
  ·exact e
  ·rw[if_neg (by simpa using e),a] at this;cases this
 ·have e:i<ops.size:=(Array.getElem?_eq_some_iff.1 f).1;have s:c<ops.size:=(Array.getElem?_eq_some_iff.1 g).1;have:=h i e;rw[f] at this;simp only[A3,CI,Hh] at this;have:=this.2 c s;rw[g] at this;simp only at this;rw[if_pos (by simpa using o)] at this;cases a:ord i c with
  |true=>
   rw[a] at this;simp only[if_true,Pc,A3,Cp,beq_iff_eq,decide_eq_true_eq] at this;obtain⟨j,k,l,t⟩:=this;exact .inl ⟨rfl,j,by simpa using k,l,t⟩
  |false=>
   rw[a] at this;simp only[Cl,if_false,A3,Cp,CA,Hk] at this;refine .inr ⟨rfl,λd=>?_⟩;rcases this with b|b
   ·rcases d with d|d
    ·rw[b.1] at d;cases d
    ·rw[b.2] at d;cases d
   ·exact b
theorem XW {l:List Nat}{i a:Nat}(b:Qc ord l i=true)(c:a∈l):ord i a=false:=by unfold Qc at b;simp only[CI,CA] at b;exact b a c
theorem Qm {l:List Nat}{i b:Nat}(a:Qc ord l i=true):Qc ord (l.erase b) i=true:=by unfold Qc at a ⊢;simp only[CI] at a ⊢;exact λx c=>a x (A0k c)
theorem Rc {l:List Nat}{a:Nat}(b:kD ops qb ord l=some a):a∈l/\Sz ops qb a=true/\Qc ord l a=true:=by unfold kD at b;have d:=IS b;have c:=IN b;simp only[A3] at c;exact⟨d,c.1,c.2⟩
theorem AJa {l:List Nat}(b:kD ops qb ord l=none){a:Nat}(c:a∈l)(d:Sz ops qb a=true):Qc ord l a=false:=by unfold kD at b;have:=List.find?_eq_none.1 b a c;simp only[d,Ek] at this;simpa using this
theorem uN {i:Nat}(a:Sz ops qb i=true): ∃b,ops[i]? =some b/\qb b=true:=by
 unfold Sz at a;cases c:ops[i]? with
 |none=>rw[c] at a;cases a
 |some b=>rw[c] at a;exact⟨b,rfl,a⟩
theorem lQ.swap(g:lQ ops qb ord){i b:Nat}(n:i≠b)(w:i<ops.size)(l:Sz ops qb b=true)(o:ord i b=false)(p:ord b i=false){K:Kt}(q:lP K){a:Act}{h:aa}
  {j:List (Nat×(aa->Prop))}:
  (Em P A ops qb ord b (Em P A ops qb ord i K) a h j->Em P A ops qb ord i (Em P A ops qb ord b K) a h j)/\
  (Sz ops qb i=true->Em P A ops qb ord i (Em P A ops qb ord b K) a h j->Em P A ops qb ord b (Em P A ops qb ord i K) a h j):=by
 obtain⟨k,e,m⟩:=uN l;have d:ops[i]? =some ops[i]:=CD w;have s:=NP (g.nd _ _ d);have t:=NP (g.nd _ _ e);have u:(ops[i]).apart ops k=true/\k.apart ops (ops[i])=true:=by
  rcases N4 n with f|f
  ·rcases g.pair b i k _ e d f with⟨c,_⟩|⟨_,c⟩
   ·rw[p] at c;cases c
   ·exact(c (.inl m)).symm
  ·rcases g.pair i b _ k d e f with⟨c,_⟩|⟨_,c⟩
   ·rw[o] at c;cases c
   ·exact c (.inr m)
 have x:un ord i b=true:=by
  unfold un;rcases N4 n with f|f
  ·rw[Nat.max_eq_right (by omega),GO (by omega),p];rfl
  ·rw[Nat.max_eq_left (by omega),Pl (by omega),o];rfl
 have y:un ord b i=true:=by unfold un at *;rwa [P2,P3]
 exact⟨Em.swap d e u.1 s t x m q,λz=>Em.swap e d u.2 t s y (by obtain⟨B,v,l⟩:=uN z;rw[d] at v;cases v;exact l) q⟩
theorem FT.both(D:lQ ops qb ord): ∀(j:Nat) (l:List Nat),l.length=j+1->(∀ i∈l,i<ops.size)-> ∀(i:Nat),i∈l->Qc ord l i=true->
  (∀ a c d,FT P A ops qb ord Q (j+1) l a c d->Em P A ops qb ord i (FT P A ops qb ord Q j (l.erase i)) a c d)/\
  (Sz ops qb i=true-> ∀a c d,Em P A ops qb ord i (FT P A ops qb ord Q j (l.erase i)) a c d->FT P A ops qb ord Q (j+1) l a c d):=by
 intro j
 induction j with
 |zero=>
  intro l s t i f m;obtain⟨x,rfl⟩:=List.length_eq_one_iff.1 s;have:i=x:=by simpa using f
  subst this;constructor
  ·intro a c d e;unfold FT at e;split at e
   ·rename_i b h;have:=(Rc h).1;have:b=i:=by simpa using this
    subst this;exact e
   ·exact e i (by simp) m
  ·intro h a c d e;unfold FT;split
   ·rename_i b B;have:=(Rc B).1;have:b=i:=by simpa using this
    subst this;exact e
   ·intro E F _;have:E=i:=by simpa using F
    subst this;exact e
 |succ j u=>
  intro l s t i f m;obtain⟨x,g,rfl⟩: ∃x g,l=x::g:=by cases l with|nil=>cases s|cons x g=>exact⟨x,g,rfl⟩
  have v: ∀ {b},b∈x::g->((x::g).erase b).length=j+1:=λh=>by rw[A0l h,s];rfl
  have w: ∀ {b},∀i∈(x::g).erase b,i<ops.size:=λi f=>t i (A0k f)
  have y: ∀ {p b},p∈x::g->p≠b->p∈(x::g).erase b:=λG H=>(List.mem_erase_of_ne H).2 G
  constructor
  ·intro a c d e;unfold FT at e;split at e
   ·rename_i b h;obtain⟨n,z,o⟩:=Rc h;by_cases k:b=i
    ·subst k;exact e
    ·have C:=Em.mono (λa c d=>(u ((x::g).erase b) (v n) w i (y f (Ne.symm k)) (Qm m)).1 a c d) e;have q:=(D.swap (Ne.symm k) (t i f) z (XW m n) (XW o f) (FT.fq _ _)).1 C;rw[List.erase_comm] at q;exact Em.mono (λa c d=>(u ((x::g).erase i) (v f) w b (y n k) (Qm o)).2 z a c d) q
   ·exact e i f m
  ·intro h a c d e;unfold FT;split
   ·rename_i b B;obtain⟨n,z,o⟩:=Rc B;by_cases k:b=i
    ·subst k;exact e
    ·have C:=Em.mono (λa c d=>(u ((x::g).erase i) (v f) w b (y n k) (Qm o)).1 a c d) e;have q:=(D.swap (Ne.symm k) (t i f) z (XW m n) (XW o f) (FT.fq _ _)).2 h C;rw[List.erase_comm] at q;exact Em.mono (λa c d=>(u ((x::g).erase b) (v n) w i (y f (Ne.symm k)) (Qm m)).2 h a c d) q
   ·rename_i I;have:=AJa I f h;rw[m] at this;cases this
theorem AIs {a i:Nat}{listed:Array Bool}(b:i<a)(c:listed.size=a)(d:listed.getD i false=false):left a (listed.setIfInBounds i true)=(left a listed).erase i:=by obtain⟨j,k,e,f,g⟩:=sd b c d;rw[f,e,List.erase_append_right _ (λh=>by have:=(g i h).1;omega)];simp
theorem FT.any {m:Nat}{K:Exit->Act->World->Prop}(Y: ∀a f e,Q a f->K .normal a (A.at f e))(n:lQ ops qb ord):
  ∀(fuel:Nat) (listed:Array Bool) (a:Act) (f:aa) (aA:List (Nat×(aa->Prop))),(left ops.size listed).length=fuel->listed.size=ops.size->
   eG ord listed->FT P A ops qb ord Q fuel (left ops.size listed) a f aA-> ∀e,wpAnyIn (Fw r) m P .any ops K fuel listed a (A.at f e):=by
 intro fuel
 induction fuel with
 |zero=>
  intro listed a f aA s B _ u e;have o:left ops.size listed= []:=CC s;refine⟨?_,?_⟩
  ·rcases C:Region.ready .any ops listed with _|⟨i,t⟩
   ·rfl
   ·exfalso;have g:i∈Region.ready .any ops listed:=by rw[C];exact AN
    obtain⟨w,al,h,_⟩:=mem_ready.1 g;have j:i<ops.size:=(Array.getElem?_eq_some_iff.1 h).1;have:i∈left ops.size listed:=mem_left.2 ⟨j,by rw[<- Ub (by omega)];exact w⟩;rw[o] at this;cases this
  ·rw[o] at u;unfold FT at u;exact Y _ _ _ u
 |succ fuel D=>
  intro listed a f aA s B L u e;refine⟨λC=>?_,λi g=>?_⟩
  ·exfalso;have Z: ∀k i,i<k->i∈left ops.size listed->False:=by
    intro k
    induction k with
    |zero=>intro i g;omega
    |succ k ab=>
     intro i _ g;obtain⟨j,w⟩:=mem_left.1 g;have h:ops[i]? =some ops[i]:=CD j;by_cases x: ∀d∈ops[i].after,Region.binds .any d=true->listed.getD d.on false=true
     ·have:i∈Region.ready .any ops listed:=mem_ready.2 ⟨by rw[Ub (by omega)];exact w,_,h,x⟩;rw[C] at this;cases this
     ·simp only[Classical.not_forall] at x;obtain⟨d,o,l,E⟩:=x;have am:=n.back i _ h d o l;exact ab d.on (by omega) (mem_left.2 ⟨by omega,by simpa using E⟩)
   have E:left ops.size listed≠ []:=by intro d;rw[d] at s;simp at s
   obtain⟨i,g⟩:=TX _ E;exact Z (i+1) i (by omega) g
  ·obtain⟨w,z,p,x⟩:=mem_ready.1 g;have j:i<ops.size:=(Array.getElem?_eq_some_iff.1 p).1;have M:listed.getD i false=false:=by rw[<- Ub (by omega)];exact w
   have N: ∀b,b<i->listed.getD b false=false->ord i b=false:=by
    intro b y q;have ac:ops[b]? =some ops[b]:=CD (by omega);rcases n.pair i b z _ p ac y with⟨_,d,o,l,F⟩|⟨F,_⟩
    ·exfalso;have O:=x d o l;rcases F with rfl|⟨ad,ae⟩
     ·rw[O] at q;cases q
     ·have:=L d.on b O ad ae;rw[this] at q;cases q
    ·exact F
   have R:i∈left ops.size listed:=mem_left.2 ⟨j,M⟩;have af:Qc ord (left ops.size listed) i=true:=by
    unfold Qc;simp only[CI,CA];intro b y;obtain⟨ag,ah⟩:=mem_left.1 y;cases l:ord i b with
    |false=>rfl
    |true=>rw[N b (n.low i b j ag l) ah] at l;cases l
   have c:=(FT.both (Q:=Q) (P:=P) (A:=A) n fuel _ s (λb y=>(mem_left.1 y).1) i R af).1 a f aA u;have G:eG ord (listed.setIfInBounds i true):=by
    intro k b S T h;by_cases U:b=i
    ·subst U;have:b<listed.size:=by omega
     simp[this]
    ·rw[getD_set_ne false (Ne.symm U)];by_cases V:k=i
     ·subst V;cases q:listed.getD b false with
      |true=>rfl
      |false=>rw[N b T q] at h;cases h
     ·rw[getD_set_ne false (Ne.symm V)] at S;exact L k b S T h
   have W:=AIs j B M;have H:(left ops.size (listed.setIfInBounds i true)).length=fuel:=by rw[W,A0l R];omega
   have I:(listed.setIfInBounds i true).size=ops.size:=by simp[B]
   rw[<- W] at c;unfold Em at c;rw[p] at c;unfold wpOpIn;simp only[p];split
   ·rename_i J;simp only[J,if_true] at c;by_cases X:qb z=true
    ·rw[if_pos X] at c;obtain⟨v,ai,c⟩:=c;refine EV.wpIn (n.nd i z p) ?_;unfold EV;rw[ai e];exact D _ _ _ _ H I G c e
    ·rw[if_neg X] at c;refine EV.wpIn (n.nd i z p) ((c e).mono ?_);rintro v an ⟨ao,aj,rfl,_,ak⟩;exact D _ _ _ _ H I G ak aj
   ·rename_i J;simp only at c;rw[if_neg J] at c;exact⟨λ_ _=>trivial,D _ _ _ _ H I G c e⟩
theorem Zd {id m:Nat}{d:Exit->Act->World->Prop}(f: ∀a b c,Q a b->d .normal a (A.at b c))(g:P.follows .mixedOrders=true)
  (h:nK ops qb ord=true) {a:Act} {b:aa} {c:Nat} (i:FT P A ops qb ord Q ops.size (List.range ops.size) a b []):(Code.region id ops true).wpIn (Fw r) m P d a (A.at b c):=by
 refine wpIn_region_any g ?_;have e:=se ops.size;refine FT.any (Q:=Q) (ord:=ord) (qb:=qb) (aA:= []) f (AG5 h) _ _ _ b (by rw[e];simp) (by simp) ?_ (by rw[e];exact i) (c+1);intro j l k;exfalso;by_cases b:j<ops.size<;>simp[b] at k
end
inductive Cls where
 |pure|load|fi
def cls(P:Q1)(b:Oper):Cls:=
 match b.op with
 | .load _ _=> .load
 | .binOp d t x e _=>match UA P d t x e with| .no=> .fi|_=> .pure
 | .convert s a _=>match P.underlying s with
  |some (.int _)=>(match P.underlying a with|some (.int _)=> .pure|_=> .fi)
  |some .string=>(match P.underlying a with|some .string=> .pure|_=> .fi)
  |_=> .fi
 | .call c=>match c.callee with
  | .builtin .min=>(match c.argTypes[0]? with
   |some t=>(match P.underlying t with|some (.float _)=> .fi|_=> .pure)
   |none=> .pure)
  | .builtin .max=>(match c.argTypes[0]? with
   |some t=>(match P.underlying t with|some (.float _)=> .fi|_=> .pure)
   |none=> .pure)
  | .builtin .cap=> .pure
  | .builtin .len=>(match c.argTypes[0]? with
   |some t=>(match P.underlying t with|some (.map _ _)=> .fi|_=> .pure)
   |none=> .fi)
  |_=> .fi
 | .move _| .assign _| .pick .. | .build .. | .nilCheck _| .unOp .. | .makeInterface .. | .makeFunc .. | .fieldAddr .. | .field .. | .indexAddr .. | .index .. | .slice .. | .extract .. => .pure
 |_=> .fi
def gI(A:al)(P:Q1)(m:Sem Unit)(b:aa)(K:aa->Prop):Prop:= ∀c,∃a d,m.run P (A.at b c)= .ok () (A.at a d)/\K a
def Jz(a:Env)(l:Array Operand):Array J0:=(l.toList.map (ρof a)).toArray
def AQc(P:Q1)(f:Q8):Bool:=match P.funcs[f]? with|some fn=>(match fn.body with|none=>true|some _=>false)|none=>false
def ng(A:al)(P:Q1)(f:Q8)(args:Array J0)(b:aa)(K:A2O):Prop:= ∀c,∃v a d,(callFunc f args).run P (A.at b c)= .ok (.value v) (A.at a d)/\K v a
def pO(A:al)(P:Q1)(d:Oper)(c:Call)(e:Env)(g:aa)(K:A2O):Prop:=
 match c.callee with
 | .value (.func f)=>known e c.args.toList (match AQc P f with
  |true=>ng A P f (Jz e c.args) g λv a=>PY P d.type v λv=>K v a
  |false=>Ro P (callFunc f (Jz e c.args)) λx=>match x with
   | .enter h i=>AA A P h i g λv a=>PY P d.type v λv=>K v a
   |_=>False)
 | .value x=>rd e x λfv=>known e c.args.toList (Du A P fv (Jz e c.args) g λv a=>PY P d.type v λv=>K v a)
 | .builtin b=>known e c.args.toList (match b with
  | .append=>BI A P (Builtin.append_ c.argTypes d.type (Jz e c.args)) g λv a=>PY P d.type v λv=>K v a
  | .copy=>BI A P (Builtin.copy_ c.argTypes d.type (Jz e c.args)) g λv a=>PY P d.type v λv=>K v a
  | .delete=>BI A P (Builtin.delete_ c.argTypes d.type (Jz e c.args)) g λv a=>PY P d.type v λv=>K v a
  | .clear=>BI A P (Builtin.clear_ c.argTypes d.type (Jz e c.args)) g λv a=>PY P d.type v λv=>K v a
  | .len=>BI A P (Builtin.len_ c.argTypes d.type (Jz e c.args)) g λv a=>PY P d.type v λv=>K v a
  | .real=>BI A P (Builtin.real_ c.argTypes d.type (Jz e c.args)) g λv a=>PY P d.type v λv=>K v a
  | .imag=>BI A P (Builtin.imag_ c.argTypes d.type (Jz e c.args)) g λv a=>PY P d.type v λv=>K v a
  | .complex=>BI A P (Builtin.complex_ c.argTypes d.type (Jz e c.args)) g λv a=>PY P d.type v λv=>K v a
  | .min=>BI A P (Builtin.min_ c.argTypes d.type (Jz e c.args)) g λv a=>PY P d.type v λv=>K v a
  | .max=>BI A P (Builtin.max_ c.argTypes d.type (Jz e c.args)) g λv a=>PY P d.type v λv=>K v a
  |_=>False)
 |_=>False
def UX(a:Q6):aa->Nat->List J0->(aa->Prop)->Prop
 |h,_,[],K=>K h
 |h,i,v::b,K=>YU (LP v) (ab h (a.add i) v λc=>UX a c (i+1) b K)
def pP(P:Q1)(t:Q7)(c v:J0)(d:aa)(K:aa->Prop):Prop:=
 match c with
 | .pointer p=>At p λa=>match P.info? t with
  |some i=>lx P t v λb=>match Nat.beq b.size i.size with
   |true=>UX a d 0 b.toList K
   |false=>False
  |none=>False
 |_=>False
def ASw(P:Q1)(t:Q7)(v:J0)(a:aa)(K:A2O):Prop:=
 lx P t v λc=>ak a (.cells c t) λb d=>K (.pointer (some ⟨b,0,none⟩)) d
def rowOf(P:Q1)(b:Q7)(len:Nat)(c:List (Nat×Array J0)):Option (Array J0):=
 match P.info? b with
 |some a=>match a.zero with
  |some z=>match Nat.ble (len*a.size) (2^24) with
   |true=>ka (λi=>some (i*a.size,a.size)) ((Array.range (len*a.size)).map (z.cells[· % z.cells.size]!)) c
   |false=>none
  |none=>none
 |none=>none
def tx(P:Q1)(t:Q7)(len:Nat)(c:Array (Nat×Operand))(d:Env)(e:aa)(K:A2O):Prop:=
 match P.underlying t with
 |some (.slice a)=>ly P t d c.toList λl=>match rowOf P a len l with
  |some cells=>ak e (.cells cells a) λb f=>K (.slice (some ⟨b,0,none⟩) len len) f
  |none=>False
 |_=>False
def RJ(ops:List Oper)(b:Option Tmp)(a:Nat):Option Q7:=
 match b with
 |none=>none
 |some t=>match ops with
  | []=>none
  |o::r=>match o.op with
   | .extract (.tmp t') c=>(match Nat.beq t' t with|true=>(match Nat.beq c a with|true=>some o.type|false=>RJ r (some t) a)|false=>RJ r (some t) a)
   |_=>RJ r (some t) a
def jD(P:Q1)(t:Option Q7)(v:J0)(K:J0->Prop):Prop:=
 match t with
 |none=>K v
 |some t=>PY P t v K
theorem Le {P:Q1}{t:Option Q7}{v:J0}{K:J0->Prop}(a:jD P t v K):K v:=by
 cases t with
 |none=>exact a
 |some t=>exact Od a
def jE(A:al)(P:Q1)(ops:Array Oper)(f:Oper)(d:Env)(g:aa)(K:A2O):Prop:=
 match f.op with
 | .call c=>pO A P f c d g K
 | .makeSlice t l c=>rd d l λl=>rd d c λc=>BI A P (Instr.makeSlice t l c) g λv a=>PY P f.type v λv=>K v a
 | .lookup t x i ok=>rd d x λx=>rd d i λi=>BI A P (Instr.lookup t x i ok) g λv a=>PY P f.type v λv=>K v a
 | .mapUpdate t m e x=>rd d m λm=>rd d e λe=>rd d x λx=>gI A P (Instr.mapUpdate t m e x) g λa=>K undef a
 | .mapEntry t m e=>rd d m λm=>rd d e λe=>BI A P (Instr.mapEntry t m e) g λv a=> ∃e u:J0,v= .tuple #[e,u]/\jD P (RJ ops.toList f.dst 0) e λe=>jD P (RJ ops.toList f.dst 1) u λu=>K (.tuple #[e,u]) a
 | .entryStore t m s x=>rd d m λm=>rd d s λs=>rd d x λx=>gI A P (Instr.entryStore t m s x) g λa=>K undef a
 | .convert s k x=>rd d x λx=>BI A P (convert s k x) g λv a=>PY P f.type v λv=>K v a
 | .binOp j t x h _=>rd d x λv=>rd d h λu=>BI A P (do eqGuard j t x h v u;binOp j t v u) g λv a=>PY P f.type v λv=>K v a
 | .typeAssert x t u ok=>rd d x λx=>BI A P (Instr.typeAssert x t u ok) g λv a=>PY P f.type v λv=>K v a
 | .store t x h=>rd d x λn=>rd d h λv=>pP P t n v g λa=>K undef a
 | .box t x=>rd d x λv=>ASw P t v g K
 | .buildSlice t len o=>tx P t len o d g K
 | .range t x=>rd d x λx=>BI A P (Instr.range t x) g λv a=> ∃b:Nat,v= .pointer (some ⟨b,0,none⟩)/\K (.pointer (some ⟨b,0,none⟩)) a
 | .next x s=>rd d x λx=>BI A P (Instr.next x s f.type) g λv a=>(v= .tuple #[.bool false]/\K (.tuple #[.bool false]) a)\/(∃ e u:J0,v= .tuple #[.bool true,e,u]/\jD P (RJ ops.toList f.dst 1) e λe=>jD P (RJ ops.toList f.dst 2) u λu=>K (.tuple #[.bool true,e,u]) a)
 | .entry x=>rd d x λx=>BI A P (Instr.entry x) g λv a=> ∃e u:J0,v= .tuple #[e,u]/\jD P (RJ ops.toList f.dst 0) e λe=>jD P (RJ ops.toList f.dst 1) u λu=>K (.tuple #[e,u]) a
 | .alloc .. | .makeMap .. =>known d f.op.operands.toList (Sem.vc P (execOp (ρof d) f) g λx a=>match x with
  | .value v=>K v a
  | .skip=>K undef a
  |_=>False)
 |_=>False
theorem Yf {N:Nat}{a:Act}{b:Env}(d:Fits N a b){l:Array Operand}(c: ∀x∈l.toList,ρof b x=a.eval x):Jz b l=l.map a.eval:=by unfold Jz;rw[CM c];apply Array.toList_inj.1;rw[Array.toList_map]
section
variable {P : Q1} {A : al}
theorem HY {b:Oper}{e:Operand->J0}{s:Sem J0}{f:aa}{K:A2O}(g:execOp e b=do pure (.value (<- s)))
  (h:BI A P s f λv a=>PY P b.type v λv=>K v a): ∀c,EV P b e (A.at f c) λv i=> ∃a d,i=A.at a d/\K v a:=by
 intro c;obtain⟨v,a,d,j,hd⟩:=h c;unfold EV;rw[g,iN j];exact⟨a,d,rfl,Od hd⟩
theorem Wt {d:Oper}{e:Operand->J0}{s:Sem J0}{f:aa}{K g:A2O}(h:execOp e d=do pure (.value (<- s)))
  (i:BI A P s f g) (j: ∀v a,g v a->K v a): ∀b,EV P d e (A.at f b) λv k=> ∃a c,k=A.at a c/\K v a:=by
 intro b;obtain⟨v,a,c,l,hd⟩:=i b;unfold EV;rw[h,iN l];exact⟨a,c,rfl,j _ _ hd⟩
theorem pQ {d:Oper}{e:Operand->J0}{s:Sem Unit}{f:aa}{K:A2O}(g:execOp e d=do s;pure .skip)
  (h:gI A P s f λa=>K undef a): ∀b,EV P d e (A.at f b) λv i=> ∃a c,i=A.at a c/\K v a:=by
 intro b;obtain⟨a,c,j,hd⟩:=h b;unfold EV;rw[g,ASf j];exact⟨a,c,rfl,hd⟩
theorem AIg {N:Nat}{a:Act}{u:Env}(l:Fits N a u){n:Oper}{c:Call}(h:n.op= .call c){k:aa}{K:A2O}(d:pO A P n c u k K):
  ∀g,EV P n a.eval (A.at k g) λv o=> ∃i j,o=A.at i j/\K v i:=by
 have y: ∀ {fv:J0} {s:A2O} {x:Operand},c.callee= .value x->a.eval x=fv->Du A P fv (c.args.map a.eval) k s->
   ∀g,EV P n a.eval (A.at k g) λv o=> ∃i j,o=A.at i j/\s v i:=by
  intro fv s x e t z g;have:=z g;unfold EV;have p:execOp a.eval n=(do let w <-Deferred.ofValue fv (c.args.map a.eval);invoke w.target w.args:Sem Next):=by simp only[execOp,h,resolve,e,t]
  rw[p];exact this
 unfold pO at d;split at d
 ·rename_i f e;obtain⟨q,d⟩:=KH l d;rw[Yf l q] at d;split at d
  ·intro g;obtain⟨v,i,j,B,hd⟩:=d g;have p:(execOp a.eval n).run P (A.at k g)= .ok (.value v) (A.at i j):=by simp only[execOp,h,resolve,e,Act.eval,Deferred.ofValue];simp only[Sem.run_bind,Sem.run_pure,Result.andThen_ok,invoke];simpa using B
   unfold EV;rw[p];exact⟨i,j,rfl,Od hd⟩
  ·obtain⟨x,t,d⟩:=MJ d;split at d
   ·rename_i C D;intro g;have p:(execOp a.eval n).run P (A.at k g)= .ok (.enter C D) (A.at k g):=by simp only[execOp,h,resolve,e,Act.eval,Deferred.ofValue];simp only[Sem.run_bind,Sem.run_pure,Result.andThen_ok,invoke];have:=t (A.at k g);simpa using this
    unfold EV;rw[p];refine Calls.mono (d g) ?_;rintro E o ⟨v,rfl,i,j,rfl,hd⟩;exact⟨v,rfl,i,j,rfl,Od hd⟩
   ·exact d.elim
 ·rename_i x e;have d:=BN l d;obtain⟨q,d⟩:=KH l d;rw[Yf l q] at d;intro g;refine EV.mono (y e rfl d g) ?_;rintro v o ⟨i,j,rfl,hd⟩;exact⟨i,j,rfl,Od hd⟩
 ·rename_i b e;obtain⟨q,d⟩:=KH l d;rw[Yf l q] at d;split at d
  ·exact HY (by simp only[execOp,h,resolve,e];rfl) d
  ·exact HY (by simp only[execOp,h,resolve,e];rfl) d
  ·exact HY (by simp only[execOp,h,resolve,e];rfl) d
  ·exact HY (by simp only[execOp,h,resolve,e];rfl) d
  ·exact HY (by simp only[execOp,h,resolve,e];rfl) d
  ·exact HY (by simp only[execOp,h,resolve,e];rfl) d
  ·exact HY (by simp only[execOp,h,resolve,e];rfl) d
  ·exact HY (by simp only[execOp,h,resolve,e];rfl) d
  ·exact HY (by simp only[execOp,h,resolve,e];rfl) d
  ·exact HY (by simp only[execOp,h,resolve,e];rfl) d
  ·exact d.elim
 ·exact d.elim
theorem Xc {A:al}{a:Q6}: ∀ {l:List J0} {b:aa} {i:Nat} {K:aa->Prop},UX a b i l K-> ∀n,∃d,(storeCells a l i).run P (A.at b n)= .ok () (A.at d n)/\K d
 | [],b,i,K,c,n=>⟨b,rfl,c⟩
 |v::s,b,i,K,c,n=>by
  unfold UX at c;cases e:LP v with
  |false=>rw[e] at c;exact c.elim
  |true=>
   rw[e] at c;obtain⟨⟨u,g⟩,h,j⟩:=c;obtain⟨d,k,o⟩:=Xc j n;refine⟨d,?_,o⟩;have p:=su (A:=A) (P:=P) (m:= .plain) (f:=(.pure ():Sem Unit)) (n:=n) e g h;simp only[storeCells,Sem.run_bind];have q:(store (a.add i) v).run P (A.at b n)= .ok () (A.at (dc b (a.add i) v) n):=p;rw[q];exact k
theorem AHK {A:al}{t:Q7}{f v:J0}{g:aa}{K:aa->Prop}(b:pP P t f v g K):gI A P (Instr.storeAt t f v) g K:=by
 intro h;unfold pP at b;split at b
 ·rename_i p;obtain⟨a,rfl,c⟩:=At.mk b;split at c
  ·rename_i n i;have d:=Qg c;split at d
   ·rename_i e;have e:=Jx e;obtain⟨j,k,l⟩:=Xc (P:=P) (A:=A) d h;refine⟨j,h,?_,l⟩;simp[Instr.storeAt,Instr.sureAddr,storeVar,run_sizeOf i,e,k]
   ·exact d.elim
  ·exact c.elim
 ·exact b.elim
theorem AQm {A:al}{t:Q7}{v:J0}{a:aa}{b:Nat}:(Instr.box t v).run P (A.at a b)= .ok (.pointer (some ⟨a.size,0,none⟩)) (A.at (a.push (.cells v.cells t)) b):=rfl
theorem APs {A:al}{t c:Q7}(j:P.underlying t=some (.slice c)){len:Nat}{d:Array (Nat×J0)}{cells:Array J0}{h:aa}{n:Nat}
  (a:rowOf P c len (d.toList.map λp=>(p.1,p.2.cells))=some cells):
  (Instr.buildSlice t len d).run P (A.at h n)= .ok (.slice (some ⟨h.size,0,none⟩) len len) (A.at (h.push (.cells cells c)) n):=by
 unfold rowOf at a;split at a
 ·rename_i b f;split at a
  ·rename_i z k;split at a
   ·rename_i g;have g:=Xs g;rw[<- mR] at a;have l: ¬(len*b.size>2^24):=by omega
    unfold Instr.buildSlice;simp only[Sem.run_bind,BH j,Result.andThen_ok,run_sizeOf f,if_neg l];by_cases e:len*b.size=0
    ·have o:Instr.fill (λi=>some (i*b.size,b.size)) ((Array.range (len*b.size)).map ((#[]:Array J0)[· % (#[]:Array J0).size]!)) d.toList=some cells:=by rw[<- a];congr 1;simp[e]
     rw[if_pos e];simp only[Sem.run_bind,Sem.run_pure,Result.andThen_ok,o];rfl
    ·rw[if_neg e];have q:(zeroValue c).run P (A.at h n)= .ok z (A.at h n):=by simp[zeroValue,sx f,k]
     simp only[Sem.run_bind,q,Sem.run_pure,Result.andThen_ok,a];rfl
   ·cases a
  ·cases a
 ·cases a
theorem ZU {N:Nat}{a:Act}{q:Env}(f:Fits N a q){ops:Array Oper}{j:Oper}{h:aa}{K:A2O}(e:jE A P ops j q h K):
  ∀n,EV P j a.eval (A.at h n) λv y=> ∃g o,y=A.at g o/\K v g:=by
 have z:FE j->known q j.op.operands.toList (Sem.vc P (execOp (ρof q) j) h λx g=>match x with
   | .value v=>K v g
   | .skip=>K undef g
   |_=>False)-> ∀n,EV P j a.eval (A.at h n) λv y=> ∃g o,y=A.at g o/\K v g:=by
  intro C e n;obtain⟨D,e⟩:=KH f e;obtain⟨x,g,o,B,e⟩:=zU (A:=A) e n;rw[execOp_congr j C (λx E=>D x (by simpa using E))] at B;unfold EV;rw[B];split at e
  ·exact⟨g,o,rfl,e⟩
  ·exact⟨g,o,rfl,e⟩
  ·exact e.elim
 unfold jE at e;split at e
 ·rename_i c d;exact AIg f d e
 ·rename_i t l c d;exact HY (by simp only[execOp,d]) (BN f (BN f e))
 ·rename_i t x i ok d;exact HY (by simp only[execOp,d]) (BN f (BN f e))
 ·rename_i t m w x d;exact pQ (by simp only[execOp,d]) (BN f (BN f (BN f e)))
 ·rename_i t m w d;refine Wt (by simp only[execOp,d]) (BN f (BN f e)) ?_;rintro v g ⟨w,u,rfl,h⟩;exact Le (Le h)
 ·rename_i t m s x d;exact pQ (by simp only[execOp,d]) (BN f (BN f (BN f e)))
 ·rename_i s I x d;exact HY (by simp only[execOp,d]) (BN f e)
 ·rename_i J t x F _ d;exact HY (by simp only[execOp,d]) (BN f (BN f e))
 ·rename_i x t u ok d;exact HY (by simp only[execOp,d]) (BN f e)
 ·rename_i t x F d;exact pQ (by simp only[execOp,d]) (AHK (BN f (BN f e)))
 ·rename_i t x d;intro n;have p:=Qg (BN f e);unfold EV;simp only[execOp,d];rw[iN AQm];exact⟨_,_,rfl,p⟩
 ·rename_i t len L d;intro n;unfold tx at e;split at e
  ·rename_i M G;have p:=RV f e;split at p
   ·rename_i cells k;unfold EV;simp only[execOp,d];rw[iN (APs (A:=A) (n:=n) (h:=h) G (cells:=cells) (by rw[<- k];congr 1;simp))];exact⟨_,_,rfl,p⟩
   ·exact p.elim
  ·exact e.elim
 ·rename_i t x d;refine Wt (by simp only[execOp,d]) (BN f e) ?_;rintro v g ⟨b,rfl,h⟩;exact h
 ·rename_i x s d;refine Wt (by simp only[execOp,d]) (BN f e) ?_;rintro v g (⟨rfl,h⟩|⟨w,u,rfl,h⟩)
  ·exact h
  ·exact Le (Le h)
 ·rename_i x d;refine Wt (by simp only[execOp,d]) (BN f e) ?_;rintro v g ⟨w,u,rfl,h⟩;exact Le (Le h)
 ·rename_i d;exact z (λH b k=>by rw[d] at k;cases k) e
 ·rename_i d;exact z (λH b k=>by rw[d] at k;cases k) e
 ·exact e.elim
end
def lD:List Prop->Prop->Prop
 | [],K=>K
 |p::l,K=>p/\lD l K
theorem Nl: ∀ {l:List Prop} {K:Prop},lD l K->(∀ p∈l,p)/\K
 | [],_,a=>⟨λ_ b=>(by cases b),a⟩
 |p::l,_,⟨b,a⟩=>by
  obtain⟨d,e⟩:=Nl a;refine⟨λf c=>?_,e⟩;rcases List.mem_cons.1 c with rfl|c
  ·exact b
  ·exact d f c
def ARL(ord:Nat->Nat->Bool)(a:Bool)(i:Nat)(st:aa->Prop)(b:List (Nat×aa)):List Prop:=
 match a with|true=>(b.filter λp=>un ord i p.1).map λp=>st p.2|false=> []
def tz(ord:Nat->Nat->Bool)(a:Bool)(i:Nat)(b:aa)(c:List (Nat×(aa->Prop))):List Prop:=
 match a with|true=>(c.filter λp=>un ord i p.1).map λp=>p.2 b|false=> []
def ni(ops:Array Oper)(e:Oper)(a:Env)(c d:Env->Prop):Prop:=
 match e.guard with
 |none=>c a
 |some (f,h)=>match ops[f]? with
  |some i=>match i.dst with
   |some b=>match a.get b with
    |some (.bool g)=>match h with
     |true=>ae g (c (a.set b (.bool true))) (d (a.set b (.bool false)))
     |false=>ae g (d (a.set b (.bool true))) (c (a.set b (.bool false)))
    |some _=>d a
    |none=>False
   |none=>False
  |none=>False
def OW(A:al)(P:Q1)(N:Nat)(ops:Array Oper)(ord:Nat->Nat->Bool)(b:Bool):
  List Oper->Nat->Env->aa->List (Nat×(aa->Prop))->List (Nat×aa)->(Env->aa->Prop)->Prop
 | [],_,a,c,_,_,d=>d a c
 |o::rest,i,a,c,e,f,d=>
  match mO N o.dst with
  |false=>False
  |true=>ni ops o a
   (λa=>match cls P o with
    | .pure=>mS P o a λv=>OW A P N ops ord b rest (i+1) (a.put o.dst v) c e f d
    | .load=>nf P o a c λv st=>lD (ARL ord b i st f) (OW A P N ops ord b rest (i+1) (a.put o.dst v) c (match b with|true=>(i,st)::e|false=>e) f d)
    | .fi=>jE A P ops o a c λv g=>lD (tz ord b i g e) (OW A P N ops ord b rest (i+1) (a.put o.dst v) g e (match b with|true=>(i,c)::f|false=>f) d))
   (λa=>OW A P N ops ord b rest (i+1) (a.put o.dst undef) c e f d)
theorem TW {ops:Array Oper}{k:Oper}{N:Nat}{a:Act}{e:Env}(f:Fits N a e){q s:Env->Prop}(b:ni ops k e q s):
  (Region.wanted k (yielded ops a.tmps)=true/\ ∃h,Fits N a h/\q h)\/(Region.wanted k (yielded ops a.tmps)=false/\ ∃h,Fits N a h/\s h):=by
 unfold ni at b;split at b
 ·rename_i c;exact .inl ⟨by simp[Region.wanted,c],e,f,b⟩
 ·rename_i t x c;split at b
  ·rename_i y u;split at b
   ·rename_i l hd;split at b
    ·rename_i g n;have i:=f.get l _ n;have d:yielded ops a.tmps t=some g:=by simp[yielded,u,hd,i]
     have j:Fits N a (e.set l (.bool g)):=f.oH i;split at b
     ·obtain⟨o,p⟩:=ae.mk b;cases g with
      |true=>exact .inl ⟨by simp[Region.wanted,c,d],_,j,o rfl⟩
      |false=>exact .inr ⟨by simp[Region.wanted,c,d],_,j,p rfl⟩
     ·obtain⟨o,p⟩:=ae.mk b;cases g with
      |true=>exact .inr ⟨by simp[Region.wanted,c,d],_,j,o rfl⟩
      |false=>exact .inl ⟨by simp[Region.wanted,c,d],_,j,p rfl⟩
    ·rename_i v w n;have i:=f.get l _ n;refine .inr ⟨?_,e,f,b⟩;have d:yielded ops a.tmps t=none:=by simp only[yielded,u,hd,i,Hj];cases v<;>first|rfl|exact absurd rfl (w _)
     simp[Region.wanted,c,d]
    ·exact b.elim
   ·exact b.elim
  ·exact b.elim
structure LZ (W:List Nat) (a a':Act):Prop where
 get: ∀t,t∉W->a'.tmps[t]? =a.tmps[t]?
 ds:a'.defers=a.defers
theorem LZ.refl(W:List Nat)(a:Act):LZ W a a:=⟨λ_ _=>rfl,rfl⟩
theorem LZ.put {W:List Nat}{a d:Act}(c:LZ W a d){b:Option Tmp}{v:J0}(hd: ∀t,b=some t->t∈W):LZ W a (d.put b v):=by
 cases b with
 |none=>exact c
 |some b=>
  refine⟨λt e=>?_,c.ds⟩;have:b≠t:=λf=>e (f▸hd b rfl)
  simp only[Act.put];rw[E0 this];exact c.get t e
def dstsOf(l:List Oper):List Nat:=l.filterMap (·.dst)
theorem pR {l:List Oper}{a:Oper}(c:a∈l){b:Nat}(hd:a.dst=some b):b∈dstsOf l:=List.mem_filterMap.2 ⟨a,c,hd⟩
section
variable {P : Q1} {A : al} {r : Option Nat} {m N : Nat} {ops : Array Oper} {ord : Nat -> Nat -> Bool}
theorem Pn {a:Oper}(c:cls P a≠ .fi):FE a:=λe b d=>c (by simp[cls,d])
theorem Xi {b:Oper}(c:cls P b≠ .fi):IG b=true:=by
 unfold IG;split
 ·rename_i a;exact absurd (by simp[cls,a]) c
 ·rename_i a;exact absurd (by simp[cls,a]) c
 ·rfl
theorem AF7 {ops:Array Oper}{b:Oper}{d:Env}{e:aa}{K:A2O}(c:jE A P ops b d e K):IG b=true:=by
 unfold IG;split
 ·rename_i a;simp[jE,a] at c
 ·rename_i a;simp[jE,a] at c
 ·rfl
theorem tA {p:Env->aa->Prop}{q:Exit->Act->World->Prop}: ∀(l:List Oper) (i:Nat) (j:Env) (e:aa) (a:Act) (f:Nat),OW A P N ops ord false l i j e [] [] p->Fits N a j->
  (∀ s c g h,Fits N s c->LZ (dstsOf l) a s->p c g->q .normal s (A.at g h))->wpListIn (Fw r) m P ops q l a (A.at e f)
 | [],_,j,e,a,f,b,u,w=>w a j e f u (LZ.refl _ _) b
 |o::rest,i,j,e,a,f,b,u,w=>by
  unfold OW at b;split at b
  ·exact b.elim
  ·rename_i hd;have next: ∀(v:J0) (c:Env) (g:aa) (h:Nat),Fits N a c->OW A P N ops ord false rest (i+1) (c.put o.dst v) g [] [] p->wpListIn (Fw r) m P ops q rest (a.put o.dst v) (A.at g h):=by
    intro v c g h d y;refine tA rest (i+1) _ g _ h y (d.put hd) ?_;intro D E F G H C I;refine w D E F G H ⟨λt k=>?_,C.ds.trans ?_⟩ I
    ·have J:t∉dstsOf rest:=λL=>k (by simp only[dstsOf,XS];split<;>simp_all [dstsOf])
     rw[C.get t J];exact(LZ.put (W:=dstsOf (o::rest)) (LZ.refl _ a) (λt k=>pR AN k)).get t k
    ·cases o.dst<;>rfl
   unfold wpListIn;rcases TW u b with⟨z,c,d,b⟩|⟨z,c,d,b⟩
   ·rw[if_pos z];split at b
    ·rename_i n;have y:FE o:=Pn (P:=P) (by rw[n];intro x;cases x);obtain⟨v,B,b⟩:=Vt d y b;refine EV.wpIn (Xi (P:=P) (by rw[n];intro x;cases x)) ?_;unfold EV;rw[B];exact next v c e f d b
    ·rename_i n;obtain⟨v,st,B,K,b⟩:=bY (A:=A) d b;refine EV.wpIn (Xi (P:=P) (by rw[n];intro x;cases x)) ?_;unfold EV;rw[B e K f];exact next v c e f d (Nl b).2
    ·refine EV.wpIn (AF7 b) ((ZU d b f).mono ?_);rintro v M ⟨g,h,rfl,b⟩;exact next v c g h d (Nl b).2
   ·rw[if_neg (by rw[z];simp)];exact⟨λ_ _=>trivial,next undef c e f d b⟩
def QY(P:Q1)(a:Oper):Bool:=match cls P a with| .fi=>false|_=>true
theorem QJ {R:Env->aa->Prop}{a0:Act}{Q:Act->aa->Prop}(u: ∀H C j,Fits N H C->LZ (dstsOf ops.toList) a0 H->R C j->Q H j):
  ∀(l:List Oper) (i:Nat) (w:Env) (c:aa) (a:Act) (f:List (Nat×(aa->Prop))) (k:List (Nat×aa)) (D:List (Nat×(aa->Prop))),
   (∀ g,l[g]? =ops[i+g]?)->OW A P N ops ord true l i w c f k R->Fits N a w->LZ (dstsOf ops.toList) a0 a->
   (∀ d∈D,(∀ c,d.2 c)\/ ∃p∈f,p.1=d.1/\ ∀c,p.2 c->d.2 c)->FA P A ops (QY P) ord Q (List.range' i l.length) a c D k
 | [],_,w,c,a,f,k,D,_,b,I,J,_=>u a w c I J b
 |o::rest,i,w,c,a,f,k,D,S,b,I,J,y=>by
  have T:ops[i]? =some o:=by simpa using(S 0).symm
  have E: ∀g,rest[g]? =ops[i+1+g]? :=λg=>by have:=S (g+1);simpa [GB,Nat.add_comm 1 g] using this
  have U:o∈ops.toList:=by rw[LS];exact IH T
  unfold OW at b;split at b
  ·exact b.elim
  ·rename_i hd;have F: ∀v,LZ (dstsOf ops.toList) a0 (a.put o.dst v):=λv=>J.put (λt V=>pR U V)
   rw[A5,List.range'_succ];unfold FA;rw[T];simp only;rcases TW I b with⟨K,C,h,b⟩|⟨K,C,h,b⟩
   ·rw[if_pos K];split at b
    ·rename_i s;have z:QY P o=true:=by simp[QY,s]
     rw[if_pos z];have W:FE o:=Pn (P:=P) (by rw[s];intro x;cases x);obtain⟨v,n,b⟩:=Vt h W b;refine⟨v,λG=>n _,λ_ _ _ G=>n _,?_⟩;refine QJ u rest (i+1) _ c _ f k _ E b (h.put hd) (F v) ?_;intro d e;rcases List.mem_cons.1 e with rfl|e
     ·exact .inl λc G=>n _
     ·exact y d e
    ·rename_i s;have z:QY P o=true:=by simp[QY,s]
     rw[if_pos z];obtain⟨v,st,n,X,b⟩:=bY (A:=A) h b;obtain⟨L,b⟩:=Nl b;refine⟨v,n c X,λp B M=>n p.2 (L _ (List.mem_map.2 ⟨p,List.mem_filter.2 ⟨B,M⟩,rfl⟩)),?_⟩;refine QJ u rest (i+1) _ c _ ((i,st)::f) k _ E b (h.put hd) (F v) ?_;intro d e;rcases List.mem_cons.1 e with rfl|e
     ·exact .inr ⟨(i,st),AN,rfl,n⟩
     ·rcases y d e with q|⟨p,B,q,O⟩
      ·exact .inl q
      ·exact .inr ⟨p,An _ B,q,O⟩
    ·rename_i s;have z: ¬QY P o=true:=by simp[QY,s]
     rw[if_neg z];intro G;refine(ZU h b G).mono ?_;rintro v Z ⟨j,Y,rfl,b⟩;obtain⟨L,b⟩:=Nl b;refine⟨j,Y,rfl,?_,?_⟩
     ·intro d e M;rcases y d e with q|⟨p,B,q,O⟩
      ·exact q j
      ·exact O j (L _ (List.mem_map.2 ⟨p,List.mem_filter.2 ⟨B,by rw[q];exact M⟩,rfl⟩))
     ·exact QJ u rest (i+1) _ j _ f _ _ E b (h.put hd) (F v) y
   ·rw[if_neg (by rw[K];simp)];exact QJ u rest (i+1) _ c _ f k _ E b (h.put hd) (F undef) y
abbrev Ke:=Env->aa->List (Nat×(aa->Prop))->Prop
def nj(A:al)(P:Q1)(N:Nat)(ops:Array Oper)(ord:Nat->Nat->Bool)(i:Nat)(K:Ke):Ke:=λa c d=>
 match ops[i]? with
 |none=>False
 |some b=>match mO N b.dst with
  |false=>False
  |true=>ni ops b a
   (λa=>match cls P b with
    | .pure=>mS P b a λv=>K (a.put b.dst v) c d
    | .load=>nf P b a c λv st=>K (a.put b.dst v) c ((i,st)::d)
    | .fi=>jE A P ops b a c λv e=>lD (tz ord true i e d) (K (a.put b.dst v) e d))
   (λa=>K (a.put b.dst undef) c d)
def pS(a:Nat->Prop):List Nat->Prop
 | []=>True
 | [i]=>a i
 |i::l=>a i/\pS a l
theorem tB {c:Nat->Prop}: ∀ {l:List Nat},pS c l-> ∀i∈l,c i
 | [],_,_,a=>by cases a
 | [j],a,i,b=>by
  have:i=j:=by simpa using b
  subst this;exact a
 |j::x::l,a,i,b=>by
  rcases List.mem_cons.1 b with rfl|b
  ·exact a.1
  ·exact tB a.2 i b
def jF(A:al)(P:Q1)(N:Nat)(ops:Array Oper)(ord:Nat->Nat->Bool)(c:Env->aa->Prop):Nat->List Nat->Ke
 |_,[]=>λa b _=>c a b
 |0,_::_=>λ_ _ _=>False
 |f+1,x::l=>λa b d=>
  match kD ops (QY P) ord (x::l) with
  |some i=>nj A P N ops ord i (jF A P N ops ord c f ((x::l).erase i)) a b d
  |none=>pS (λi=>nj A P N ops ord i (jF A P N ops ord c f ((x::l).erase i)) a b d) ((x::l).filter (Qc ord (x::l)))
def pT(c d:List (Nat×(aa->Prop))):Prop:= ∀b∈d,(∀ a,b.2 a)\/ ∃p∈c,p.1=b.1/\ ∀a,p.2 a->b.2 a
theorem YI {y:Act}{i:Nat}{K:Ke}{F:Kt}
  (u: ∀j e a k l,K j e k->Fits N a j->LZ (dstsOf ops.toList) y a->pT k l->F a e l)
  {j:Env} {e:aa} {a:Act} {k:List (Nat×(aa->Prop))} {l:List (Nat×(aa->Prop))}
  (b:nj A P N ops ord i K j e k) (H:Fits N a j) (I:LZ (dstsOf ops.toList) y a) (n:pT k l):Em P A ops (QY P) ord i F a e l:=by
 unfold nj at b;unfold Em;split at b
 ·exact b.elim
 ·rename_i g G;have J:g∈ops.toList:=by rw[LS];exact IH G
  try rw[G]
  try simp only
  split at b
  ·exact b.elim
  ·rename_i hd;have w: ∀v,LZ (dstsOf ops.toList) y (a.put g.dst v):=λv=>I.put (λt L=>pR J L)
   rcases TW H b with⟨z,M,d,b⟩|⟨z,M,d,b⟩
   ·rw[if_pos z];split at b
    ·rename_i h;have o:QY P g=true:=by simp[QY,h]
     rw[if_pos o];have O:FE g:=Pn (P:=P) (by rw[h];intro x;cases x);obtain⟨v,q,b⟩:=Vt d O b;refine⟨v,λB=>q _,?_⟩;refine u _ _ _ _ _ b (d.put hd) (w v) ?_;intro s c;rcases List.mem_cons.1 c with rfl|c
     ·exact .inl λe B=>q _
     ·exact n s c
    ·rename_i h;have o:QY P g=true:=by simp[QY,h]
     rw[if_pos o];obtain⟨v,st,q,Q,b⟩:=bY (A:=A) d b;refine⟨v,q e Q,?_⟩;refine u _ _ _ _ _ b (d.put hd) (w v) ?_;intro s c;rcases List.mem_cons.1 c with rfl|c
     ·exact .inr ⟨(i,st),AN,rfl,q⟩
     ·rcases n s c with f|⟨p,C,f,D⟩
      ·exact .inl f
      ·exact .inr ⟨p,An _ C,f,D⟩
    ·rename_i h;have o: ¬QY P g=true:=by simp[QY,h]
     rw[if_neg o];intro B;refine(ZU d b B).mono ?_;rintro v U ⟨E,R,rfl,b⟩;obtain⟨S,b⟩:=Nl b;refine⟨E,R,rfl,?_,?_⟩
     ·intro s c T;rcases n s c with f|⟨p,C,f,D⟩
      ·exact f E
      ·exact D E (S _ (List.mem_map.2 ⟨p,List.mem_filter.2 ⟨C,by rw[f];exact T⟩,rfl⟩))
     ·exact u _ _ _ _ _ b (d.put hd) (w v) n
   ·rw[if_neg (by rw[z];simp)];exact u _ _ _ _ _ b (d.put hd) (w undef) n
theorem pU {q:Env->aa->Prop}{a0:Act}{Q:Act->aa->Prop}(n: ∀o s t,Fits N o s->LZ (dstsOf ops.toList) a0 o->q s t->Q o t):
  ∀(f:Nat) (l:List Nat) (c:Env) (d:aa) (a:Act) (e:List (Nat×(aa->Prop))) (g:List (Nat×(aa->Prop))),
   jF A P N ops ord q f l c d e->Fits N a c->LZ (dstsOf ops.toList) a0 a->pT e g->FT P A ops (QY P) ord Q f l a d g
 |_,[],c,d,a,e,g,b,h,j,_=>by
  unfold jF at b;unfold FT;exact n a c d h j b
 |0,_::_,c,d,a,e,g,b,_,_,_=>by
  unfold jF at b;exact b.elim
 |f+1,x::l,c,d,a,e,g,b,h,j,k=>by
  unfold jF at b;unfold FT;split
  ·rename_i i p;rw[p] at b;exact YI (λc d a e g b h j k=>pU n f _ c d a e g b h j k) b h j k
  ·rename_i p;rw[p] at b;intro i u v;exact YI (λc d a e g b h j k=>pU n f _ c d a e g b h j k) (tB b i (List.mem_filter.2 ⟨u,v⟩)) h j k
def lE(A:al)(P:Q1)(N:Nat)(ops:Array Oper)(d:Bool)(a:Env)(b:aa)(c:Env->aa->Prop):Prop:=
 match d with
 |false=>OW A P N ops (λ_ _=>false) false ops.toList 0 a b [] [] c
 |true=>match lh ops (QY P) (jZ ops) with
  |true=>OW A P N ops (jZ ops) true ops.toList 0 a b [] [] c
  |false=>match nK ops (QY P) (jZ ops) with
   |true=>jF A P N ops (jZ ops) c ops.size (List.range ops.size) a b []
   |false=>False
theorem AFb {id:Nat}{n:Bool}{k:Env}{l:aa}{i:Env->aa->Prop}{a:Act}{u:Nat}{Q:Exit->Act->World->Prop}(t:P.follows .mixedOrders=true)
  (e:lE A P N ops n k l i) (o:Fits N a k) (p: ∀c b d j,Fits N c b->LZ (dstsOf ops.toList) a c->i b d->Q .normal c (A.at d j)):
  (Code.region id ops n).wpIn (Fw r) m P Q a (A.at l u):=by
 unfold lE at e;cases n with
 |false=>exact wpIn_region_list (tA _ _ _ _ _ _ e o p)
 |true=>
  simp only[] at e;split at e
  ·rename_i q;refine Xw (qb:=QY P) (ord:=jZ ops) (Q:=λc d=> ∃b,Fits N c b/\LZ (dstsOf ops.toList) a c/\i b d) ?_ t q ?_
   ·rintro c d j ⟨b,f,g,h⟩;exact p c b d j f g h
   ·have:=QJ (Q:=λc d=> ∃b,Fits N c b/\LZ (dstsOf ops.toList) a c/\i b d) (a0:=a) (λc b d f g h=>⟨b,f,g,h⟩) ops.toList 0 k l a [] [] []
     (λv=>by simp) e o (LZ.refl _ _) (λ_ s=>by cases s)
    rw[P4];simpa using this
  ·split at e
   ·rename_i q;refine Zd (qb:=QY P) (ord:=jZ ops) (Q:=λc d=> ∃b,Fits N c b/\LZ (dstsOf ops.toList) a c/\i b d) ?_ t q ?_
    ·rintro c d j ⟨b,f,g,h⟩;exact p c b d j f g h
    ·exact pU (Q:=λc d=> ∃b,Fits N c b/\LZ (dstsOf ops.toList) a c/\i b d) (a0:=a) (λc b d f g h=>⟨b,f,g,h⟩) _ _ k l a [] []
      e o (LZ.refl _ _) (λ_ s=>by cases s)
   ·exact e.elim
end
inductive Lv where
 |one (s:Sc)
 |agg (l:List Sc)
def lH:List Sc->Type
 | []=>Unit
 |s::l=>s.Ty×lH l
def jH:(l:List Sc)->lH l->List J0
 | [],_=> []
 |s::l,x=>s.val x.1::jH l x.2
def Lv.Ty:Lv->Type
 | .one s=>s.Ty
 | .agg l=>lH l
def Lv.val:(v:Lv)->v.Ty->J0
 | .one s,x=>s.val x
 | .agg l,x=> .agg (jH l x).toArray
def Sc.un(v:J0):(s:Sc)->(s.Ty->Prop)->Prop
 | .int a,K=>match v with| .int d e=>(match decide (d=a) with|true=>K e|false=>False)|_=>False
 | .bool,K=>match v with| .bool b=>K b|_=>False
 | .str,K=>match v with| .string s=>K s|_=>False
 | .ptr,K=>match v with| .pointer p=>K p|_=>False
 | .sl,K=>match v with| .slice p l c=>K ⟨p,l,c⟩|_=>False
 | .map,K=>match v with| .map f=>K f|_=>False
 | .any,K=>K v
 | .jc a,K=>match v with| .float d e=>(match decide (d=a) with|true=>K e|false=>False)|_=>False
 | .jd a,K=>match v with| .complex d e m=>(match decide (d=a) with|true=>K (e,m)|false=>False)|_=>False
theorem Sc.dq {v:J0}: ∀ {s:Sc} {K:s.Ty->Prop},s.un v K-> ∃x,v=s.val x/\K x
 | .int c,K,a=>by
  cases v<;>simp only[Sc.un] at a
  rename_i d b;split at a
  ·rename_i hd;have hd:=of_decide_eq_true hd;subst hd;exact⟨b,rfl,a⟩
  ·exact a.elim
 | .bool,K,a=>by cases v<;>simp only[Sc.un] at a;exact⟨_,rfl,a⟩
 | .str,K,a=>by cases v<;>simp only[Sc.un] at a;exact⟨_,rfl,a⟩
 | .ptr,K,a=>by cases v<;>simp only[Sc.un] at a;exact⟨_,rfl,a⟩
 | .sl,K,a=>by cases v<;>simp only[Sc.un] at a;exact⟨_,rfl,a⟩
 | .map,K,a=>by cases v<;>simp only[Sc.un] at a;exact⟨_,rfl,a⟩
 | .any,K,a=>⟨v,rfl,a⟩
 | .jc c,K,a=>by
  cases v<;>simp only[Sc.un] at a
  rename_i d b;split at a
  ·rename_i hd;have hd:=of_decide_eq_true hd;subst hd;exact⟨b,rfl,a⟩
  ·exact a.elim
 | .jd c,K,a=>by
  cases v<;>simp only[Sc.un] at a
  rename_i d b m;split at a
  ·rename_i hd;have hd:=of_decide_eq_true hd;subst hd;exact⟨(b,m),rfl,a⟩
  ·exact a.elim
def qf:(l:List Sc)->List J0->(lH l->Prop)->Prop
 | [],[],K=>K ()
 |s::l,v::a,K=>s.un v λx=>qf l a λb=>K (x,b)
 | [],_::_,_=>False
 |_::_,[],_=>False
theorem u7: ∀ {l:List Sc} {c:List J0} {K:lH l->Prop},qf l c K-> ∃b,c=jH l b/\K b
 | [],[],_,a=>⟨(),rfl,a⟩
 |s::l,v::c,K,a=>by
  obtain⟨x,d,e⟩:=Sc.dq a;obtain⟨b,f,g⟩:=u7 e;exact⟨(x,b),by rw[d,f];rfl,g⟩
 | [],_::_,_,a=>a.elim
 |_::_,[],_,a=>a.elim
def Lv.un(v:J0):(a:Lv)->(a.Ty->Prop)->Prop
 | .one s,K=>s.un v K
 | .agg l,K=>match v with| .agg b=>qf l b.toList K|_=>False
theorem Lv.dq {v:J0}: ∀ {b:Lv} {K:b.Ty->Prop},b.un v K-> ∃x,v=b.val x/\K x
 | .one s,K,a=>Sc.dq a
 | .agg l,K,a=>by
  cases v<;>simp only[Lv.un] at a
  rename_i e;obtain⟨c,d,a⟩:=u7 a;refine⟨c,?_,a⟩;simp only[Lv.val];rw[<- d]
abbrev Live:=List (Nat×Lv)
def gJ:Live->Type
 | []=>Unit
 |x::a=>x.2.Ty×gJ a
def Ma:(L:Live)->Env->(gJ L->Prop)->Prop
 | [],_,K=>K ()
 |x::b,a,K=>match a.get x.1 with|some v=>x.2.un v λc=>Ma b a λd=>K (c,d)|none=>False
def Kq:(L:Live)->gJ L->Nat->Option J0
 | [],_,_=>none
 |x::b,a,t=>bif Nat.beq t x.1 then some (x.2.val a.1) else Kq b a.2 t
def iR(t:Nat):List Nat->Bool
 | []=>false
 |x::a=>bif Nat.beq t x then true else iR t a
def GD(L:Live)(b:List Nat)(a:Env)(c:gJ L):Env:=
 {get:=λt=>match Kq L c t with|some v=>some v|none=>bif iR t b then a.get t else none,ds:=a.ds}
def Mj(b a:List Nat):Bool:=match b with| []=>true|x::c=>bif iR x a then false else Mj c a
theorem YB {t:Nat}: ∀ {l:List Nat},iR t l=true↔t∈l
 | []=>by simp[iR]
 |x::b=>by
  unfold iR;by_cases a:t=x
  ·subst a;simp
  ·rw[TG a];simp only[cond_false,Hc,a,false_or];exact YB
theorem Tq {c:List Nat}: ∀ {e:List Nat},Mj e c=true-> ∀t∈e,t∉c
 | [],_,_,f=>by cases f
 |x::h,a,t,d=>by
  unfold Mj at a;cases b:iR x c with
  |true=>rw[b] at a;cases a
  |false=>
   rw[b] at a;rcases List.mem_cons.1 d with rfl|d
   ·intro g;rw[YB.2 g] at b;cases b
   ·exact Tq a t d
theorem JB {d:Env}: ∀ {L:Live} {K:gJ L->Prop},Ma L d K-> ∃c,(∀ t v,Kq L c t=some v->d.get t=some v)/\K c
 | [],K,b=>⟨(),λ_ _ a=>(by cases a),b⟩
 |(e,g)::h,K,b=>by
  unfold Ma at b;split at b
  ·rename_i v i;obtain⟨x,j,k⟩:=Lv.dq b;obtain⟨c,l,m⟩:=JB k;refine⟨(x,c),λt v a=>?_,m⟩;change (bif Nat.beq t e then some (g.val x) else Kq h c t)=some v at a;by_cases f:t=e
   ·subst f;have n:Nat.beq t t=true:=by simp
    rw[n] at a;rw[<- a,cond_true,<-j];exact i
   ·rw[TG f] at a;exact l t v a
  ·exact b.elim
theorem u9 {L:Live}{b:List Nat}{f:Env}{c:gJ L}{t:Nat}{v:J0}(a:(GD L b f c).get t=some v):
  Kq L c t=some v\/(Kq L c t=none/\t∈b/\f.get t=some v):=by
 unfold GD at a;simp only at a;split at a
 ·rename_i u d;rw[d];exact .inl a
 ·rename_i d;cases e:iR t b with
  |false=>rw[e] at a;cases a
  |true=>rw[e] at a;exact .inr ⟨d,YB.1 e,a⟩
theorem AGB {L:Live}{c d:gJ L}{t:Nat}(a:Kq L c t=none):Kq L d t=none:=by
 induction L with
 |nil=>rfl
 |cons x f e=>
  unfold Kq at a ⊢;by_cases b:t=x.1
  ·subst b;simp at a
  ·rw[TG b] at a ⊢;exact e a
structure FN (W:List Nat) (nd:Bool) (a a':Act):Prop where
 get: ∀t,t∉W->a'.tmps[t]? =a.tmps[t]?
 ds:nd=true->a'.defers=a.defers
theorem FN.refl {W:List Nat}{nd:Bool}{a:Act}:FN W nd a a:=⟨λ_ _=>rfl,λ_=>rfl⟩
theorem FN.trans {e f V:List Nat}{nd g h:Bool}{a b c:Act}(i:FN e nd a b)(j:FN f g b c)(m: ∀t∈e,t∈V)(n: ∀t∈f,t∈V)(k:h=true->nd=true/\g=true):FN V h a c:=
 ⟨λt l=>(j.get t λd=>l (n t d)).trans (i.get t λd=>l (m t d)),λd=>(j.ds (k d).2).trans (i.ds (k d).1)⟩
theorem FN.ai {d V:List Nat}{nd e:Bool}{a b:Act}(f:FN d nd a b)(g: ∀t∈d,t∈V)(h:e=true->nd=true):FN V e a b:=
 ⟨λt i=>f.get t λc=>i (g t c),λc=>f.ds (h c)⟩
theorem Fits.join {N:Nat}{a b:Act}{d e:Env}(f:Fits N a d)(g:Fits N b e){h:List Nat}{nd:Bool}(l:nd=true)(i:FN h nd a b){L:Live}{j:List Nat}(m:Mj j h=true){k:gJ L}
  (n: ∀t v,Kq L k t=some v->e.get t=some v):Fits N b (GD L j d k):=by
 refine⟨g.size,λt v o=>?_,(i.ds l).trans f.ds⟩;rcases u9 o with c|⟨_,p,c⟩
 ·exact g.get t v (n t v c)
 ·rw[i.get t (Tq m t p)];exact f.get t v c
theorem Fits.again {N:Nat}{a b:Act}{e f:Env}{L:Live}{c:List Nat}{m g:gJ L}(h:Fits N a (GD L c e m))(i:Fits N b f){j:List Nat}{nd:Bool}(n:nd=true)(k:FN j nd a b)
  (o:Mj c j=true) (p: ∀t v,Kq L g t=some v->f.get t=some v):Fits N b (GD L c e g):=by
 refine⟨i.size,λt v q=>?_,(k.ds n).trans h.ds⟩;rcases u9 q with d|⟨r,l,d⟩
 ·exact i.get t v (p t v d)
 ·rw[k.get t (Tq o t l)];refine h.get t v ?_;unfold GD;simp only;rw[AGB r,YB.2 l];exact d
inductive bW where
 |none
 |bC (L:Live) (kept:List Nat)
 |seq (x y:bW)
 |bA (L:Live) (kept:List Nat) (x y:bW)
 |cond (x y:bW)
 |block (x:bW)
 |bJ (L:Live) (kept:List Nat) (x:bW)
 |loop (L:Live) (kept:List Nat) (x:bW)
 |range (ps:List Lv) (x y:bW)
 |scope (L:Live) (kept:List Nat) (x y z:bW)
def writes:Code->List Nat
 | .region _ c _=>dstsOf c.toList
 | .seq a b=>writes a++writes b
 | .cond _ a b=>writes a++writes b
 | .block _ a=>writes a
 | .loop a=>writes a
 | .scope a=>writes a
 |_=> []
def Fz:Code->Bool
 | .rangeFunc .. =>false
 | .seq a b=>Fz a&&Fz b
 | .cond _ a b=>Fz a&&Fz b
 | .block _ a=>Fz a
 | .loop a=>Fz a
 | .scope a=>Fz a
 |_=>true
inductive iA where
 |af (i:Nat)
 |eI (l:Nat)
def ZJ:Option Nat->Code
 |none=> .ret
 |some id=> .exit id
def iB:List Lv->Type
 | []=>Unit
 |lv::l=>lv.Ty×iB l
def kp:(l:List Lv)->iB l->List J0
 | [],_=> []
 |lv::l,x=>lv.val x.1::kp l x.2
theorem Xb: ∀(l:List Lv) (x:iB l),(kp l x).length=l.length
 | [],_=>rfl
 |_::l,x=>by simp[kp,Xb l x.2]
def jI:Env->List Tmp->List J0->Env
 |e,p::ps,v::a=>jI (e.set p v) ps a
 |e,_,_=>e
def WM(k:al)(P:Q1)(fv:J0)(e:List Lv)(body:iB e->Nat->aa->(aa->Prop)->(Option Nat->aa->Prop)->Prop)(a:aa)(n:aa->Prop)(o:Option Nat->aa->Prop):Prop:=
 ∀(rec:Go.Loop),rec.state= .ready->rec.pending=none->rec.params.size=e.length->
  (∀ (x:iB e) (h:aa) (i:A2O),h[a.size+1]? =some (.loop rec)->
   body x (a.size+1) h
    (λc=> ∃d,c[a.size+1]? =some (.loop d)/\i (.bool true) (c.setIfInBounds (a.size+1) (.loop {d with state:= .ready,pending:=none})))
    (λg c=> ∃d,c[a.size+1]? =some (.loop d)/\i (.bool false) (c.setIfInBounds (a.size+1) (.loop {d with state:= .done,pending:=some (ZJ g)})))->
   Du k P (.func (.yield (a.size+1)) #[] #[]) (kp e x).toArray h i)->
  ∃f l,Ro P (do let m <-Deferred.ofValue fv #[.func (.yield (a.size+1)) #[] #[]];invoke m.target m.args:Sem Next) (λx=>x= .enter f l)/\
   AA k P f l ((a.push (.deferred (some []))).push (.loop rec)) λ_ j=>
    ∃b,j[a.size+1]? =some (.loop b)/\b.state≠ .busy/\
     ((b.pending=none/\n (j.setIfInBounds (a.size+1) (.loop {b with state:= .exhausted})))\/
     ∃g,b.pending=some (ZJ g)/\o g (j.setIfInBounds (a.size+1) (.loop {b with state:= .exhausted})))
def FZ(n:al)(P:Q1)(N:Nat)(q:Bool):Code->bW->Env->aa->(Env->aa->Prop)->(iA->Env->aa->Prop)->(Env->aa->Prop)->Prop
 | .skip,_,d,e,k,_,_=>k d e
 | .exit id,_,d,e,_,kb,_=>kb (.af id) d e
 | .ret,_,d,e,_,_,m=>m d e
 | .label _,_,d,e,k,_,_=>k d e
 | .goto l,_,d,e,_,kb,_=>kb (.eI l) d e
 | .region _ y u,r,d,e,k,_,_=>match r with
  | .bC L o=>match Mj o (dstsOf y.toList) with
   |true=>ah (λj e=>k (GD L o d j) e) λK=>lE n P N y u d e λh g=>Ma L h λj=>K j g
   |false=>False
  |_=>lE n P N y u d e k
 | .seq a b,r,d,e,k,kb,m=>match r with
  | .seq x t=>FZ n P N q a x d e (λd e=>FZ n P N q b t d e k kb m) kb m
  | .bA L o x t=>match Mj o (writes a)&&Fz a with
   |true=>ah (λj e=>FZ n P N q b t (GD L o d j) e k kb m) λK=>FZ n P N q a x d e (λh g=>Ma L h λj=>K j g) kb m
   |false=>False
  |_=>False
 | .cond c p C,r,d,e,k,kb,m=>match r with
  | .cond x t=>rd d c λv=>match v with| .bool b=>ae b (FZ n P N q p x d e k kb m) (FZ n P N q C t d e k kb m)|_=>False
  |_=>False
 | .block id c,r,d,e,k,kb,m=>match r with
  | .block x=>FZ n P N q c x d e k (λs h g=>match s with| .af i=>(match Nat.beq i id with|true=>k h g|false=>kb (.af i) h g)| .eI l=>kb (.eI l) h g) m
  | .bJ L o x=>match Mj o (writes c)&&Fz c with
   |true=>ah (λj e=>k (GD L o d j) e) λK=>
     FZ n P N q c x d e (λh g=>Ma L h λj=>K j g) (λs h g=>match s with| .af i=>(match Nat.beq i id with|true=>Ma L h λj=>K j g|false=>kb (.af i) h g)| .eI l=>kb (.eI l) h g) m
   |false=>False
  |_=>False
 | .loop c,r,d,e,_,kb,m=>match r with
  | .loop L o x=>match Mj o (writes c)&&Fz c with
   |true=>Ma L d λj=>Loop (λK j e=>FZ n P N q c x (GD L o d j) e (λh g=>Ma L h λj=>K j g) kb m) j e
   |false=>False
  |_=>False
 | .rangeFunc f ps D c,r,d,e,k,kb,m=>match r with
  | .range z x t=>match (!q)&&Nat.beq z.length ps.size&&ps.toList.all λp=>Nat.blt p N with
   |true=>rd d f λfv=>WM n P fv z
     (λargs l E F B=>FZ n P N true D x (jI {get:=d.get,ds:= []} ps.toList (kp z args)) E
      (λh g=> ∃A,g[l]? =some (.loop A)/\A.state= .ready/\
       FZ n P N true c t h (g.setIfInBounds l (.loop {A with state:= .busy})) (λ_ w=>F w) (λs _ w=>match s with| .af i=>B (some i) w| .eI _=>False) (λ_ w=>B none w))
      (λ_ _ _=>False) (λ_ _=>False))
     e
     (λg=>k {get:=d.get,ds:=e.size::d.ds} g)
     (λs g=>match s with|none=>m {get:=d.get,ds:=e.size::d.ds} g|some i=>kb (.af i) {get:=d.get,ds:=e.size::d.ds} g)
   |false=>False
  |_=>False
 | .scope (.seq b (.seq c (.seq (.label l) u))),r,d,e,k,kb,m=>match r with
  | .scope L o G x t=>match ((findLabel b l).isNone&&(findLabel c l).isNone)&&(Mj o (writes c++writes u)&&(Fz b&&(Fz c&&Fz u))) with
   |true=>FZ n P N q b G d e (λd e=>FZ n P N q c x d e
     (λh g=>Ma L h λj=>Loop (λK j e=>FZ n P N q u t (GD L o d j) e k
      (λs h g=>match s with| .af i=>kb (.af i) h g| .eI H=>match Nat.beq H l with|true=>Ma L h λj=>K j g|false=>False) m) j g)
     (λs h g=>match s with| .af i=>kb (.af i) h g| .eI _=>False) m) (λs h g=>match s with| .af i=>kb (.af i) h g| .eI _=>False) m
   |false=>False
  |_=>False
 |_,_,_,_,_,_,_=>False
def dj(d:al)(N:Nat)(e:List Nat)(nd:Bool)(f:Act)(g:Env->aa->Prop)(kb:iA->Env->aa->Prop)(h:Env->aa->Prop):Exit->Act->World->Prop:=
 λx a i=> ∃b c j,i=d.at c j/\Fits N a b/\FN e nd f a/\(match x with
  | .normal=>g b c
  | .exit id=>kb (.af id) b c
  | .goto l=>kb (.eI l) b c
  | .ret=>h b c
  |_=>False)
theorem dj.mono {e:al}{N:Nat}{f V:List Nat}{nd g:Bool}{h:Act}{j k:Env->aa->Prop}{kb l:iA->Env->aa->Prop}{m n:Env->aa->Prop}
  (q: ∀t∈f,t∈V) (r:g=true->nd=true) (s: ∀b c,j b c->k b c) (o: ∀i b c,kb i b c->l i b c) (u: ∀b c,m b c->n b c) {x:Exit} {a:Act} {p:World}
  (v:dj e N f nd h j kb m x a p):dj e N V g h k l n x a p:=by
 obtain⟨b,c,w,y,z,A,d⟩:=v;refine⟨b,c,w,y,z,A.ai q r,?_⟩;cases x<;>simp only at d ⊢
 ·exact s _ _ d
 ·exact o _ _ _ d
 ·exact o _ _ _ d
 ·exact u _ _ d
section
variable {F : Fence} {n : Nat} {P : Q1} {c : Code} {Q : Exit -> Act -> World -> Prop} {a : Act} {w : World}
def lI(F:Fence)(n:Nat)(P:Q1)(c:Code)(Q:Exit->Act->World->Prop)(a:Act)(w:World):Prop:=
 ∀(b:Frame) (e:List Item) (d:List Frame),b.roundOf=F.round->F.fn b.fn->F.room (d.length+1+n)->
  ∃f g h,Q f g h/\ArrivesIn (Machine.fenced P F) P (lone (b.atR a (.inLoop c::e)) d w) b e d f g h
theorem ua(r:c.wpIn F n P (Exit.then (lI F n P c Q) Q) a w)(b:Frame)(i:List Item)(f:List Frame)(k:b.roundOf=F.round)(m:F.fn b.fn)(o:F.room (f.length+1+n)):
  ∃j p q,Q j p q/\ArrivesIn (Machine.fenced P F) P (lone (b.atR a (.code c:: .inLoop c::i)) f w) b i f j p q:=by
 obtain⟨j,g,h,d,e⟩:=r b (.inLoop c::i) f k m o;cases j with
 |normal=>
  obtain⟨s,t,u,v,y⟩:=d b i f k m o;exact⟨s,t,u,v,.of_steps e y⟩
 |exit id=>exact⟨_,g,h,d,.pass (x:= .inLoop c) rfl (λ_ _=> .inl (by simp)) e⟩
 |goto l=>exact⟨_,g,h,d,.pass (x:= .inLoop c) rfl (λ_ _=> .inl (by simp)) e⟩
 |ret=>exact⟨_,g,h,d,.pass (x:= .inLoop c) rfl (λ_ _=> .inl (by simp)) e⟩
 |panic z=>exact⟨_,g,h,d,.pass (x:= .inLoop c) rfl (λ_ _=> .inl (by simp)) e⟩
 |outgrown=>exact⟨_,g,h,d,.pass (x:= .inLoop c) rfl (λ_ _=> .inl (by simp)) e⟩
theorem AG8(f:c.wpIn F n P (Exit.then (lI F n P c Q) Q) a w):lI F n P c Q a w:=λb g h i d e=>
 let ⟨j,k,l,m,o⟩:=ua f b g h i d e
 ⟨j,k,l,m,.of_steps (.one (fenced_calm d e rfl) stepR_inLoop) o⟩
theorem AFc(f:c.wpIn F n P (Exit.then (lI F n P c Q) Q) a w):(Code.loop c).wpIn F n P Q a w:=λb g h i d e=>
 let ⟨j,k,l,m,o⟩:=ua f b g h i d e
 ⟨j,k,l,m,.of_steps (.one (fenced_calm d e rfl) stepR_loop) o⟩
end
def XH(F:Fence)(n:Nat)(P:Q1)(c rest:Code)(Q:Exit->Act->World->Prop)(a:Act)(w:World):Prop:=
 ∀(b:Frame) (e:List Item) (d:List Frame),b.roundOf=F.round->F.fn b.fn->F.room (d.length+1+n)->
  ∃f g h,Q f g h/\ArrivesIn (Machine.fenced P F) P (lone (b.atR a (.code rest:: .inScope c::e)) d w) b e d f g h
def nz(l:Nat)(b:Act->World->Prop)(Q:Exit->Act->World->Prop):Exit->Act->World->Prop
 | .goto d,a,w=>d=l/\b a w
 |e,a,w=>Q e a w
section
variable {F : Fence} {n : Nat} {P : Q1} {Q : Exit -> Act -> World -> Prop} {a : Act} {w : World}
theorem ADm {P:Q1}{b:Frame}{a:Act}{d:List Item}{e:List Frame}{w:World}{c:Code}:step P (lone (b.atR a (.inScope c::d)) e w)= .next (lone (b.atR a d) e w):=
 step_lone_go (by simp[stepG,stepG.exec,Frame.atR])
theorem AG3 {P:Q1}{b:Frame}{a:Act}{d:List Item}{e:List Frame}{w:World}{c:Code}:step P (lone (b.atR a (.code (.scope c)::d)) e w)= .next (lone (b.atR a (.code c:: .inScope c::d)) e w):=
 step_lone_go (by simp[stepG,stepG.exec,Frame.atR])
theorem uc {c rest x:Code}{l:Nat}(q:findLabel c l=some rest)(r:x.wpIn F n P (nz l (XH F n P c rest Q) Q) a w):XH F n P c x Q a w:=by
 intro b e m o i j;have s:gotoIn l (.inScope c::e)=some (.code rest:: .inScope c::e):=by simp[gotoIn,q]
 obtain⟨t,g,h,f,d⟩:=r b (.inScope c::e) m o i j;cases t with
 |normal=>exact⟨.normal,g,h,f,StepsIn.trans d (.one (fenced_calm i j rfl) ADm)⟩
 |exit id=>
  have p:exitTo id (.inScope c::e)=exitTo id e:=by simp[exitTo]
  exact⟨.exit id,g,h,f,λu k=>d.1 u (by rw[p];exact k),λv k=>d.2 v (by rw[p];exact k)⟩
 |goto E=>
  obtain⟨rfl,y⟩:=f;obtain⟨z,A,B,C,D⟩:=y b e m o i j;exact⟨z,A,B,C,.of_steps (d.1 _ s) D⟩
 |ret=>exact⟨_,g,h,f,d⟩
 |panic G=>exact⟨_,g,h,f,d⟩
 |outgrown=>exact⟨_,g,h,f,d⟩
theorem ADt {c rest:Code}{l:Nat}(f:findLabel c l=some rest)(g:c.wpIn F n P (nz l (XH F n P c rest Q) Q) a w):(Code.scope c).wpIn F n P Q a w:=λb h i j d e=>
 let ⟨k,m,o,p,q⟩:=uc f g b h i j d e
 ⟨k,m,o,p,.of_steps (.one (fenced_calm d e rfl) AG3) q⟩
end
theorem LZ.g {b:List Nat}{nd:Bool}{a d:Act}(e:LZ b a d):FN b nd a d:=⟨e.get,λ_=>e.ds⟩
theorem AQh(d:al)(b:aa)(n:Nat):(d.at b n).heap=b:=rfl
theorem run_getLoop {P:Q1}{d:al}{b:aa}{n l:Nat}{rec:Go.Loop}(e:b[l]? =some (.loop rec)):(Instr.getLoop l).run P (d.at b n)= .ok rec (d.at b n):=by simp[Instr.getLoop,Sem.run_bind,getObj,Sem.run,AQh,e]
theorem WJ {P:Q1}{d:al}{b:aa}{n l:Nat}{rec:Go.Loop}{e:Obj}(f:b[l]? =some (.loop rec)):(setObj l e).run P (d.at b n)= .ok () (d.at (b.setIfInBounds l e) n):=by simp[setObj,Sem.run,f,al.at]
theorem run_beginRound {P:Q1}{d:al}{b:aa}{n l:Nat}{rec:Go.Loop}(e:b[l]? =some (.loop rec))(f:rec.state= .ready):
  (Instr.beginRound l).run P (d.at b n)= .ok () (d.at (b.setIfInBounds l (.loop {rec with state:= .busy})) n):=by
 simp[Instr.beginRound,Sem.run_bind,run_getLoop e,WJ e,f]
theorem run_endRound {P:Q1}{e:al}{d:aa}{n l:Nat}{rec:Go.Loop}{b:Option Code}(f:d[l]? =some (.loop rec)):
  (Instr.endRound l b).run P (e.at d n)= .ok (.bool b.isNone) (e.at (d.setIfInBounds l (.loop {rec with state:=if b.isNone then .ready else .done,pending:=b})) n):=by
 simp[Instr.endRound,Sem.run_bind,run_getLoop f,WJ f]
theorem run_endLoop {P:Q1}{d:al}{b:aa}{n l:Nat}{rec:Go.Loop}(e:b[l]? =some (.loop rec))(f:rec.state≠ .busy):
  (Instr.endLoop l).run P (d.at b n)= .ok rec.pending (d.at (b.setIfInBounds l (.loop {rec with state:= .exhausted})) n):=by
 simp[Instr.endLoop,Sem.run_bind,run_getLoop e,WJ e];intro b;exact absurd b f
theorem AEN {P:Q1}{d:al}{b:aa}{n:Nat}{fn:Q8}{tmps:Array J0}{ps:Array Tmp}{e body:Code}:
  (Instr.enterLoop fn tmps ps e body none).run P (d.at b n)=
   .ok (b.size+1,[Zu b.size]) (d.at ((b.push (.deferred (some []))).push (.loop {state:= .ready,pending:=none,fn,tmps,params:=ps,assign:=e,body,defers:=b.size})) n):=by
 simp[Instr.enterLoop,Sem.run_bind,newObj,Sem.run,al.at,Zu];rfl
theorem ud {N:Nat}: ∀(ps:List Tmp) (d:List J0) (e:Env) (tmps:Array J0),(∀ p∈ps,p<N)->Fits N {tmps:=tmps,defers:= []} e->
  Fits N {tmps:=(ps.zip d).foldl (λtmps (t,a)=>tmps.setIfInBounds t a) tmps,defers:= []} (jI e ps d)
 | [],_,_,_,_,b=>by simpa [jI] using b
 |_::_,[],_,_,_,b=>by simpa [jI] using b
 |p::ps,v::d,e,tmps,f,b=>by
  have g:=b.set (v:=v) (f p AN);exact ud ps d (e.set p v) (tmps.setIfInBounds p v) (λh i=>f h (An _ i)) g
def XX(P:Q1)(b:al)(N:Nat)(c:Code):Prop:= ∀(m:Nat) (d:Bool) (e:Option Nat) (j:bW) (f:Env) (g:aa) (h:Env->aa->Prop) (kb:iA->Env->aa->Prop) (i:Env->aa->Prop) (a:Act) (n:Nat),
  (d=false->e=none)->FZ b P N d c j f g h kb i->Fits N a f->c.wpIn (Fw e) m P (dj b N (writes c) (Fz c) a h kb i) a (b.at g n)
theorem AIi {P:Q1}{h:al}{N:Nat}{c b body:Code}{l:Nat}(ak:XX P h N c)(am:XX P h N b){m:Nat}{q:Bool}{j:Option Nat}{L:Live}{z:List Nat}{U V:bW}{r:Env}{d:aa}{W:Env->aa->Prop}{kb:iA->Env->aa->Prop}{s:Env->aa->Prop}{X a:Act}{n:Nat}{Y:List Nat}{nd:Bool}{Q:Exit->Act->World->Prop}{A:Act->World->Prop}
  (Z:q=false->j=none) (an:findLabel body l=some (.seq .skip b)) (ab:Mj z (writes c++writes b)=true) (ao:Fz c=true) (ap:Fz b=true)
  (aq:FZ h P N q c U r d
     (λk o=>Ma L k λe=>Loop (λK e d=>FZ h P N q b V (GD L z r e) d W
      (λB k o=>match B with| .af i=>kb (.af i) k o| .eI C=>match Nat.beq C l with|true=>Ma L k λe=>K e o|false=>False) s) e o)
     (λB k o=>match B with| .af i=>kb (.af i) k o| .eI _=>False) s)
  (ac:Fits N a r) (ad: ∀f,FN (writes c++writes b) true a f->FN Y nd X f) (u:dj h N Y nd X W kb s=Q) (ar:A=XH (Fw j) m P body (.seq .skip b) Q):(Code.seq c (.seq (.label l) b)).wpIn (Fw j) m P (nz l A Q) a (h.at d n):=by
 have au: ∀t∈writes c,t∈writes c++writes b:=λt D=>List.mem_append.2 (.inl D)
 have av: ∀t∈writes b,t∈writes c++writes b:=λt D=>List.mem_append.2 (.inr D)
 let aw:gJ L->aa->Prop:=λe E=> ∀f G,Fits N f (GD L z r e)->FN (writes c++writes b) true a f->b.wpIn (Fw j) m P (nz l A Q) f (h.at E G)
 refine wpIn_seq (wpIn_mono (ak m q j U r d _ _ s a n Z aq ac) ?_);rintro H I aK ⟨ae,af,J,rfl,M,ax,p⟩;have O:FN (writes c++writes b) true a I:=ax.ai au (λ_=>ao);have ag:=ad I O;cases H with
 |normal=>
  obtain⟨e,ay,az⟩:=JB p;refine wpIn_seq (wpIn_label ?_);have aA:=az aw ?_
  ·exact aA I J (ac.join M rfl O ab ay) O
  ·intro e E aC f G ah aD;refine wpIn_mono (am m q j V _ E _ _ s f G Z aC ah) ?_;rintro H v aL ⟨R,S,x,rfl,y,aE,g⟩;have ai:FN (writes c++writes b) true f v:=aE.ai av (λ_=>ap);have aj:FN (writes c++writes b) true a v:=aD.trans ai (λ_ d=>d) (λ_ d=>d) (λ_=>⟨rfl,rfl⟩);have T:=ad v aj;cases H with
   |normal=>rw[<- u];exact⟨R,S,x,rfl,y,T,g⟩
   |exit i=>rw[<- u];exact⟨R,S,x,rfl,y,T,g⟩
   |goto C=>
    simp only at g;split at g
    ·rename_i aF;have aG:=Jx aF;subst aG;obtain⟨aM,aH,aI⟩:=JB g;refine⟨rfl,?_⟩;have hd:=aI v x (ah.again y rfl ai ab aH) aj;rw[ar] at hd ⊢;exact uc an (wpIn_seq (wpIn_skip hd))
    ·exact g.elim
   |ret=>rw[<- u];exact⟨R,S,x,rfl,y,T,g⟩
   |panic aJ=>exact g.elim
   |outgrown=>exact g.elim
 |exit i=>rw[<- u];exact⟨ae,af,J,rfl,M,ag,p⟩
 |goto C=>exact p.elim
 |ret=>rw[<- u];exact⟨ae,af,J,rfl,M,ag,p⟩
 |panic aJ=>exact p.elim
 |outgrown=>exact p.elim
theorem AIc {P:Q1}{f:al}{N:Nat}{b c d:Code}{l:Nat}(W:XX P f N b)(X:XX P f N c)(Y:XX P f N d){m:Nat}{p:Bool}{s:Option Nat}{L:Live}{A:List Nat}{B Z ab:bW}{j:Env}{e:aa}{u:Env->aa->Prop}{kb:iA->Env->aa->Prop}{k:Env->aa->Prop}{a:Act}{n:Nat}
  (C:p=false->s=none) (ac:(findLabel b l).isNone=true) (ad:(findLabel c l).isNone=true) (ae:Mj A (writes c++writes d)=true) (D:Fz b=true) (E:Fz c=true) (G:Fz d=true)
  (af:FZ f P N p b B j e (λj e=>FZ f P N p c Z j e
     (λg h=>Ma L g λq=>Loop (λK q e=>FZ f P N p d ab (GD L A j q) e u
      (λr g h=>match r with| .af i=>kb (.af i) g h| .eI H=>match Nat.beq H l with|true=>Ma L g λq=>K q h|false=>False) k) q h)
     (λr g h=>match r with| .af i=>kb (.af i) g h| .eI _=>False) k) (λr g h=>match r with| .af i=>kb (.af i) g h| .eI _=>False) k)
  (ag:Fits N a j):(Code.scope (.seq b (.seq c (.seq (.label l) d)))).wpIn (Fw s) m P (dj f N (writes (.scope (.seq b (.seq c (.seq (.label l) d))))) (Fz (.scope (.seq b (.seq c (.seq (.label l) d))))) a u kb k) a (f.at e n):=by
 have ah:findLabel b l=none:=by simpa using ac
 have ai:findLabel c l=none:=by simpa using ad
 have I:findLabel (.seq b (.seq c (.seq (.label l) d))) l=some (.seq .skip d):=by simp[findLabel,ah,ai]
 have aj:Fz (.scope (.seq b (.seq c (.seq (.label l) d))))=true:=by simp[Fz,D,E,G]
 have J: ∀t∈writes b,t∈writes (.scope (.seq b (.seq c (.seq (.label l) d)))):=λt v=>by simp only[writes,Fl];exact .inl v
 have M: ∀t∈writes c++writes d,t∈writes (.scope (.seq b (.seq c (.seq (.label l) d)))):=λt v=>by
  rcases List.mem_append.1 v with e|e
  ·simp only[writes,Fl];exact .inr (.inl e)
  ·simp only[writes,Fl];exact .inr (.inr (.inr e))
 generalize ap:writes (.scope (.seq b (.seq c (.seq (.label l) d))))=O at J M ⊢;rw[aj];generalize x:dj f N O true a u kb k=Q;obtain⟨R,S⟩: ∃R:Act->World->Prop,R=XH (Fw s) m P (.seq b (.seq c (.seq (.label l) d))) (.seq .skip d) Q:=⟨_,rfl⟩;refine ADt I ?_;rw[<- S];refine wpIn_seq (wpIn_mono (W m p s B j e _ _ k a n C af ag) ?_);rintro ak am aq ⟨T,U,V,rfl,y,an,o⟩;have z:FN O true a am:=an.ai J λ_=>D
 cases ak with
 |normal=>exact AIi X Y C I ae E G o y (λar ao=>z.trans ao (λ_ e=>e) M λ_=>⟨rfl,rfl⟩) x S
 |exit i=>rw[<- x];exact⟨T,U,V,rfl,y,z,o⟩
 |goto H=>exact o.elim
 |ret=>rw[<- x];exact⟨T,U,V,rfl,y,z,o⟩
 |panic au=>exact o.elim
 |outgrown=>exact o.elim
theorem AH7 {P:Q1}{y:al}{N:Nat}(a7:P.follows .mixedOrders=true): ∀(aF:Nat) (c:Code),SizeOf.sizeOf c<aF-> ∀(m:Nat) (D:Bool) (A:Option Nat) (H:bW) (k:Env) (d:aa) (q:Env->aa->Prop) (kb:iA->Env->aa->Prop) (r:Env->aa->Prop) (a:Act) (n:Nat),
  (D=false->A=none)->FZ y P N D c H k d q kb r->Fits N a k->c.wpIn (Fw A) m P (dj y N (writes c) (Fz c) a q kb r) a (y.at d n):=by
 intro aF
 induction aF with
 |zero=>intro c Z;omega
 |succ aF T=>
  intro c Z;cases c with
  |skip=>intro m D A H k d q kb r a n _ e o;exact wpIn_skip ⟨k,d,n,rfl,o,FN.refl,e⟩
  |exit id=>intro m D A H k d q kb r a n _ e o;exact wpIn_exit ⟨k,d,n,rfl,o,FN.refl,e⟩
  |ret=>intro m D A H k d q kb r a n _ e o;exact wpIn_ret ⟨k,d,n,rfl,o,FN.refl,e⟩
  |label l=>intro m D A H k d q kb r a n _ e o;exact wpIn_label ⟨k,d,n,rfl,o,FN.refl,e⟩
  |goto l=>intro m D A H k d q kb r a n _ e o;exact wpIn_goto ⟨k,d,n,rfl,o,FN.refl,e⟩
  |refuse S=>intro m D A H k d q kb r a n _ e o;simp only[FZ] at e
  |region id ai V=>
   intro m D A H k d q kb r a n _ e o;have plain: ∀X,(∀ aw aj af ax,Fits N aw aj->LZ (dstsOf ai.toList) a aw->X aj af->dj y N (writes (.region id ai V)) (Fz (.region id ai V)) a q kb r .normal aw (y.at af ax))->
     lE y P N ai V k d X->(Code.region id ai V).wpIn (Fw A) m P (dj y N (writes (.region id ai V)) (Fz (.region id ai V)) a q kb r) a (y.at d n):=
    λX a8 a9=>AFb a7 a9 o a8
   cases H with
   |bC L ak=>
    simp only[FZ] at e;split at e
    ·rename_i I;have e:=e _ (λ_ _ d=>d);refine plain _ ?_ e;intro aw aj af ax aN aq B;obtain⟨ag,u,O⟩:=JB B;exact⟨_,af,ax,rfl,o.join aN rfl (aq.g (nd:=true)) I u,aq.g,O⟩
    ·exact e.elim
   |_=>exact plain q (λaw aj af ax aN aq B=>⟨aj,af,ax,rfl,aN,aq.g,B⟩) e
  |seq x S=>
   have ay:=T x (by simp at Z;omega);have aO:=T S (by simp at Z;omega);intro m D A H k d q kb r a n Y e o;have tail: ∀(X:Env->aa->Prop) (aP aQ:bW),FZ y P N D x aP k d X kb r->
     (∀ h g j,Fits N h g->FN (writes x) (Fz x) a h->X g j-> ∃E,Fits N h E/\FZ y P N D S aQ E j q kb r)->
     (Code.seq x S).wpIn (Fw A) m P (dj y N (writes (.seq x S)) (Fz (.seq x S)) a q kb r) a (y.at d n):=by
    intro X aP aQ B am;refine wpIn_seq (wpIn_mono (ay m D A aP k d X kb r a n Y B o) ?_);intro an h aG G;have ar: ∀t∈writes x,t∈writes (.seq x S):=λt ao=>by simp only[writes,Fl];exact .inl ao
    have ba: ∀t∈writes S,t∈writes (.seq x S):=λt ao=>by simp only[writes,Fl];exact .inr ao
    have au:Fz (.seq x S)=true->Fz x=true/\Fz S=true:=λd=>by simpa [Fz] using d
    cases an with
    |normal=>
     obtain⟨g,j,U,rfl,s,C,u⟩:=G;obtain⟨E,ab,aR⟩:=am h g j s C u;refine wpIn_mono (aO m D A aQ E j q kb r h U Y aR ab) ?_;rintro aY aH aZ ⟨bb,aS,bc,rfl,bd,be,bf⟩;exact⟨bb,aS,bc,rfl,bd,C.trans be ar ba au,bf⟩
    |exit id=>obtain⟨g,j,U,rfl,s,C,u⟩:=G;exact⟨g,j,U,rfl,s,C.ai ar (λd=>(au d).1),u⟩
    |ret=>obtain⟨g,j,U,rfl,s,C,u⟩:=G;exact⟨g,j,U,rfl,s,C.ai ar (λd=>(au d).1),u⟩
    |goto l=>obtain⟨g,j,U,rfl,s,C,u⟩:=G;exact⟨g,j,U,rfl,s,C.ai ar (λd=>(au d).1),u⟩
    |panic a0=>obtain⟨_,_,_,_,_,_,u⟩:=G;exact u.elim
    |outgrown=>obtain⟨_,_,_,_,_,_,u⟩:=G;exact u.elim
   cases H with
   |seq J ah=>
    simp only[FZ] at e;exact tail _ J ah e (λh g j s _ B=>⟨g,s,B⟩)
   |bA L ak J ah=>
    simp only[FZ] at e;split at e
    ·rename_i I;simp only[A3] at I;have e:=e _ (λ_ _ d=>d);refine tail _ J ah e ?_;intro h g j s C B;obtain⟨ag,u,O⟩:=JB B;exact⟨_,o.join s I.2 C I.1 u,O⟩
    ·exact e.elim
   |_=>simp only[FZ] at e
  |cond v x S=>
   have ay:=T x (by simp at Z;omega);have aO:=T S (by simp at Z;omega);intro m D A H k d q kb r a n Y e o;cases H with
   |cond J ah=>
    simp only[FZ] at e;have e:=BN o e;cases aI:a.eval v<;>rw[aI] at e<;>simp only[] at e
    rename_i b;obtain⟨j,M⟩:=ae.mk e;refine wpIn_cond aI ?_;cases b with
    |true=>exact wpIn_mono (ay m D A J k d q kb r a n Y (j rfl) o) (λ_ _ _ G=>G.mono (λt ao=>by simp only[writes,Fl];exact .inl ao) (λd=>by simp[Fz] at d;exact d.1) (λ_ _ d=>d) (λ_ _ _ d=>d) (λ_ _ d=>d))
    |false=>exact wpIn_mono (aO m D A ah k d q kb r a n Y (M rfl) o) (λ_ _ _ G=>G.mono (λt ao=>by simp only[writes,Fl];exact .inr ao) (λd=>by simp[Fz] at d;exact d.2) (λ_ _ d=>d) (λ_ _ _ d=>d) (λ_ _ d=>d))
   |_=>simp only[FZ] at e
  |block id x=>
   have T:=T x (by simp at Z;omega);intro m D A H k d q kb r a n Y e o;have tail: ∀(X:Env->aa->Prop) (az:iA->Env->aa->Prop) (J:bW),FZ y P N D x J k d X az r->
     (∀ h g j,Fits N h g->FN (writes x) (Fz x) a h->X g j-> ∃E,Fits N h E/\q E j)->
     (∀ i h g j,Fits N h g->FN (writes x) (Fz x) a h->az (.af i) g j->(i=id/\ ∃E,Fits N h E/\q E j)\/(i≠id/\kb (.af i) g j))->(∀ l g j,az (.eI l) g j->kb (.eI l) g j)->
     (Code.block id x).wpIn (Fw A) m P (dj y N (writes (.block id x)) (Fz (.block id x)) a q kb r) a (y.at d n):=by
    intro X az J B j M aS;refine wpIn_block (wpIn_mono (T m D A J k d X az r a n Y B o) ?_);intro an h aG G;obtain⟨g,R,U,rfl,s,C,u⟩:=G;cases an with
    |normal=>obtain⟨E,ab,am⟩:=j h g R s C u;exact⟨E,R,U,rfl,ab,C,am⟩
    |exit i=>
     simp only[Exit.inBlock];rcases M i h g R s C u with⟨ac,E,ab,am⟩|⟨ac,am⟩
     ·rw[if_pos ac];exact⟨E,R,U,rfl,ab,C,am⟩
     ·rw[if_neg ac];exact⟨g,R,U,rfl,s,C,am⟩
    |ret=>exact⟨g,R,U,rfl,s,C,u⟩
    |goto l=>exact⟨g,R,U,rfl,s,C,aS l _ _ u⟩
    |panic a0=>exact u.elim
    |outgrown=>exact u.elim
   cases H with
   |block J=>
    simp only[FZ] at e;refine tail _ _ J e (λh g j s _ B=>⟨g,s,B⟩) ?_ (λ_ _ _ d=>d);intro i h g j s _ B;by_cases ac:i=id
    ·subst ac;simp only[Nat.beq_refl] at B;exact .inl ⟨rfl,g,s,B⟩
    ·simp only[TG ac] at B;exact .inr ⟨ac,B⟩
   |bJ L ak J=>
    simp only[FZ] at e;split at e
    ·rename_i I;simp only[A3] at I;have e:=e _ (λ_ _ d=>d);have a1: ∀h g j,Fits N h g->FN (writes x) (Fz x) a h->Ma L g (λag=>q (GD L ak k ag) j)-> ∃E,Fits N h E/\q E j:=by intro h g j s C B;obtain⟨ag,u,O⟩:=JB B;exact⟨_,o.join s I.2 C I.1 u,O⟩
     refine tail _ _ J e a1 ?_ (λ_ _ _ d=>d);intro i h g j s C B;by_cases ac:i=id
     ·subst ac;simp only[Nat.beq_refl] at B;exact .inl ⟨rfl,a1 h g j s C B⟩
     ·simp only[TG ac] at B;exact .inr ⟨ac,B⟩
    ·exact e.elim
   |_=>simp only[FZ] at e
  |loop x=>
   have T:=T x (by simp at Z;omega);intro m D A H k d q kb r a n Y e o;cases H with
   |loop L ak J=>
    simp only[FZ] at e;split at e
    ·rename_i I;simp only[A3] at I;obtain⟨ag,u,e⟩:=JB e;have bg:Fits N a (GD L ak k ag):=o.join o I.2 (FN.refl (W:=writes x)) I.1 u
     let K:gJ L->aa->Prop:=λag d=> ∀h n,Fits N h (GD L ak k ag)->FN (writes x) (Fz x) a h->
      x.wpIn (Fw A) m P (Exit.then (lI (Fw A) m P x (dj y N (writes x) (Fz x) a q kb r)) (dj y N (writes x) (Fz x) a q kb r)) h (y.at d n)
     have aq:=e K ?_
     ·exact AFc (aq a n bg FN.refl)
     ·intro ag d bh h n s C;refine wpIn_mono (T m D A J _ d _ kb r h n Y bh s) ?_;intro an aH aZ G;obtain⟨E,M,av,rfl,ab,aT,O⟩:=G;have aJ:FN (writes x) (Fz x) a aH:=C.trans aT (λ_ d=>d) (λ_ d=>d) (λd=>⟨d,d⟩);cases an with
      |normal=>
       obtain⟨bV,bi,aR⟩:=JB O;exact AG8 (aR aH av (s.again ab I.2 aT I.1 bi) aJ)
      |exit i=>exact⟨E,M,av,rfl,ab,aJ,O⟩
      |ret=>exact⟨E,M,av,rfl,ab,aJ,O⟩
      |goto l=>exact⟨E,M,av,rfl,ab,aJ,O⟩
      |panic a0=>exact O.elim
      |outgrown=>exact O.elim
    ·exact e.elim
   |_=>simp only[FZ] at e
  |rangeFunc f ps aK x=>
   have bj:=T aK (by simp at Z;omega);have ay:=T x (by simp at Z;omega);intro m D A H k d q kb r a n Y e o;cases H with
   |range a2 J ah=>
    simp only[FZ] at e;split at e
    ·rename_i a3;simp only[A3,CA,CI] at a3;obtain⟨⟨bk,aL⟩,bm⟩:=a3;have aL:=Jx aL;have bn:=Y bk;subst bn;have e:=BN o e;refine wpIn_rangeFunc λfn _=>?_
     let aA:Go.Loop:= {state:= .ready,pending:=none,fn,tmps:=a.tmps,params:=ps,assign:=aK,body:=x,defers:=d.size}
     have bo: ∀args:List J0,args.length=ps.size-> ∀(R:aa) (ap:A2O),R[d.size+1]? =some (.loop aA)->
       FZ y P N true aK J (jI {get:=k.get,ds:= []} ps.toList args) R
        (λaj af=> ∃aM,af[d.size+1]? =some (.loop aM)/\aM.state= .ready/\
         FZ y P N true x ah aj (af.setIfInBounds (d.size+1) (.loop {aM with state:= .busy}))
          (λ_ M=> ∃ad,M[d.size+1]? =some (.loop ad)/\ap (.bool true) (M.setIfInBounds (d.size+1) (.loop {ad with state:= .ready,pending:=none})))
          (λaU _ M=>match aU with| .af i=>(∃ ad,M[d.size+1]? =some (.loop ad)/\ap (.bool false) (M.setIfInBounds (d.size+1) (.loop {ad with state:= .done,pending:=some (ZJ (some i))})))| .eI _=>False)
          (λ_ M=> ∃ad,M[d.size+1]? =some (.loop ad)/\ap (.bool false) (M.setIfInBounds (d.size+1) (.loop {ad with state:= .done,pending:=some (ZJ none)}))))
        (λ_ _ _=>False) (λ_ _=>False)->
       Du y P (.func (.yield (d.size+1)) #[] #[]) args.toArray R ap:=by
      intro args bp R ap aV aW n;have bq:(do let V <-Deferred.ofValue (.func (.yield (d.size+1)) #[] #[]) args.toArray;invoke V.target V.args:Sem Next).run P (y.at R n)=
        .ok (.round (d.size+1) fn ((ps.zip args.toArray).foldl (λtmps (t,a)=>tmps.setIfInBounds t a) a.tmps) aK x) (y.at R n):=by
       have br: ¬(args.toArray).size≠ps.size:=by simp[bp]
       simp only[Deferred.ofValue,Sem.run_bind,Sem.run_pure,Result.andThen_ok,invoke,Instr.yield,run_getLoop aV,Array.empty_append];show Sem.run P (if(args.toArray).size≠ps.size then _ else _) _=_;rw[if_neg br];rfl
      rw[bq];simp only[Next.out];have bs:Fits N {tmps:=(ps.zip args.toArray).foldl (λtmps (t,a)=>tmps.setIfInBounds t a) a.tmps,defers:= []} (jI {get:=k.get,ds:= []} ps.toList args):=by have bt:Fits N {tmps:=a.tmps,defers:= []} {get:=k.get,ds:= []}:=⟨o.size,o.get,rfl⟩;have:=ud ps.toList args _ a.tmps (λp G=>by simpa using bm p G) bt;rw[<- Array.foldl_toList,Array.toList_zip];exact this
      refine roundIn_of_wpIn trivial (wpIn_mono (bj 0 true (some (d.size+1)) J _ R _ _ _ _ n (λd=>by cases d) aW bs) ?_);intro an h aG G;obtain⟨g,j,U,rfl,s,C,u⟩:=G;cases an<;>simp only at u
      obtain⟨aM,bu,bv,bw⟩:=u;refine⟨_,run_beginRound bu bv,?_⟩;refine wpIn_mono (ay 0 true (some (d.size+1)) ah _ _ _ _ _ h U (λd=>by cases d) bw s) ?_;intro aY aH aZ bx;obtain⟨E,M,av,rfl,ab,aT,O⟩:=bx;cases aY<;>simp only at O
      ·obtain⟨ad,aC,aD⟩:=O;exact⟨_,_,run_endRound aC,_,rfl,_,_,rfl,aD⟩
      ·obtain⟨ad,aC,aD⟩:=O;exact⟨_,_,run_endRound aC,_,rfl,_,_,rfl,aD⟩
      ·obtain⟨ad,aC,aD⟩:=O;exact⟨_,_,run_endRound aC,_,rfl,_,_,rfl,aD⟩
     obtain⟨bz,bB,bD,bE⟩:=e aA rfl rfl aL.symm (λx R ap aV aW=>bo (kp a2 x) ((Xb a2 x).trans aL) R ap aV aW);obtain⟨nx,bF,rfl⟩:=MJ bD;have aE:=bF (y.at ((d.push (.deferred (some []))).push (.loop aA)) n);rw[Sem.run_bind] at aE;have bG:(resolve a.eval (rangeCall f (d.size+1)) 0)=Deferred.ofValue (a.eval f) #[.func (.yield (d.size+1)) #[] #[]]:=by simp[resolve,Act.eval]
     cases hd:(Deferred.ofValue (a.eval f) #[.func (.yield (d.size+1)) #[] #[]]).run P (y.at ((d.push (.deferred (some []))).push (.loop aA)) n) with
     |halt S w=>rw[hd] at aE;cases aE
     |ok V aG=>
      rw[hd] at aE;have ar:aG=y.at ((d.push (.deferred (some []))).push (.loop aA)) n:=by cases aI:a.eval f<;>rw[aI] at hd<;>simp[Deferred.ofValue] at hd<;>first|exact hd.2.symm|(cases hd)
      subst ar;refine⟨d.size+1,[Zu d.size],_,V,_,bz,bB,_,AEN,by rw[bG];exact hd,λ_ _=>trivial,aE,λau=>by simp at au,Vu.2 (Calls.mono (bE n) ?_)⟩;rintro bX bY ⟨v,rfl,M,av,rfl,a4,bH,bI,a5⟩;have aX:Fits N {a with defers:= [Zu d.size]++a.defers} {get:=k.get,ds:=d.size::k.ds}:=⟨o.size,o.get,by simp[o.ds]⟩;refine⟨a4.pending,_,run_endLoop bH bI,?_⟩;generalize M.setIfInBounds (d.size+1) (.loop {a4 with state:= .exhausted})=bZ at a5 ⊢;rcases a5 with⟨G,bK⟩|⟨aU,G,a6⟩
      ·rw[G];exact⟨_,_,_,rfl,aX,⟨λ_ _=>rfl,λd=>by simp[Fz] at d⟩,bK⟩
      ·rw[G];cases aU with
       |none=>exact wpIn_ret ⟨_,_,_,rfl,aX,⟨λ_ _=>rfl,λd=>by simp[Fz] at d⟩,a6⟩
       |some i=>exact wpIn_exit ⟨_,_,_,rfl,aX,⟨λ_ _=>rfl,λd=>by simp[Fz] at d⟩,a6⟩
    ·exact e.elim
   |_=>simp only[FZ] at e
  |scope b=>
   intro m D A H k d q kb r a n Y e o;cases b with
   |seq bL bM=>
    cases bM with
    |seq c S=>
     cases S with
     |seq z V=>
      cases z with
      |label l=>
       cases H with
       |scope L ak b0 J ah=>
        simp only[FZ] at e;split at e
        ·rename_i I;simp only[A3] at I;obtain⟨⟨bN,bO⟩,I,bP,bQ,bR⟩:=I;have bS:=T bL (by simp at Z;omega);have bT:=T c (by simp at Z;omega);have bU:=T V (by simp at Z;omega);exact AIc bS bT bU Y bN bO I bP bQ bR e o
        ·exact e.elim
       |_=>simp only[FZ] at e
      |_=>simp only[FZ] at e
     |_=>simp only[FZ] at e
    |_=>simp only[FZ] at e
   |_=>simp only[FZ] at e
theorem AJN {P:Q1}{b:al}{N:Nat}(k:P.follows .mixedOrders=true)(c:Code)(m:Nat)(d:Bool)(e:Option Nat)(j:bW)(f:Env)(g:aa)(h:Env->aa->Prop)(kb:iA->Env->aa->Prop)(i:Env->aa->Prop)(a:Act)(n:Nat)
  (l:d=false->e=none) (o:FZ b P N d c j f g h kb i) (p:Fits N a f):c.wpIn (Fw e) m P (dj b N (writes c) (Fz c) a h kb i) a (b.at g n):=
 AH7 k (SizeOf.sizeOf c+1) c (HP _) m d e j f g h kb i a n l o p
end Go.Lf
