/-
 LIFT, part A: worlds as heaps beside a fixed rest; one operation's outcome at the level of values; a region that draws its order, walked in the text's order.
-/
import Derived.WalkKit
import Derived.OrdersIn
import Derived.RangeFuncIn
import Derived.RangeFuncLeaves
import Derived.RangeFuncCalls
import Derived.TacticsInMore
set_option maxRecDepth 100000
set_option linter.unusedVariables false
set_option linter.unusedSimpArgs false
open Go.IntKind renaming i64→J9,wrap→J8
open Go.Value renaming string→J7,int→J6,pointer→J5,slice→J4,bool→J3,tuple→J1
open Go.Obj renaming cells→J2
open Go renaming Value→J0,Addr→Q6,TypeId→Q7,FuncId→Q8,Program→Q1
open Go.Addr renaming add→Q9,mk→Q5
namespace Go.Lf
abbrev Q2:=Option Q6
abbrev A2P:=ByteArray
abbrev A0:=@Nat.le_refl
abbrev A1:=@List.length_append
abbrev A2:=@List.getElem?_eq_getElem
abbrev A3:=@Bool.and_eq_true
abbrev A4:=@List.append_assoc
abbrev A5:=@Nat.le_trans
abbrev A6:=@List.length_cons
abbrev An:=@List.mem_cons_of_mem
abbrev As:=@Int.toNat_natCast
abbrev Ax:=@Nat.mod_eq_of_lt
abbrev AD:=@List.take_add_one
abbrev AE:=@List.take_of_length_le
abbrev AF:=@List.mem_of_getElem?
abbrev AG:=@Nat.zero_le
abbrev AH:=@List.length_take
abbrev AI:=@List.flatMap_cons
abbrev AK:=@Nat.zero_add
abbrev AM:=@List.mem_cons_self
abbrev AN:=@List.append_nil
abbrev AS:=@Nat.mul_le_mul_right
abbrev AT:=@List.getElem_mem
abbrev AW:=@List.filter_cons
abbrev B9:=@List.map_map
abbrev Bk:=@List.getElem?_map
abbrev Bm:=@List.getElem?_drop
abbrev Bs:=@Option.some.inj
abbrev By:=@Nat.mul_one
abbrev BE:=@List.length_map
abbrev BT:=@Nat.le_succ
abbrev BW:=@Nat.add_mul
abbrev BY:=@Option.some.injEq
abbrev C2:=@List.map_cons
abbrev C5:=@List.take_length
abbrev Cd:=@List.map_append
abbrev Cl:=@Bool.false_eq_true
abbrev Cp:=@Bool.or_eq_true
abbrev CA:=@Bool.not_eq_true'
abbrev CC:=@List.all_eq_true
abbrev CD:=@List.eq_nil_of_length_eq_zero
abbrev CH:=@Array.getElem?_eq_getElem
abbrev CI:=@List.nil_append
abbrev CM:=@Nat.mod_lt
abbrev CN:=@Option.toList_some
abbrev CT:=@List.map_congr_left
abbrev Dd:=@List.length_singleton
abbrev Ds:=@Nat.mul_comm
abbrev DA:=@List.getElem_of_mem
abbrev DB:=@Iff.rfl
abbrev DE:=@List.getElem?_append_right
abbrev DG:=@List.take_append_drop
abbrev DH:=@List.length_drop
abbrev DM:=@List.mem_of_mem_take
abbrev DO:=@List.find?_cons
abbrev DP:=@Bool.true_and
abbrev DQ:=@Array.length_toList
abbrev DS:=@Array.getElem?_setIfInBounds_ne
abbrev E0:=@List.getElem?_take
abbrev Ek:=@Bool.eq_iff_iff
abbrev F0:=@List.cons_append
abbrev F2:=@Nat.pow_succ
abbrev Fc:=@List.getElem?_append_left
abbrev Fk:=@List.drop_eq_getElem_cons
abbrev Fl:=@List.mem_append
abbrev Fm:=@Array.toList_setIfInBounds
abbrev Fo:=@List.mem_append_left
abbrev Ft:=@Bool.false_and
abbrev FF:=@List.flatMap_append
abbrev FG:=@List.length_nil
abbrev G0:=@Nat.lt_or_ge
abbrev G3:=@Nat.mul_assoc
abbrev G4:=@Function.comp_def
abbrev Ge:=@List.getElem?_of_mem
abbrev Gk:=@Nat.add_zero
abbrev GB:=@Nat.add_assoc
abbrev GC:=@Nat.lt_of_lt_of_le
abbrev GF:=@Nat.min_eq_left
abbrev GO:=@Array.getElem?_modify
abbrev GP:=@List.sum_cons
abbrev GS:=@Int.le_refl
abbrev GW:=@Nat.pow_add
abbrev Hb:=@List.mem_range
abbrev Hc:=@List.filter_sublist
abbrev Hh:=@List.mem_append_right
abbrev Hi:=@Option.bind_some
abbrev Hj:=@Bool.or_eq_false_iff
abbrev Hk:=@Array.toList_modify
abbrev Hn:=@List.getElem?_cons_zero
abbrev Hv:=@Nat.sub_zero
abbrev HA:=@List.drop_of_length_le
abbrev HC:=@Nat.two_pow_pos
abbrev HD:=@List.mem_cons
abbrev HE:=@List.find?_eq_none
abbrev HG:=@Bool.or_true
abbrev HI:=@List.set_append_right
abbrev HJ:=@List.getElem?_set_self
abbrev HK:=@Nat.lt_succ_self
abbrev HL:=@Nat.zero_mul
abbrev HM:=@List.drop_succ_cons
abbrev HN:=@List.drop_drop
abbrev HP:=@Nat.lt_trichotomy
abbrev HQ:=@List.mem_of_mem_drop
abbrev HS:=@List.take_succ_cons
abbrev HT:=@List.foldl_append
abbrev HU:=@List.foldl_cons
abbrev HW:=@List.cons.injEq
abbrev HX:=@List.take_zero
abbrev I0:=@Int.mul_assoc
abbrev I2:=@Int.pow_add
abbrev I3:=@Bool.eq_false_iff
abbrev Is:=@Nat.le_add_right
abbrev It:=@List.filter_congr
abbrev Iv:=@Array.mem_of_getElem?
abbrev Ix:=@List.find?_some
abbrev ID:=@List.mem_of_find?_eq_some
abbrev IF:=@List.Perm.refl
abbrev IH:=@Nat.eq_of_beq_eq_true
abbrev IN:=@Option.getD_some
abbrev IS:=@Nat.sub_self
abbrev IT:=@Option.map_some
abbrev Jx:=@List.getElem?_take_of_lt
abbrev JT:=@Nat.add_sub_cancel
abbrev Kd:=@List.getElem?_set_ne
abbrev Kf:=@List.all_cons
abbrev Kp:=@ByteArray.data_append
abbrev Ks:=@List.append_cancel_left
abbrev Kx:=@ByteArray.size_append
abbrev KB:=@Nat.or_lt_two_pow
abbrev KK:=@List.map_id
abbrev Lk:=@List.take_append
abbrev Ln:=@Nat.shiftLeft_zero
abbrev Lo:=@Nat.xor_lt_two_pow
abbrev Lq:=@Bool.and_false
abbrev Ly:=@Nat.add_le_add_left
abbrev Lz:=@List.map_flatMap
abbrev LI:=@Bool.not_true
abbrev LL:=@Array.mem_toList_iff
abbrev LN:=@List.getElem_inj
abbrev LO:=@Option.none_or
abbrev LR:=@List.getElem?_eq_none
abbrev LS:=@Array.getElem?_toList
abbrev Mb:=@Array.getElem?_append_left
abbrev Mn:=@ByteArray.ext_iff
abbrev Mu:=@List.takeWhile_cons
abbrev My:=@List.getElem?_set
abbrev Mz:=@List.getElem?_toArray
abbrev MA:=@List.toList_toArray
abbrev MD:=@Nat.lt_or_gt_of_ne
abbrev MT:=@List.drop_append_of_le_length
abbrev MY:=@List.foldl_nil
abbrev N2:=@Prod.mk.injEq
abbrev N3:=@List.mem_map_of_mem
abbrev N4:=@Array.toList_append
abbrev N5:=@List.range_succ
abbrev N6:=@List.flatten_append
abbrev Nd:=@List.pairwise_map
abbrev No:=@Nat.one_mul
abbrev Nx:=@List.drop_zero
abbrev NO:=@List.take_append_of_le_length
abbrev NX:=@Array.ext'
abbrev Of:=@Nat.shiftLeft_eq
abbrev On:=@Nat.log2_lt
abbrev OF:=@Int.natAbs_natCast
abbrev OK:=@Nat.le_of_not_lt
abbrev ON:=@Nat.max_comm
abbrev OR:=@Nat.min_comm
abbrev OS:=@List.range_eq_range'
abbrev P0:=@List.filter_append
abbrev P2:=@Bool.not_false
abbrev P3:=@List.any_eq_true
abbrev P4:=@Nat.min_eq_right
abbrev Pa:=@List.filter_map
abbrev Pc:=@List.set_getElem_self
abbrev PA:=@List.drop_length
abbrev PB:=@List.mapM_cons
abbrev PC:=@List.getElem?_cons_succ
abbrev PF:=@Array.getElem?_push_lt
abbrev PJ:=@Array.getElem?_push_size
abbrev R0:=@List.drop_append
abbrev R1:=@Array.size_setIfInBounds
abbrev R2:=@List.map_set
abbrev Rg:=@List.length_set
abbrev Rr:=@List.pairwise_singleton
abbrev RC:=@List.findSome?_cons
abbrev RE:=@List.findSome?_eq_none_iff
abbrev RK:=@Nat.pow_le_pow_right
abbrev RM:=@List.pairwise_cons
abbrev RR:=@ByteArray.size_extract
abbrev RT:=@Nat.lt_of_le_of_lt
abbrev RW:=@Nat.div_le_self
abbrev Se:=@List.length_filter_le
abbrev Sf:=@Array.toList_push
abbrev Sh:=@List.map_nil
abbrev Sp:=@List.mem_singleton
abbrev Ss:=@List.take_take
abbrev SD:=@Int.neg_mul
abbrev SJ:=@Nat.le_log2
abbrev SM:=@Nat.mul_lt_mul_of_pos_right
abbrev SO:=@List.reverse_cons
abbrev SP:=@Nat.pow_pos
abbrev SR:=@ByteArray.ext
abbrev SU:=@ByteArray.data_extract
abbrev SW:=@Array.toList_extract
abbrev SZ:=@Bool.false_or
abbrev T4:=@List.all_append
abbrev T6:=@List.nodup_iff_pairwise_ne
abbrev Tl:=@List.getLast?_concat
abbrev To:=@List.mem_of_getLast?
abbrev Tr:=@List.filter_filter
abbrev TX:=@List.exists_mem_of_ne_nil
abbrev UP:=@List.perm_append_singleton
abbrev Vc:=@Nat.add_sub_cancel_left
abbrev Wa:=@List.length_eq_zero_iff
abbrev Wb:=@List.append_eq_nil_iff
abbrev Wf:=@List.mem_or_eq_of_mem_set
abbrev Wk:=@Nat.div_div_eq_div_mul
abbrev Wr:=@Int.fdiv_eq_ediv_of_nonneg
abbrev WD:=@List.setIfInBounds_toArray
abbrev XS:=@Array.mapM_eq_mapM_toList
abbrev Ys:=@Nat.le_of_ble_eq_true
abbrev Zs:=@List.filterMap_cons
abbrev A02:=@List.takeWhile_sublist
abbrev A06:=@List.drop_eq_nil_of_le
abbrev A0b:=@List.set_eq_take_append_cons_drop
abbrev A0f:=@Bool.and_eq_false_iff
abbrev A0g:=@List.getElem?_concat_length
abbrev A0i:=@List.exists_of_findSome?_eq_some
abbrev A0j:=@Option.map_eq_some_iff
abbrev A0k:=@List.mem_of_mem_erase
abbrev A0l:=@List.length_erase_of_mem
abbrev A0n:=@List.cons_lt_cons_iff
abbrev A0q:=@Array.toList_eraseIdx
abbrev A0t:=@List.singleton_append
abbrev A0C:=@List.length_eraseIdx_le
abbrev A0P:=@Nat.two_pow_add_eq_or_of_lt
abbrev A0S:=@List.length_mergeSort
abbrev A0X:=@List.getElem?_singleton
structure ak where
 tape:Nat->Question->Nat
 os:Os
 output:Array (Nat×A2P)
abbrev aa:=Array Obj
abbrev A2O:=J0->aa->Prop
def ak.at(A:ak)(a:aa)(b:Nat):World:= {heap:=a,tape:=A.tape,drawn:=b,os:=A.os,output:=A.output}
abbrev Fw(r:Option Nat):Fence:= {fn:=λ_=>True,depth:=none,alive:=false,round:=r}
theorem rW(r:Option Nat)(a:Nat):(Fw r).room a:=λ_ b=>by simp at b
theorem WL {r:Option Nat}{c:Nat}{P:Q1}{f:Q8}{args:Array J0}{a:World}{b:Ending->World->Prop}:
  CallsIn (Fw r) c P f args a b↔Calls P f args a b:=callsIn_wide
def kP(P:Q1)(l:Nat)(f:Q8)(tmps:Array J0)(assign body:Code)(a:World)(b:J0->World->Prop):Prop:=
 RoundIn (Fw none) 0 P l f tmps assign body a (λc d=> ∃v,c= .returned v/\b v d)
theorem kP.mono {P:Q1}{l:Nat}{f:Q8}{tmps:Array J0}{assign body:Code}{a:World}{b c:J0->World->Prop}
  (e:kP P l f tmps assign body a b) (g: ∀v d,b v d->c v d):kP P l f tmps assign body a c:=
 RoundIn.mono e λ_ _ ⟨v,h,i⟩=>⟨v,h,g _ _ i⟩
theorem AJy {r:Option Nat}{d:Nat}{P:Q1}{l:Nat}{f:Q8}{tmps:Array J0}{assign body:Code}{a:World}{b:Ending->World->Prop}
  (e:RoundIn (Fw none) 0 P l f tmps assign body a b):RoundIn (Fw r) d P l f tmps assign body a b:=
 ⟨trivial,λc g _=>e.2 c g (rW none _)⟩
def Next.out(P:Q1)(K:J0->World->Prop):Result Next->Prop
 | .ok (.value v) a=>K v a
 | .ok .skip a=>K undef a
 | .ok (.enter f args) a=>Calls P f args a (λb c=> ∃v,b= .returned v/\K v c)
 | .ok (.round l f tmps assign body) a=>kP P l f tmps assign body a K
 |_=>False
def EV(P:Q1)(a:Oper)(b:Operand->J0)(c:World)(K:J0->World->Prop):Prop:=Next.out P K ((execOp b a).run P c)
theorem Next.cm {P:Q1}{K d:J0->World->Prop}(c: ∀v b,K v b->d v b){x:Result Next}(a:Next.out P K x):Next.out P d x:=by
 cases x with
 |ok e b=>
  cases e<;>simp only[Next.out] at a ⊢ <;>
   first
    |exact c _ _ a
    |exact Calls.mono a λ_ _ ⟨v,f,g⟩=>⟨v,f,c _ _ g⟩
    |exact kP.mono a c
 |halt x b=>simp only[Next.out] at a
theorem EV.mono {P:Q1}{b:Oper}{c:Operand->J0}{a:World}{K d:J0->World->Prop}(e:EV P b c a K)(f: ∀v a,K v a->d v a):EV P b c a d:=Next.cm f e
theorem Calls.some {P:Q1}{f:Q8}{args:Array J0}{d:World}{c:Ending->World->Prop}(e:Calls P f args d c): ∃a b,c a b:=
 let ⟨a,b,_,r,_⟩:=e [];⟨a,b,r⟩
theorem EV.some {P:Q1}{e:Oper}{g:Operand->J0}{h:World}{K:J0->World->Prop}(a:EV P e g h K): ∃v b,K v b:=by
 unfold EV at a;cases i:(execOp g e).run P h with
 |ok j b=>
  rw[i] at a;cases j<;>simp only[Next.out] at a
  case value v=>exact⟨_,_,a⟩
  case skip=>exact⟨_,_,a⟩
  case enter f args=>obtain⟨k,c,v,_,d⟩:=Calls.some a;exact⟨v,c,d⟩
  case round l f tmps assign body=>
   obtain⟨k,c,⟨v,_,d⟩,_⟩:=a.2 default [] (rW none _);exact⟨v,c,d⟩
 |halt j b=>rw[i] at a;simp only[Next.out] at a
def IE(a:Oper):Bool:=match a.op with| .defer _=>false| .select .. =>false|_=>true
theorem EV.wpIn {r:Option Nat}{m:Nat}{P:Q1}{b:Oper}{a:Act}{e:World}{K:Act->World->Prop}{Q:Exit->Act->World->Prop}
  (hd:IE b=true) (d:EV P b a.eval e λv g=>K (a.put b.dst v) g):b.wpIn (Fw r) m P a e K Q:=by
 refine⟨λ_ _=>trivial,?_⟩;have k:Oper.semAt r a.eval b=execOp a.eval b:=Oper.semAt_eq r a.eval b (λc n=>by simp[IE,n] at hd);show b.uponIn (Fw r) m P a K Q ((Oper.semAt r a.eval b).run P e);rw[k];unfold EV at d;generalize (execOp a.eval b).run P e=x at d;cases x with
 |ok j g=>
  cases j<;>simp only[Next.out] at d<;>simp only[Oper.uponIn]
  case value v=>exact d
  case skip=>exact d
  case enter f args=>
   refine⟨λh=>by simp at h,WL.2 (Calls.mono d ?_)⟩;rintro o p ⟨v,rfl,i⟩;exact i
  case round l f tmps assign body=>
   refine⟨λh=>by simp at h,AJy (RoundIn.mono d ?_)⟩;rintro o p ⟨v,rfl,i⟩;exact i
 |halt j g=>simp only[Next.out] at d
section
variable {P : Q1} {A : ak} {r : Option Nat} {ops : Array Oper}
def dt(P:Q1)(A:ak)(c:Oper)(d:Operand->J0)(v:J0)(a:aa):Prop:= ∀b,(execOp d c).run P (A.at a b)= .ok (.value v) (A.at a b)
def un(ord:Nat->Nat->Bool)(i a:Nat):Bool:= !(ord (max i a) (min i a))
def FA(P:Q1)(A:ak)(ops:Array Oper)(qb:Oper->Bool)(ord:Nat->Nat->Bool)(Q:Act->aa->Prop):
  List Nat->Act->aa->List (Nat×(aa->Prop))->List (Nat×aa)->Prop
 | [],a,c,_,_=>Q a c
 |i::rest,a,c,d,e=>
  match ops[i]? with
  |none=>False
  |some b=>
   if Region.wanted b (yielded ops a.tmps)=true then
    if qb b=true then
     ∃v,dt P A b a.eval v c/\(∀ p∈e,un ord i p.1=true->dt P A b a.eval v p.2)/\FA P A ops qb ord Q rest (a.put b.dst v) c ((i,dt P A b a.eval v)::d) e
    else
     ∀g,EV P b a.eval (A.at c g) λv h=> ∃f j,h=A.at f j/\(∀ p∈d,un ord i p.1=true->p.2 f)/\FA P A ops qb ord Q rest (a.put b.dst v) f d ((i,c)::e)
   else FA P A ops qb ord Q rest (a.put b.dst undef) c d e
variable {qb : Oper -> Bool} {ord : Nat -> Nat -> Bool} {Q : Act -> aa -> Prop}
theorem FA.sub: ∀ {l:List Nat} {a:Act} {d:aa} {g h:List (Nat×(aa->Prop))} {j k:List (Nat×aa)},FA P A ops qb ord Q l a d g j->
  (∀ p∈h,p∈g)->(∀ p∈k,p∈j)->FA P A ops qb ord Q l a d h k:=by
 intro l
 induction l with
 |nil=>intro a d _ _ _ _ b _ _;exact b
 |cons i rest m=>
  intro a d g h j k b e f;unfold FA at b ⊢;cases t:ops[i]? with
  |none=>rw[t] at b;exact b
  |some B=>
   rw[t] at b;simp only at b ⊢;split
   ·rename_i n;rw[if_pos n] at b;split
    ·rename_i o;rw[if_pos o] at b;obtain⟨v,u,q,s⟩:=b;refine⟨v,u,λp c=>q p (f p c),m s (λp c=>?_) f⟩;rcases List.mem_cons.1 c with rfl|c
     ·exact AM
     ·exact An _ (e p c)
    ·rename_i o;rw[if_neg o] at b;intro w;refine(b w).mono ?_;rintro v C ⟨x,y,z,q,s⟩;refine⟨x,y,z,λp c=>q p (e p c),m s e (λp c=>?_)⟩;rcases List.mem_cons.1 c with rfl|c
     ·exact AM
     ·exact An _ (f p c)
   ·rename_i n;rw[if_neg n] at b;exact m b e f
def Ez(a:Oper):Prop:= ∀c b,a.op≠ .select c b
theorem FA.swap {i m:Nat}{c d:Oper}(F:ops[i]? =some c)(q:ops[m]? =some d)(X:c.apart ops d=true)(Y:Ez c)(Z:Ez d)
  (K:un ord i m=true) (ab:qb c=true\/qb d=true) {l:List Nat} {a:Act} {e:aa} {H:List (Nat×(aa->Prop))} {I:List (Nat×aa)}
  (b:FA P A ops qb ord Q (m::i::l) a e H I):FA P A ops qb ord Q (i::m::l) a e H I:=by
 obtain⟨U,ac,V⟩:=Oper.apart_spec X;have ai:un ord m i=true:=by unfold un at *;rwa [ON,OR]
 have L: ∀u,execOp (a.put d.dst u).eval c=execOp a.eval c:=λu=>execOp_put c Y a d.dst u V
 have M: ∀u,execOp (a.put c.dst u).eval d=execOp a.eval d:=λu=>execOp_put d Z a c.dst u U
 have J: ∀u,Region.wanted c (yielded ops (a.put d.dst u).tmps)=Region.wanted c (yielded ops a.tmps):=λu=>wanted_put c a d.dst u V
 have w: ∀u,Region.wanted d (yielded ops (a.put c.dst u).tmps)=Region.wanted d (yielded ops a.tmps):=λu=>wanted_put d a c.dst u U
 have N: ∀u,dt P A c (a.put d.dst u).eval=dt P A c a.eval:=λu=>by funext v e;unfold dt;rw[L]
 have O: ∀u,dt P A d (a.put c.dst u).eval=dt P A d a.eval:=λu=>by funext v e;unfold dt;rw[M]
 have x: ∀v u,(a.put c.dst v).put d.dst u=(a.put d.dst u).put c.dst v:=λv u=>Act.put_comm a v u ac
 unfold FA at b ⊢;rw[q] at b;rw[F];simp only at b ⊢;by_cases n:Region.wanted d (yielded ops a.tmps)=true
 ·rw[if_pos n] at b;by_cases y:qb d=true
  ·rw[if_pos y] at b;obtain⟨R,S,T,b⟩:=b;unfold FA at b;rw[F] at b;simp only[J,N] at b;by_cases o:Region.wanted c (yielded ops a.tmps)=true
   ·rw[if_pos o] at b ⊢;by_cases z:qb c=true
    ·rw[if_pos z] at b ⊢;obtain⟨h,B,C,b⟩:=b;refine⟨h,B,C,?_⟩;unfold FA;rw[q];simp only[w,O];rw[if_pos n,if_pos y];refine⟨R,S,T,?_⟩;rw[x];exact b.sub (λp f=>by simp only[HD] at f ⊢;rcases f with e|e|e<;>simp[e]) (λ_ e=>e)
    ·rw[if_neg z] at b ⊢;intro j;have:=b j;unfold EV at this;rw[L] at this;refine EV.mono this ?_;rintro h D ⟨g,k,s,f,b⟩;refine⟨g,k,s,λp t=>f p (An _ t),?_⟩;unfold FA;rw[q];simp only[w,O];rw[if_pos n,if_pos y];refine⟨R,f _ AM K,?_,?_⟩
     ·intro p t G;rcases List.mem_cons.1 t with rfl|t
      ·exact S
      ·exact T p t G
     ·rw[x];exact b
   ·rw[if_neg o] at b ⊢;unfold FA;rw[q];simp only[w,O];rw[if_pos n,if_pos y];exact⟨R,S,T,by rw[x];exact b⟩
  ·rw[if_neg y] at b;have z:qb c=true:=ab.resolve_right y;by_cases o:Region.wanted c (yielded ops a.tmps)=true
   ·rw[if_pos o,if_pos z];have key: ∀j,EV P d a.eval (A.at e j) λv D=> ∃g k,D=A.at g k/\(∀ p∈H,un ord m p.1=true->p.2 g)/\
      ∃h,dt P A c a.eval h g/\(∀ p∈(m,e)::I,un ord i p.1=true->dt P A c a.eval h p.2)/\
       FA P A ops qb ord Q l ((a.put d.dst v).put c.dst h) g ((i,dt P A c a.eval h)::H) ((m,e)::I):=by
     intro j;refine(b j).mono ?_;rintro v D ⟨g,k,s,f,b⟩;unfold FA at b;rw[F] at b;simp only[J,N] at b;rw[if_pos o,if_pos z] at b;exact⟨g,k,s,f,b⟩
    obtain⟨aj,ak,al,am,_,_,h,_,C,_⟩:=(key 0).some;have B:dt P A c a.eval h e:=C (m,e) AM K;refine⟨h,B,λp f G=>C p (An _ f) G,?_⟩;unfold FA;rw[q];simp only[w];rw[if_pos n,if_neg y];intro j;have:=key j;unfold EV at this ⊢;rw[M];refine Next.cm ?_ this;rintro v D ⟨g,k,s,f,W,ad,ae,b⟩;have af:dt P A c a.eval W e:=ae (m,e) AM K;have ag:W=h:=by have ah:=B 0;have E:=af 0;rw[ah] at E;injection E with E _;injection E with E;exact E.symm
    subst ag;refine⟨g,k,s,?_,?_⟩
    ·intro p t G;rcases List.mem_cons.1 t with rfl|t
     ·exact ad
     ·exact f p t G
    ·rw[x];exact b
   ·rw[if_neg o];unfold FA;rw[q];simp only[w];rw[if_pos n,if_neg y];intro j;have:=b j;unfold EV at this ⊢;rw[M];refine Next.cm ?_ this;rintro v D ⟨g,k,s,f,b⟩;unfold FA at b;rw[F] at b;simp only[J] at b;rw[if_neg o] at b;exact⟨g,k,s,f,by rw[x];exact b⟩
 ·rw[if_neg n] at b;unfold FA at b;rw[F] at b;simp only[J,N] at b;by_cases o:Region.wanted c (yielded ops a.tmps)=true
  ·rw[if_pos o] at b ⊢;by_cases z:qb c=true
   ·rw[if_pos z] at b ⊢;obtain⟨h,B,C,b⟩:=b;refine⟨h,B,C,?_⟩;unfold FA;rw[q];simp only[w];rw[if_neg n,x];exact b
   ·rw[if_neg z] at b ⊢;intro j;have:=b j;unfold EV at this ⊢;rw[L] at this;refine Next.cm ?_ this;rintro v D ⟨g,k,s,f,b⟩;refine⟨g,k,s,f,?_⟩;unfold FA;rw[q];simp only[w];rw[if_neg n,x];exact b
  ·rw[if_neg o] at b ⊢;unfold FA;rw[q];simp only[w];rw[if_neg n,x];exact b
theorem FA.fJ {i:Nat}{l m:List Nat}(f: ∀a c d e,FA P A ops qb ord Q l a c d e->FA P A ops qb ord Q m a c d e){a:Act}{c:aa}
  {d:List (Nat×(aa->Prop))} {e:List (Nat×aa)} (b:FA P A ops qb ord Q (i::l) a c d e):FA P A ops qb ord Q (i::m) a c d e:=by
 unfold FA at b ⊢;cases n:ops[i]? with
 |none=>rw[n] at b;exact b
 |some u=>
  rw[n] at b;simp only at b ⊢;split
  ·rename_i g;rw[if_pos g] at b;split
   ·rename_i h;rw[if_pos h] at b;obtain⟨v,o,j,k⟩:=b;exact⟨v,o,j,f _ _ _ _ k⟩
   ·rename_i h;rw[if_neg h] at b;intro p;refine(b p).mono ?_;rintro v w ⟨q,s,t,j,k⟩;exact⟨q,s,t,j,f _ _ _ _ k⟩
  ·rename_i g;rw[if_neg g] at b;exact f _ _ _ _ b
theorem FA.front {i:Nat}{h:List Nat}: ∀(b:List Nat),
  (∀ j∈b,∃f g,ops[i]? =some f/\ops[j]? =some g/\f.apart ops g=true/\Ez f/\Ez g/\un ord i j=true/\(qb f=true\/qb g=true))->
  ∀(a:Act) (c:aa) (d:List (Nat×(aa->Prop))) (e:List (Nat×aa)),FA P A ops qb ord Q (b++i::h) a c d e->
   FA P A ops qb ord Q (i::(b++h)) a c d e
 | [],_,_,_,_,_,k=>k
 |j::b,l,a,c,d,e,k=>by
  obtain⟨f,g,m,n,o,p,q,s,t⟩:=l j AM;have u:FA P A ops qb ord Q (j::i::(b++h)) a c d e:=
   FA.fJ (λa c d e=>FA.front b (λv w=>l v (An _ w)) a c d e) k
  exact FA.swap m n o p q s t u
def jK(ops:Array Oper):Nat->Nat->Bool:=
 let b:=Region.before ops
 λi a=>(b.getD i 0).testBit a
def kQ(ops:Array Oper)(qb:Oper->Bool)(ord:Nat->Nat->Bool):Bool:=
 (ops.toList.all λe=>IE e)&&
 (List.range ops.size).all λi=>
  match ops[i]? with
  |none=>false
  |some c=>
   (c.after.toList.all λa=> !Region.binds .any a||decide (a.on<i))&&
   (List.range i).all λb=>
    match ops[b]? with
    |none=>false
    |some d=>
     if ord i b then c.after.toList.any λa=>Region.binds .any a&&(a.on==b||(decide (b<a.on)&&ord a.on b))
     else c.apart ops d&&(qb c||qb d)
def rem(a:Nat)(listed:Array Bool):List Nat:=(List.range a).filter λi=> !listed.getD i true
end
section
variable {P : Q1} {A : ak} {r : Option Nat} {ops : Array Oper} {qb : Oper -> Bool} {ord : Nat -> Nat -> Bool}
def left(a:Nat)(listed:Array Bool):List Nat:=(List.range a).filter λi=> !listed.getD i false
theorem mem_left {a:Nat}{listed:Array Bool}{i:Nat}:i∈left a listed↔i<a/\listed.getD i false=false:=by simp[left]
theorem range_split {n i:Nat}(c:i<n):List.range n=List.range i++i::(List.range' (i+1) (n-i-1)):=by
 rw[OS,OS];have a:List.range' 0 n=List.range' 0 i++List.range' i (n-i):=by have:=List.range'_append_1 (s:=0) (m:=i) (n:=n-i);rw[AK] at this;rw[this];congr 1;omega
 rw[a];congr 1;have b:n-i=(n-i-1)+1:=by omega
 rw[b,List.range'_succ];simp
theorem rX {c i:Nat}{listed:Array Bool}(e:i<c)(j:listed.size=c)(g:listed.getD i false=false):
  ∃d f,left c listed=d++i::f/\left c (listed.setIfInBounds i true)=d++f/\ ∀a∈d,a<i/\listed.getD a false=false:=by
 refine⟨(List.range i).filter λa=> !listed.getD a false,(List.range' (i+1) (c-i-1)).filter λa=> !listed.getD a false,?_,?_,?_⟩
 ·unfold left;rw[range_split e,P0,AW];simp only[g,P2,if_true]
 ·unfold left;have h:(listed.setIfInBounds i true).getD i false=true:=by
   have:i<listed.size:=by omega
   simp[this]
  rw[range_split e,P0,AW];simp only[h,LI,Cl,if_false];congr 1
  ·refine It λa b=>?_
   have:=List.mem_range.1 b;rw[getD_set_ne false (by omega)]
  ·refine It λa b=>?_
   have:=(List.mem_range'_1.1 b).1;rw[getD_set_ne false (by omega)]
 ·intro a b;simp only[List.mem_filter,Hb,CA] at b;exact b
def eG(ord:Nat->Nat->Bool)(listed:Array Bool):Prop:= ∀a b,listed.getD a false=true->b<a->ord a b=true->listed.getD b false=true
theorem AHu(g:kQ ops qb ord=true):(∀ (i:Nat) (c:Oper),ops[i]? =some c->IE c=true)/\
  (∀ (i:Nat) (c:Oper),ops[i]? =some c-> ∀a∈c.after,Region.binds .any a=true->a.on<i)/\
  (∀ (i b:Nat) (e f:Oper),ops[i]? =some e->ops[b]? =some f->b<i->
   (ord i b=true/\ ∃a∈e.after,Region.binds .any a=true/\(a.on=b\/(b<a.on/\ord a.on b=true)))\/(ord i b=false/\e.apart ops f=true/\(qb e=true\/qb f=true))):=by
 unfold kQ at g;simp only[A3,CC,Hb] at g;obtain⟨n,l⟩:=g;refine⟨λi c d=>n c (by rw[LL];exact Iv d),λi c d a h j=>?_,λi b e f m o p=>?_⟩
 ·have k:i<ops.size:=(Array.getElem?_eq_some_iff.1 d).1;have:=l i k;rw[d] at this;simp only[A3,CC,Cp,CA,decide_eq_true_eq] at this;exact(this.1 a (by simpa using h)).resolve_left (by simp[j])
 ·have k:i<ops.size:=(Array.getElem?_eq_some_iff.1 m).1;have:=l i k;rw[m] at this;simp only[A3,CC,Hb] at this;have:=this.2 b p;rw[o] at this;simp only at this;cases d:ord i b with
  |true=>
   rw[d] at this;simp only[if_true,P3,A3,Cp,beq_iff_eq,decide_eq_true_eq] at this;obtain⟨a,h,j,q⟩:=this;exact .inl ⟨rfl,a,by simpa using h,j,q⟩
  |false=>
   rw[d] at this;simp only[Cl,if_false,A3,Cp] at this;exact .inr ⟨rfl,this.1,this.2⟩
theorem Uv {listed:Array Bool}{i:Nat}(a:i<listed.size):listed.getD i true=listed.getD i false:=by simp[a]
theorem Nc {a:Oper}(c:IE a=true):Ez a:=λe b d=>by simp[IE,d] at c
theorem FA.any {m:Nat}{Q:Act->aa->Prop}{L:Exit->Act->World->Prop}(ab: ∀a h f,Q a h->L .normal a (A.at h f))(ac:kQ ops qb ord=true):
  ∀(fuel:Nat) (listed:Array Bool) (a:Act) (h:aa) (aA:List (Nat×(aa->Prop))) (aD:List (Nat×aa)),(left ops.size listed).length=fuel->listed.size=ops.size->
   eG ord listed->FA P A ops qb ord Q (left ops.size listed) a h aA aD-> ∀f,wpAnyIn (Fw r) m P .any ops L fuel listed a (A.at h f):=by
 obtain⟨z,ad,M⟩:=AHu ac;intro fuel
 induction fuel with
 |zero=>
  intro listed a h aA aD n B _ s f;have o:left ops.size listed= []:=CD n;refine⟨?_,?_⟩
  ·rcases C:Region.ready .any ops listed with _|⟨i,t⟩
   ·rfl
   ·exfalso;have j:i∈Region.ready .any ops listed:=by rw[C];exact AM
    obtain⟨u,ar,d,_⟩:=mem_ready.1 j;have w:i<ops.size:=(Array.getElem?_eq_some_iff.1 d).1;have:i∈left ops.size listed:=mem_left.2 ⟨w,by rw[<- Uv (by omega)];exact u⟩;rw[o] at this;cases this
  ·rw[o] at s;exact ab _ _ _ s
 |succ fuel D=>
  intro listed a h aA aD n B N s f;refine⟨λC=>?_,λi j=>?_⟩
  ·exfalso;have ae: ∀k i,i<k->i∈left ops.size listed->False:=by
    intro k
    induction k with
    |zero=>intro i j;omega
    |succ k af=>
     intro i _ j;obtain⟨w,u⟩:=mem_left.1 j;have d:ops[i]? =some ops[i]:=CH w;by_cases x: ∀e∈ops[i].after,Region.binds .any e=true->listed.getD e.on false=true
     ·have:i∈Region.ready .any ops listed:=mem_ready.2 ⟨by rw[Uv (by omega)];exact u,_,d,x⟩;rw[C] at this;cases this
     ·simp only[Classical.not_forall] at x;obtain⟨e,o,E,F⟩:=x;have au:=ad i _ d e o E;exact af e.on (by omega) (mem_left.2 ⟨by omega,by simpa using F⟩)
   have F:left ops.size listed≠ []:=by intro e;rw[e] at n;simp at n
   obtain⟨i,j⟩:=TX _ F;exact ae (i+1) i (by omega) j
  ·obtain⟨u,l,g,x⟩:=mem_ready.1 j;have w:i<ops.size:=(Array.getElem?_eq_some_iff.1 g).1;have ag:listed.getD i false=false:=by rw[<- Uv (by omega)];exact u
   obtain⟨ah,av,O,R,ai⟩:=rX w B ag;rw[O] at s;have S: ∀b,b<i->listed.getD b false=false->ord i b=false:=by
    intro b G p;have y:ops[b]? =some ops[b]:=CH (by omega);rcases M i b l _ g y G with⟨_,e,o,E,q⟩|⟨q,_⟩
    ·exfalso;have T:=x e o E;rcases q with rfl|⟨aj,ak⟩
     ·rw[T] at p;cases p
     ·have:=N e.on b T aj ak;rw[this] at p;cases p
    ·exact q
   have c:=FA.front (Q:=Q) (qb:=qb) (ord:=ord) (P:=P) (A:=A) (ops:=ops) ah (λb G=>by
    obtain⟨U,al⟩:=ai b G;have y:ops[b]? =some ops[b]:=CH (by omega);have d:=S b U al;rcases M i b l _ g y U with⟨q,_⟩|⟨_,am,an⟩
    ·rw[d] at q;cases q
    ·refine⟨l,_,g,y,am,Nc (z i l g),Nc (z b _ y),?_,an⟩;unfold un;rw[Nat.max_eq_left (by omega),P4 (by omega),d];rfl) a h aA aD s
   have H:eG ord (listed.setIfInBounds i true):=by
    intro k b V W d;by_cases X:b=i
    ·subst X;have:b<listed.size:=by omega
     simp[this]
    ·rw[getD_set_ne false (Ne.symm X)];by_cases Y:k=i
     ·subst Y;cases p:listed.getD b false with
      |true=>rfl
      |false=>rw[S b W p] at d;cases d
     ·rw[getD_set_ne false (Ne.symm Y)] at V;exact N k b V W d
   have I:(left ops.size (listed.setIfInBounds i true)).length=fuel:=by rw[R];rw[O] at n;simp only[A1,A6] at n ⊢;omega
   have J:(listed.setIfInBounds i true).size=ops.size:=by simp[B]
   rw[<- R] at c;unfold FA at c;rw[g] at c;unfold wpOpIn;simp only[g];split
   ·rename_i K;simp only[K,if_true] at c;by_cases Z:qb l=true
    ·rw[if_pos Z] at c;obtain⟨v,ao,_,c⟩:=c;refine EV.wpIn (z i l g) ?_;unfold EV;rw[ao f];exact D _ _ _ _ _ I J H c f
    ·rw[if_neg Z] at c;refine EV.wpIn (z i l g) ((c f).mono ?_);rintro v aw ⟨ax,ap,rfl,_,aq⟩;exact D _ _ _ _ _ I J H aq ap
   ·rename_i K;simp only at c;rw[if_neg K] at c;exact⟨λ_ _=>trivial,D _ _ _ _ _ I J H c f⟩
theorem rY(a:Nat):left a (Array.replicate a false)=List.range a:=by unfold left;rw[List.filter_eq_self];intro i _;by_cases b:i<a<;>simp[b]
theorem YL {id m:Nat}{Q:Act->aa->Prop}{d:Exit->Act->World->Prop}(f: ∀a b c,Q a b->d .normal a (A.at b c))(g:P.follows .mixedOrders=true)
  (h:kQ ops qb ord=true) {a:Act} {b:aa} {c:Nat} (i:FA P A ops qb ord Q (List.range ops.size) a b [] []):(Code.region id ops true).wpIn (Fw r) m P d a (A.at b c):=by
 refine wpIn_region_any g ?_;have e:=rY ops.size;refine FA.any (Q:=Q) (ord:=ord) (qb:=qb) (aA:= []) (aD:= []) f h _ _ _ b (by rw[e];simp) (by simp) ?_ (by rw[e];exact i) (c+1);intro j l k;exfalso;by_cases b:j<ops.size<;>simp[b] at k
end
def ag(b:aa)(a:Q6):Option J0:=
 match b[a.block]? with
 |some (.cells c _ _)=>if a.spot.isSome then none else c[a.off]?
 |_=>none
def fQ(b:aa)(a:Q6):Bool:=
 match b[a.block]? with
 |some (.cells _ _ (c,d))=>c<=a.off&&a.off<d
 |_=>false
def cZ(b:aa)(a:Q6)(v:J0):aa:=
 b.modify a.block λ
  | .cells c d frozen=> .cells (if a.spot.isSome then c else c.setIfInBounds a.off v) d frozen
  |o=>o
theorem AQZ(c:ak)(b:aa)(d:Nat)(a:Q6):(c.at b d).cell? a=ag b a:=rfl
theorem fq(b:ak)(c:aa)(d:Nat)(a:Q6)(v:J0):(b.at c d).setCell a v=b.at (cZ c a v) d:=rfl
def At(p:Q2)(K:Q6->Prop):Prop:=match p with|some a=>K a|none=>False
def ae(b:Bool)(a c:Prop):Prop:=match b with|true=>a|false=>c
def al(a:aa)(b:Obj)(K:Nat->aa->Prop):Prop:=K a.size (a.push b)
def R6(b:aa)(a:Q6)(K:J0->Prop):Prop:= ∃v,ag b a=some v/\K v
def AC(c:IntKind)(d:aa)(a:Q6)(K:Int->Prop):Prop:= ∃b,ag d a=some (.int c b)/\K b
def Ac(c:aa)(a:Q6)(K:Bool->Prop):Prop:= ∃b,ag c a=some (.bool b)/\K b
def AJ(b:aa)(a:Q6)(K:A2P->Prop):Prop:= ∃s,ag b a=some (.string s)/\K s
def Ab(b:aa)(a:Q6)(K:Q2->Prop):Prop:= ∃p,ag b a=some (.pointer p)/\K p
structure Sl where
 p:Q2
 len:Nat
 cap:Nat
def Sl.v(s:Sl):J0:= .slice s.p s.len s.cap
def AY(b:aa)(a:Q6)(K:Sl->Prop):Prop:= ∃s:Sl,ag b a=some (.slice s.p s.len s.cap)/\K s
def ATb(c:FloatKind)(d:aa)(a:Q6)(K:Nat->Prop):Prop:= ∃b,ag d a=some (.float c b)/\K b
def ATj(c:FloatKind)(d:aa)(a:Q6)(K:Nat×Nat->Prop):Prop:= ∃b:Nat×Nat,ag d a=some (.complex c b.1 b.2)/\K b
def FP(c:aa)(a:Q6)(K:Option Nat->Prop):Prop:= ∃b,ag c a=some (.map b)/\K b
def ab(b:aa)(a:Q6)(v:J0)(K:aa->Prop):Prop:=(∃ u,ag b a=some u)/\fQ b a=false/\K (cZ b a v)
def bG(p:Q2)(len:Nat)(i:Int)(K:Q6->Prop):Prop:= ∃a,p=some a/\(0<=i/\i<len)/\K a
def aH(c K:Prop):Prop:=c/\K
def ah {a:Type}(c:a->aa->Prop)(body:(a->aa->Prop)->Prop):Prop:= ∀K:a->aa->Prop,(∀ x b,c x b->K x b)->body K
def Loop {a:Type}(c:(a->aa->Prop)->a->aa->Prop)(x:a)(b:aa):Prop:= ∀K:a->aa->Prop,(∀ x b,c K x b->K x b)->K x b
def BB(a:ak)(P:Q1)(m:Sem J0)(c:aa)(K:A2O):Prop:= ∀d,∃v b e,m.run P (a.at c d)= .ok v (a.at b e)/\K v b
def AA(a:ak)(P:Q1)(f:Q8)(args:Array J0)(c:aa)(d:A2O):Prop:=
 ∀e,Calls P f args (a.at c e) λg h=> ∃v,g= .returned v/\ ∃b i,h=a.at b i/\d v b
theorem AA.mono {b:ak}{P:Q1}{f:Q8}{args:Array J0}{a:aa}{c d:A2O}(e:AA b P f args a c)(g: ∀v a,c v a->d v a):AA b P f args a d:=
 λh=>Calls.mono (e h) λ_ _ ⟨v,i,j,k,l,m⟩=>⟨v,i,j,k,l,g _ _ m⟩
def EL(a:ak)(P:Q1)(fv:J0)(args:Array J0)(d:aa)(e:A2O):Prop:=
 ∀f,Next.out P (λv g=> ∃b h,g=a.at b h/\e v b) ((do let c <-Deferred.ofValue fv args;invoke c.target c.args:Sem Next).run P (a.at d f))
theorem EL.mono {b:ak}{P:Q1}{fv:J0}{args:Array J0}{a:aa}{c d:A2O}(e:EL b P fv args a c)(f: ∀v a,c v a->d v a):EL b P fv args a d:=
 λg=>Next.cm (λ_ _ ⟨h,i,j,k⟩=>⟨h,i,j,f _ _ k⟩) (e g)
theorem Td {a b:Nat}(c:a≠b):Nat.beq a b=false:=by
 cases d:Nat.beq a b with
 |false=>rfl
 |true=>exact absurd (IH d) c
structure Env where
 get:Nat->Option J0
 ds:List Nat
def jL(a:Nat):Deferred:= {target:= .collected a,args:= #[]}
structure Fits (N:Nat) (a:Act) (e:Env):Prop where
 size:a.tmps.size=N
 get: ∀t v,e.get t=some v->a.tmps[t]? =some v
 ds:a.defers=e.ds.map jL
def Env.set(a:Env)(b:Nat)(v:J0):Env:= {get:=λt=>bif Nat.beq t b then some v else a.get t,ds:=a.ds}
def Env.put(b:Env)(a:Option Tmp)(v:J0):Env:=match a with|none=>b|some a=>b.set a v
def mG(N:Nat)(a:Option Tmp):Bool:=match a with|none=>true|some a=>Nat.blt a N
theorem Fits.set {N:Nat}{a:Act}{f:Env}(d:Fits N a f){c:Nat}{v:J0}(hd:c<N):Fits N (a.put (some c) v) (f.set c v):=by
 refine⟨by simp[Act.put,d.size],?_,d.ds⟩;intro t u b;unfold Env.set at b;simp only at b;by_cases e:t=c
 ·subst e;have:Nat.beq t t=true:=by simp
  rw[this] at b;simp only[cond_true,BY] at b;subst b;simp[Act.put,d.size,hd]
 ·have:Nat.beq t c=false:=Td e;rw[this] at b;simp only[cond_false] at b;have:=d.get t u b;simp only[Act.put];rw[DS (Ne.symm e)];exact this
theorem Fits.put {N:Nat}{a:Act}{c:Env}(d:Fits N a c){b:Option Tmp}{v:J0}(hd:mG N b=true):Fits N (a.put b v) (c.put b v):=by
 cases b with
 |none=>exact d
 |some b=>exact d.set (by simpa [mG] using hd)
theorem Fits.oD {N:Nat}{a:Act}{e:Env}(d:Fits N a e){c:Nat}{v:J0}(g:a.tmps[c]? =some v):Fits N a (e.set c v):=by
 refine⟨d.size,?_,d.ds⟩;intro t u b;unfold Env.set at b;simp only at b;by_cases f:t=c
 ·subst f;have:Nat.beq t t=true:=by simp
  rw[this] at b;simp only[cond_true,BY] at b;rw[<- b];exact g
 ·have:Nat.beq t c=false:=Td f;rw[this] at b;exact d.get t u b
def rdv(a:Env)(x:Operand):Option J0:=
 match x with
 | .tmp t=>a.get t
 | .const v=>some v
 | .global g=>some (.pointer (some ⟨g,0,none⟩))
 | .func f=>some (.func (.func f) #[] #[])
theorem Fits.rdv {N:Nat}{a:Act}{c:Env}(d:Fits N a c){x:Operand}{v:J0}(b:rdv c x=some v):a.eval x=v:=by
 cases x with
 |tmp t=>
  have:=d.get t v b;simp only[Act.eval];simp[this]
 |const u=>simpa [Lf.rdv,Act.eval] using b
 |global g=>simpa [Lf.rdv,Act.eval] using b
 |func f=>simpa [Lf.rdv,Act.eval] using b
def rd(a:Env)(x:Operand)(K:J0->Prop):Prop:=match rdv a x with|some v=>K v|none=>False
theorem BQ {N:Nat}{a:Act}{c:Env}(e:Fits N a c){x:Operand}{K:J0->Prop}(b:rd c x K):K (a.eval x):=by
 unfold rd at b;cases d:rdv c x with
 |none=>rw[d] at b;exact b.elim
 |some v=>rw[d] at b;rw[e.rdv d];exact b
def ρof(a:Env)(x:Operand):J0:=match rdv a x with|some v=>v|none=>undef
def known(a:Env)(l:List Operand)(K:Prop):Prop:=match l with| []=>K|x::b=>(match rdv a x with|some _=>known a b K|none=>False)
theorem KP {N:Nat}{a:Act}{c:Env}(f:Fits N a c){K:Prop}: ∀ {l:List Operand},known c l K->(∀ x∈l,ρof c x=a.eval x)/\K
 | [],b=>⟨λ_ b=>(by cases b),b⟩
 |x::j,b=>by
  unfold known at b;cases d:rdv c x with
  |none=>rw[d] at b;exact b.elim
  |some v=>
   rw[d] at b;obtain⟨g,h⟩:=KP f b;refine⟨λi e=>?_,h⟩;rcases List.mem_cons.1 e with rfl|e
   ·unfold ρof;rw[d,f.rdv d]
   ·exact g i e
end Go.Lf
namespace Go
open Lf
def Sem.calc {b:Type}(P:Q1):Sem b->Option b
 | .pure a=>some a
 | .program f=>(f P).calc P
 |_=>none
end Go
namespace Go.Lf
theorem JI {e:Type}{P:Q1}{s:Sem e}: ∀ {a:e},s.calc P=some a-> ∀d,s.run P d= .ok a d:=by
 induction s with
 |pure a=>intro b c d;simp only[Sem.calc,BY] at c;subst c;rfl
 |program f g=>intro b c d;exact g P c d
 |_=>intro b c;simp only[Sem.calc] at c;cases c
def Vj {b:Type}(P:Q1)(s:Sem b)(K:b->Prop):Prop:=match s.calc P with|some a=>K a|none=>False
theorem MW {d:Type}{P:Q1}{s:Sem d}{K:d->Prop}(b:Vj P s K): ∃a,(∀ e,s.run P e= .ok a e)/\K a:=by
 unfold Vj at b;cases c:s.calc P with
 |none=>rw[c] at b;exact b.elim
 |some a=>rw[c] at b;exact⟨a,JI c,b⟩
def Kh:J0->Bool
 | .agg _| .tuple _=>false
 |_=>true
end Go.Lf
namespace Go
open Lf
def Sem.vc {e:Type}(P:Q1):Sem e->aa->(e->aa->Prop)->Prop
 | .pure a,c,K=>K a c
 | .program f,c,K=>(f P).vc P c K
 | .new g f,c,K=>al c g λb d=>(f b).vc P d K
 | .load _ a f,c,K=>R6 c a λv=>(f v).vc P c K
 | .store _ a v f,c,K=>match Kh v with|true=>ab c a v λd=>f.vc P d K|false=>False
 | .mark _ f,c,K=>f.vc P c K
 |_,_,_=>False
end Go
namespace Go.Lf
theorem sk {c:Type}{A:ak}{P:Q1}{m:Mode}{a:Q6}{v u:J0}{f:Sem c}{b:aa}{n:Nat}(d:Kh v=true)(e:ag b a=some u)(g:fQ b a=false):
  (Sem.store m a v f).run P (A.at b n)=f.run P (A.at (cZ b a v) n):=by
 have h:(A.at b n).cell? a=some u:=e;have i:(A.at b n).frozen? a=false:=g;cases v<;>first|(simp[Kh] at d;done)|(simp[Sem.run,h,i,fq])
theorem AOT {o:Type}{A:ak}{P:Q1}{s:Sem o}: ∀ {d:aa} {K:o->aa->Prop},s.vc P d K-> ∀e,∃v h i,s.run P (A.at d e)= .ok v (A.at h i)/\K v h:=by
 induction s with
 |pure a=>intro d K b e;exact⟨a,d,e,rfl,b⟩
 |program f g=>intro d K b e;exact g P b e
 |mark m f g=>intro d K b e;exact g b e
 |new q f g=>intro d K b e;exact g _ b e
 |load m a f g=>
  intro d K b e;obtain⟨v,r,b⟩:=b;obtain⟨j,h,i,k,l⟩:=g v b e;refine⟨j,h,i,?_,l⟩;simp only[Sem.run,AQZ,r];exact k
 |store m a v f g=>
  intro d K b e;unfold Sem.vc at b;cases n:Kh v with
  |false=>rw[n] at b;exact b.elim
  |true=>
   rw[n] at b;obtain⟨⟨u,t⟩,w,b⟩:=b;obtain⟨j,h,i,k,l⟩:=g b e;refine⟨j,h,i,?_,l⟩;rw[sk n t w];exact k
 |shape p f _=>intro d K b;exact b.elim
 |freeze a e f _=>intro d K b;exact b.elim
 |frozen a f _=>intro d K b;exact b.elim
 |getObj p f _=>intro d K b;exact b.elim
 |setObj p q f _=>intro d K b;exact b.elim
 |choose y f _=>intro d K b;exact b.elim
 |sys c f _=>intro d K b;exact b.elim
 |halt x=>intro d K b;exact b.elim
inductive Sc where
 |int (k:IntKind)|bool|str|ptr|sl|map|any|iY (k:FloatKind)|iZ (k:FloatKind)
def Sc.Ty:Sc->Type
 | .int _=>Int
 | .bool=>Bool
 | .str=>A2P
 | .ptr=>Q2
 | .sl=>Sl
 | .map=>Option Nat
 | .any=>J0
 | .iY _=>Nat
 | .iZ _=>Nat×Nat
def Sc.val:(s:Sc)->s.Ty->J0
 | .int c,(a:Int)=> .int c a
 | .bool,(b:Bool)=> .bool b
 | .str,(s:A2P)=> .string s
 | .ptr,(p:Q2)=> .pointer p
 | .sl,(s:Sl)=> .slice s.p s.len s.cap
 | .map,(d:Option Nat)=> .map d
 | .any,(v:J0)=>v
 | .iY c,(a:Nat)=> .float c a
 | .iZ c,(a:Nat×Nat)=> .complex c a.1 a.2
def Sc.load(b:aa)(a:Q6):(s:Sc)->(s.Ty->Prop)->Prop
 | .int c,K=>AC c b a K
 | .bool,K=>Ac b a K
 | .str,K=>AJ b a K
 | .ptr,K=>Ab b a K
 | .sl,K=>AY b a K
 | .map,K=>FP b a K
 | .any,K=>R6 b a K
 | .iY c,K=>ATb c b a K
 | .iZ c,K=>ATj c b a K
theorem Sc.ck {c:aa}{a:Q6}: ∀ {s:Sc} {K:s.Ty->Prop},s.load c a K-> ∃x,ag c a=some (s.val x)/\K x
 | .int _,_,b=>b
 | .bool,_,b=>b
 | .str,_,b=>b
 | .ptr,_,b=>b
 | .sl,_,b=>b
 | .map,_,b=>b
 | .any,_,b=>b
 | .iY _,_,b=>b
 | .iZ _,_,b=>b
def oR(b:aa)(a:Q6):Nat->List Sc->(List J0->Prop)->Prop
 |_,[],K=>K []
 |i,s::l,K=>s.load b (a.add i) λx=>oR b a (i+1) l λc=>K (s.val x::c)
def oS:List Sc->(List J0->Prop)->Prop
 | [],K=>K []
 |s::l,K=> ∃x:s.Ty,oS l λa=>K (s.val x::a)
theorem sn: ∀ {l:List Sc} {K:List J0->Prop},oS l K-> ∃b,K b
 | [],_,a=>⟨[],a⟩
 |_::_,_,⟨_,a⟩=>let ⟨b,c⟩:=sn a;⟨_,c⟩
def jo(P:Q1):Nat->Q7->List Sc
 |0,_=> []
 |d+1,t=>
  match P.underlying t with
  |some .bool=> [.bool]
  |some (.int a)=> [.int a]
  |some (.float a)=> [.iY a]
  |some (.complex a)=> [.iZ a]
  |some .string=> [.str]
  |some (.pointer _)=> [.ptr]
  |some (.slice _)=> [.sl]
  |some (.map _ _)=> [.map]
  |some (.struct b)=>b.toList.flatMap λf=>jo P d f.type
  |some (.array c e)=>(List.replicate c (jo P d e)).flatten
  |_=> [.any]
def WT(P:Q1)(t:Q7):Bool:=match P.underlying t with|some (.struct _)=>true|some (.array _ _)=>true|_=>false
mutual
def mH(P:Q1):Nat->Q7->(J0->Prop)->Prop
 |0,_,K=> ∃v,K v
 |d+1,t,K=>
  match P.underlying t with
  |some (.tuple ts)=>mI P d ts.toList λa=>K (.tuple a.toArray)
  |_=>match WT P t with
   |true=>oS (jo P 20 t) λa=>K (.agg a.toArray)
   |false=>match jo P 20 t with
    | [s]=> ∃x:s.Ty,K (s.val x)
    |_=>False
def mI(P:Q1):Nat->List Q7->(List J0->Prop)->Prop
 |_,[],K=>K []
 |0,_::_,_=>False
 |d+1,t::ts,K=>mH P d t λu=>mI P d ts λa=>K (u::a)
end
theorem AOs(P:Q1): ∀b,(∀ (t:Q7) (K:J0->Prop),mH P b t K-> ∃v,K v)/\(∀ (ts:List Q7) (K:List J0->Prop),mI P b ts K-> ∃f,K f):=by
 intro b
 induction b with
 |zero=>
  refine⟨λt K a=>a,λts K a=>?_⟩;cases ts with
  |nil=>exact⟨[],a⟩
  |cons t ts=>exact a.elim
 |succ b c=>
  refine⟨λt K a=>?_,λts K a=>?_⟩
  ·unfold mH at a;split at a
   ·exact let ⟨e,d⟩:=c.2 _ _ a;⟨_,d⟩
   ·split at a
    ·exact let ⟨e,d⟩:=sn a;⟨_,d⟩
    ·split at a
     ·exact let ⟨x,g⟩:=a;⟨_,g⟩
     ·exact a.elim
  ·cases ts with
   |nil=>exact⟨[],a⟩
   |cons t ts=>
    unfold mI at a;obtain⟨u,a⟩:=c.1 _ _ a;obtain⟨e,a⟩:=c.2 _ _ a;exact⟨_,a⟩
def Pq(P:Q1)(t:Q7)(v:J0)(K:J0->Prop):Prop:=mH P 8 t λu=>v=u/\K u
theorem Oy {P:Q1}{t:Q7}{v:J0}{K:J0->Prop}(a:Pq P t v K):K v:=by obtain⟨u,rfl,a⟩:=(AOs P 8).1 _ _ a;exact a
def bM(a b:A2P):Bool:=a.toList==b.toList
def aQ(a b:A2P):Bool:=Op.bytesLess a.toList b.toList
def dk(s:A2P)(i:Int):Int:=((s[i.toNat]?).getD 0).toNat
def VB(P:Q1)(t:Q7)(a:Operand):Bool:=
 match P.underlying t with
 |some (.pointer _)=>match a with| .const (.pointer none)=>true|_=>false
 |some (.slice _)=>match a with| .const (.slice none 0 0)=>true|_=>false
 |some (.map _ _)=>match a with| .const (.map none)=>true|_=>false
 |some (.func _ _ _)=>match a with| .const .nilFunc=>true|_=>false
 |some (.interface _)=>match a with| .const .nilIface=>true|_=>false
 |_=>false
def ie:J0->Prop
 | .func .. =>True
 | .nilFunc=>True
 |_=>False
def Tz:J0->Bool
 | .nilFunc=>true
 |_=>false
def kT:J0->Prop
 | .iface .. =>True
 | .nilIface=>True
 |_=>False
def ZB:J0->Bool
 | .nilIface=>true
 |_=>false
def kU(P:Q1)(t:Q7)(v:J0)(K:Bool->Prop):Prop:=
 match P.underlying t with
 |some (.pointer _)=>match v with| .pointer p=>K p.isNone|_=>False
 |some (.slice _)=>match v with| .slice p _ _=>K p.isNone|_=>False
 |some (.map _ _)=>match v with| .map a=>K a.isNone|_=>False
 |some (.func _ _ _)=>aH (ie v) (K (Tz v))
 |some (.interface _)=>aH (kT v) (K (ZB v))
 |_=>False
def Vo(a:BinOp)(b:Bool):J0:=match a with| .eql=> .bool b|_=> .bool !b
def oT(d:BinOp)(v u:J0)(K:J0->Prop):Prop:=
 match v,u with
 | .int c a,.int e b=>
  match decide (c=e) with
  |true=>match d with
   | .quo=>aH (b≠0) (K (.int c (c.wrap (a.tdiv b))))
   | .rem=>aH (b≠0) (K (.int c (a.tmod b)))
   |_=>False
  |false=>False
 |_,_=>False
def oU(d:BinOp)(v u:J0)(K:J0->Prop):Prop:=
 match v,u with
 | .int c a,.int _ b=>
  match d with
  | .shl=>aH (0<=b) (K (.int c (c.wrap (a*2^(min b.toNat c.bits)))))
  | .shr=>aH (0<=b) (K (.int c (a.fdiv (2^(min b.toNat c.bits)))))
  |_=>False
 |_,_=>False
def oV(v u:J0)(K:J0->Prop):Prop:=
 match v,u with
 | .string a,.string b=>aH (((a.size+b.size:Nat):Int)<=IntKind.i64.max) (K (.string (a++b)))
 |_,_=>False
inductive ASj where
 |dW|div|shift|cat|j4|j5|no
def isConst:Operand->Bool
 | .const _=>true
 |_=>false
def UW(P:Q1)(b:BinOp)(t:Q7)(x a:Operand):ASj:=
 match b with
 | .quo| .rem=>match P.underlying t with|some (.int _)=>(match isConst a with|true=> .dW|false=> .div)|_=> .no
 | .shl| .shr=>match isConst a with|true=> .dW|false=> .shift
 | .add=>match P.underlying t with|some .string=> .cat|some (.int _)=> .dW|_=> .no
 | .eql| .neq=>
  match P.underlying t with
  |some (.int _)=> .dW
  |some .string=> .dW
  |some .bool=> .dW
  |some (.pointer _)|some (.slice _)|some (.map _ _)|some (.func _ _ _)|some (.interface _)=>(match VB P t a with|true=> .j4|false=>match VB P t x with|true=> .j5|false=> .no)
  |_=> .no
 |_=>match P.underlying t with|some (.int _)=> .dW|some .string=> .dW|_=> .no
def oW(P:Q1)(a:BinOp)(t:Q7)(x c:Operand)(v u:J0)(K:J0->Prop):Prop:=
 match UW P a t x c with
 | .dW=>Vj P (do eqGuard a t x c v u;binOp a t v u) K
 | .div=>oT a v u K
 | .shift=>oU a v u K
 | .cat=>oV v u K
 | .j4=>kU P t v λb=>K (Vo a b)
 | .j5=>kU P t u λb=>K (Vo a b)
 | .no=>False
def oX(P:Q1)(t:Q7)(v i:J0)(K:J0->Prop):Prop:=
 match P.underlying t with
 |some (.slice c)=>match v,i,P.info? c with
  | .slice p len _,.int _ b,some d=>bG p len b λa=>K (.pointer (some (a.add (b.toNat*d.size))))
  |_,_,_=>False
 |some (.array len c)=>match v,i,P.info? c with
  | .pointer p,.int _ b,some d=>At p λa=>aH (0<=b/\b<(len:Int)) (K (.pointer (some (a.add (b.toNat*d.size)))))
  |_,_,_=>False
 |_=>False
def oY(P:Q1)(t:Q7)(v i:J0)(K:J0->Prop):Prop:=
 match P.underlying t with
 |some .string=>match v,i with
  | .string s,.int _ a=>aH (0<=a/\a<(s.size:Int)) (K (.int .u8 (dk s a)))
  |_,_=>False
 |some (.array _ _)=>Vj P (Instr.index t v i) K
 |_=>False
def gv(x:Option J0)(b max:Nat)(K:Nat->Prop):Prop:=
 match x with
 |some (.int _ a)=>aH (0<=a/\a<=(max:Int)) (K a.toNat)
 |none=>K b
 |_=>False
def Ay(p:Q2)(a l b:Nat):Q2:=if a=l then p else p.map (·.add (l*b))
def p5(P:Q1)(t:Q7)(v:J0)(d e:Option J0)(K:J0->Prop):Prop:=
 match P.underlying t with
 |some .string=>match v with
  | .string s=>gv e s.size s.size λb=>gv d 0 b λl=>K (.string (s.extract l b))
  |_=>False
 |some (.slice f)=>match v,P.info? f with
  | .slice p len g,some h=>gv e len g λb=>gv d 0 b λl=>K (.slice (Ay p g l h.size) (b-l) (g-l))
  |_,_=>False
 |some (.array c f)=>match v,P.info? f with
  | .pointer p,some h=>At p λa=>gv e c c λb=>gv d 0 b λl=>K (.slice (some (if c=l then a else a.add (l*h.size))) (b-l) (c-l))
  |_,_=>False
 |_=>False
def p7(P:Q1)(t:Q7)(v:J0)(c d:Option J0)(e:J0)(K:J0->Prop):Prop:=
 match P.underlying t with
 |some (.slice f)=>match v,P.info? f,d,e with
  | .slice p _ g,some h,some (.int _ b),.int _ a=>aH (0<=a/\a<=(g:Int)) (aH (0<=b/\b<=(a.toNat:Int)) (gv c 0 b.toNat λl=>K (.slice (Ay p a.toNat l h.size) (b.toNat-l) (a.toNat-l))))
  |_,_,_,_=>False
 |_=>False
def p8(c:Bool)(a b:Option J0)(K:J0->Prop):Prop:=
 match a,b with
 |some (.bool x),some (.bool d)=>K (.bool (cond c x d))
 |some x,some d=>ae c (K x) (K d)
 |some x,none=>ae c (K x) False
 |none,some d=>ae c False (K d)
 |none,none=>False
def sq(v:J0)(K:J0->Prop):Prop:=
 match v with
 | .pointer p=>At p λa=>K (.pointer (some a))
 |_=>False
def kV(a:Env)(x:Option Operand)(K:Option J0->Prop):Prop:=match x with|none=>K none|some x=>rd a x λv=>K (some v)
def Yl(b:Bool)(K:Prop):Prop:=match b with|true=>K|false=>False
def kW(P:Q1)(t:Q7)(v:J0)(K:Array J0->Prop):Prop:=
 match WT P t with
 |true=>K v.cells
 |false=>Yl (Kh v) (K #[v])
theorem AKF {v:J0}(a:Kh v=true):v.cells= #[v]:=by cases v<;>first|rfl|(simp[Kh] at a)
theorem Q4 {P:Q1}{t:Q7}{v:J0}{K:Array J0->Prop}(a:kW P t v K):K v.cells:=by
 unfold kW at a;split at a
 ·exact a
 ·cases b:Kh v with
  |false=>rw[b] at a;exact a.elim
  |true=>rw[b] at a;rw[AKF b];exact a
def jM(b:Nat->Option (Nat×Nat))(cells:Array J0):List (Nat×Array J0)->Option (Array J0)
 | []=>some cells
 |(i,a)::rest=>
  match b i with
  |none=>none
  |some (off,d)=>
   if a.size≠d||off+a.size>cells.size then none
   else jM b (a.zipIdx.foldl (λe (c,f)=>e.setIfInBounds (off+f) c) cells) rest
theorem mJ(a:Nat->Option (Nat×Nat)): ∀(l:List (Nat×J0)) (cells:Array J0),Instr.fill a cells l=jM a cells (l.map λp=>(p.1,p.2.cells))
 | [],cells=>rfl
 |(i,v)::rest,cells=>by
  simp only[Instr.fill,C2,jM];cases a i with
  |none=>rfl
  |some p=>obtain⟨off,b⟩:=p;simp only[];split<;>first|rfl|exact mJ a rest _
def ASY(P:Q1)(t:Q7)(i:Nat):Option Q7:=
 match P.underlying t with
 |some (.struct b)=>(b[i]?).map (·.type)
 |some (.array _ a)=>some a
 |some (.slice a)=>some a
 |_=>none
def kX(P:Q1)(t:Q7)(a:Env):List (Nat×Operand)->(List (Nat×Array J0)->Prop)->Prop
 | [],K=>K []
 |(i,x)::b,K=>match ASY P t i with
  |some ft=>rd a x λv=>kW P ft v λc=>kX P t a b λl=>K ((i,c)::l)
  |none=>False
def placesOf(P:Q1):List Field->Option (List (Nat×Nat))
 | []=>some []
 |f::a=>match P.info? f.type with
  |some i=>match placesOf P a with
   |some l=>some ((f.offset,i.size)::l)
   |none=>none
  |none=>none
def pa(P:Q1)(t:Q7)(a:List (Nat×Array J0)):Option (Array J0):=
 match P.info? t with
 |some i=>match i.zero with
  |some z=>match P.underlying t with
   |some (.struct c)=>match placesOf P c.toList with
    |some l=>jM (l.toArray[·]?) z.cells a
    |none=>none
   |some (.array _ d)=>match P.info? d with
    |some b=>jM (λe=>some (e*b.size,b.size)) z.cells a
    |none=>none
   |_=>none
  |none=>none
 |none=>none
def AR6(P:Q1)(t:Q7)(a:Array (Nat×Operand))(b:Env)(K:J0->Prop):Prop:=
 kX P t b a.toList λl=>match pa P t l with|some cells=>K (.agg cells)|none=>False
def mK(P:Q1)(e:Oper)(d:Env)(K:J0->Prop):Prop:=
 match e.op with
 | .nilCheck x=>rd d x λv=>sq v K
 | .binOp k t x g _=>rd d x λv=>rd d g λu=>oW P k t x g v u K
 | .indexAddr t x i=>rd d x λv=>rd d i λu=>oX P t v u K
 | .index t x i=>rd d x λv=>rd d i λu=>oY P t v u K
 | .slice t x h j n=>match n with
  |none=>rd d x λv=>kV d h λl=>kV d j λf=>p5 P t v l f K
  |some m=>rd d x λv=>kV d h λl=>kV d j λf=>rd d m λo=>p7 P t v l f o K
 | .pick c a b=>rd d c λv=>match v with| .bool c=>p8 c (rdv d a) (rdv d b) K|_=>False
 | .build t p=>AR6 P t p d K
 |_=>known d e.op.operands.toList (Vj P (execOp (ρof d) e) λx=>match x with| .value v=>K v|_=>False)
theorem At.mk {p:Q2}{K:Q6->Prop}(b:At p K): ∃a,p=some a/\K a:=by
 cases p with
 |none=>exact b.elim
 |some a=>exact⟨a,rfl,b⟩
theorem jq {P:Q1}{s:Sem J0}{v:J0}{w a:World}(b:s.run P w= .ok v a):(do pure (.value (<- s)):Sem Next).run P w= .ok (.value v) a:=by rw[Sem.run_bind,b];rfl
theorem ATf {P:Q1}{s:Sem Unit}{w a:World}(b:s.run P w= .ok () a):(do s;pure .skip:Sem Next).run P w= .ok .skip a:=by rw[Sem.run_bind,b];rfl
section
variable {P : Q1} {w : World}
theorem A9 {t:Q7}{a:TypeDesc}(b:P.underlying t=some a):(underlying t).run P w= .ok a w:=run_underlying b w
theorem sr {t:Q7}{i:TypeInfo}(a:P.info? t=some i):(typeInfo t).run P w= .ok i w:=by simp[typeInfo,a]
theorem run_sizeOf {t:Q7}{i:TypeInfo}(a:P.info? t=some i):(sizeOf t).run P w= .ok i.size w:=by simp[sizeOf,sr a]
def Tq(P:Q1)(t:Q7):Option J0:=
 match P.underlying t with
 |some (.pointer _)=>some (.pointer none)
 |some (.slice _)=>some (.slice none 0 0)
 |some (.map _ _)=>some (.map none)
 |some (.func _ _ _)=>some .nilFunc
 |some (.interface _)=>some .nilIface
 |_=>none
theorem Xa {t:Q7}{b:Operand}(a:VB P t b=true): ∃u,b= .const u/\Tq P t=some u:=by unfold VB at a;unfold Tq;split at a<;>first|(cases a;done)|(split at a<;>first|(cases a;done)|exact⟨_,rfl,rfl⟩)
theorem AF4(g:Nat){t:Q7}{v u:J0}{K:Bool->Prop}(c:kU P t v K)(d:Tq P t=some u):
  ∃b,(∀ w,(Op.equalIn (g+1) t v u).run P w= .ok b w)/\(∀ w,(Op.equalIn (g+1) t u v).run P w= .ok b w)/\K b:=by
 unfold kU at c;unfold Tq at d;cases e:P.underlying t with
 |none=>rw[e] at c;exact c.elim
 |some i=>
  rw[e] at c d;cases i<;>simp only[] at c d<;>try exact c.elim
  case pointer h=>
   simp only[BY] at d;subst d;cases v<;>simp only[] at c<;>try exact c.elim
   case pointer p=>
    refine⟨_,λw=>?_,λw=>?_,c⟩
    ·cases p<;>simp[Op.equalIn,A9 e]
    ·cases p<;>simp[Op.equalIn,A9 e]
  case slice h=>
   simp only[BY] at d;subst d;cases v<;>simp only[] at c<;>try exact c.elim
   case slice p a b=>
    refine⟨_,λw=>?_,λw=>?_,c⟩
    ·cases p<;>simp[Op.equalIn,A9 e]
    ·cases p<;>simp[Op.equalIn,A9 e]
  case map j h=>
   simp only[BY] at d;subst d;cases v<;>simp only[] at c<;>try exact c.elim
   case map p=>
    refine⟨_,λw=>?_,λw=>?_,c⟩
    ·cases p<;>simp[Op.equalIn,A9 e]
    ·cases p<;>simp[Op.equalIn,A9 e]
  case func ps k l=>
   simp only[BY] at d;subst d;obtain⟨f,c⟩:=c;cases v<;>simp only[ie] at f
   ·refine⟨_,λw=>?_,λw=>?_,c⟩<;>simp[Op.equalIn,A9 e,Tz]
   ·refine⟨_,λw=>?_,λw=>?_,c⟩<;>simp[Op.equalIn,A9 e,Tz]
  case interface m=>
   simp only[BY] at d;subst d;obtain⟨f,c⟩:=c;cases v<;>simp only[kT] at f
   ·refine⟨_,λw=>?_,λw=>?_,c⟩<;>simp[Op.equalIn,A9 e,ZB]
   ·refine⟨_,λw=>?_,λw=>?_,c⟩<;>simp[Op.equalIn,A9 e,ZB]
end
section
variable {P : Q1}
def PR(P:Q1)(s:Sem J0)(K:J0->Prop):Prop:= ∃v,(∀ a,s.run P a= .ok v a)/\K v
theorem AEg {N:Nat}{a:Act}{c:Env}(f:Fits N a c){o:Oper}{K:J0->Prop}(g:Ez o)
  (h:known c o.op.operands.toList (Vj P (execOp (ρof c) o) λx=>match x with| .value v=>K v|_=>False)):
  ∃v,(∀ d,(execOp a.eval o).run P d= .ok (.value v) d)/\K v:=by
 obtain⟨i,j⟩:=KP f h;obtain⟨x,b,e⟩:=MW j;rw[execOp_congr o g (λx b=>i x (by simpa using b))] at b;cases x<;>simp only[] at e
 exact⟨_,b,e⟩
theorem AMY {d:BinOp}{t:Q7}{x g:Operand}{v u:J0}{K:J0->Prop}(h:d= .quo\/d= .rem)(c:oT d v u K):PR P (do eqGuard d t x g v u;binOp d t v u) K:=by
 unfold oT at c;cases v<;>cases u<;>simp only[] at c<;>try exact c.elim
 rename_i i a j b;by_cases f:i=j
 ·subst f;rcases h with rfl|rfl
  ·simp only[decide_true] at c;obtain⟨e,c⟩:=c;exact⟨_,λk=>by simp[eqGuard,binOp,Op.intDiv,e],c⟩
  ·simp only[decide_true] at c;obtain⟨e,c⟩:=c;exact⟨_,λk=>by simp[eqGuard,binOp,Op.intDiv,e],c⟩
 ·rw[decide_eq_false f] at c;exact c.elim
theorem APn {b:BinOp}{t:Q7}{x d:Operand}{v u:J0}{K:J0->Prop}(e:b= .shl\/b= .shr)(a:oU b v u K):PR P (do eqGuard b t x d v u;binOp b t v u) K:=by
 unfold oU at a;cases v<;>cases u<;>simp only[] at a<;>try exact a.elim
 rcases e with rfl|rfl
 ·simp only[] at a;obtain⟨c,a⟩:=a;exact⟨_,λf=>by simp[eqGuard,binOp,Op.shift,Int.not_lt.2 c],a⟩
 ·simp only[] at a;obtain⟨c,a⟩:=a;exact⟨_,λf=>by simp[eqGuard,binOp,Op.shift,Int.not_lt.2 c],a⟩
theorem AM2 {t:Q7}{x b:Operand}{v u:J0}{K:J0->Prop}(a:oV v u K):PR P (do eqGuard .add t x b v u;binOp .add t v u) K:=by
 unfold oV at a;cases v<;>cases u<;>simp only[] at a<;>try exact a.elim
 obtain⟨c,a⟩:=a;refine⟨_,λe=>?_,a⟩;have d: ¬(((_:A2P).size+(_:A2P).size:Nat):Int)>IntKind.i64.max:=Int.not_lt.2 c;simp only[eqGuard,binOp,Op.stringOp,if_neg d];rfl
theorem su {t:Q7}{v u:J0}{K:Bool->Prop}(c:kU P t v K)(d:Tq P t=some u):
  ∃b,(∀ a,(Op.equal t v u).run P a= .ok b a)/\(∀ a,(Op.equal t u v).run P a= .ok b a)/\K b:=AF4 9999 c d
theorem binOp_eql {a:BinOp}{t:Q7}{v u:J0}{b:Bool}(g:a= .eql\/a= .neq)(c:Tq P t=some u){d:World}(e:(Op.equal t v u).run P d= .ok b d):
  (binOp a t v u).run P d= .ok (Vo a b) d/\True:=by
 have f:u= .pointer none\/u= .slice none 0 0\/u= .map none\/u= .nilFunc\/u= .nilIface:=by unfold Tq at c;split at c<;>simp at c<;>subst c<;>simp
 refine⟨?_,trivial⟩;rcases g with rfl|rfl
 ·rcases f with rfl|rfl|rfl|rfl|rfl<;>cases v<;>simp[binOp,e,Vo]
 ·rcases f with rfl|rfl|rfl|rfl|rfl<;>cases v<;>simp[binOp,e,Vo]
theorem AJO {a:BinOp}{t:Q7}{v u:J0}{b:Bool}(g:a= .eql\/a= .neq)(c:Tq P t=some u){d:World}(e:(Op.equal t u v).run P d= .ok b d):
  (binOp a t u v).run P d= .ok (Vo a b) d/\True:=by
 have f:u= .pointer none\/u= .slice none 0 0\/u= .map none\/u= .nilFunc\/u= .nilIface:=by unfold Tq at c;split at c<;>simp at c<;>subst c<;>simp
 refine⟨?_,trivial⟩;rcases g with rfl|rfl
 ·rcases f with rfl|rfl|rfl|rfl|rfl<;>cases v<;>simp[binOp,e,Vo]
 ·rcases f with rfl|rfl|rfl|rfl|rfl<;>cases v<;>simp[binOp,e,Vo]
theorem sv {b:BinOp}{t:Q7}{x e:Operand}{v u:J0}{d:World}(f:b= .eql\/b= .neq)(a:Tq P t=some u)(g:(∃ c,x= .const c)\/(∃ c,e= .const c)):
  (eqGuard b t x e v u).run P d= .ok () d/\(eqGuard b t x e u v).run P d= .ok () d:=by
 have h:u= .pointer none\/u= .slice none 0 0\/u= .map none\/u= .nilFunc\/u= .nilIface:=by unfold Tq at a;split at a<;>simp at a<;>subst a<;>simp
 clear a;rcases f with rfl|rfl<;>rcases g with⟨c,rfl⟩|⟨c,rfl⟩<;>rcases h with rfl|rfl|rfl|rfl|rfl<;>cases v<;>exact⟨by simp[eqGuard],by simp[eqGuard]⟩
theorem AM4 {d:BinOp}{t:Q7}{x h:Operand}{v u:J0}{K:J0->Prop}(n: ∀c,x= .const c->v=c)(o: ∀c,h= .const c->u=c)(e:oW P d t x h v u K):
  PR P (do eqGuard d t x h v u;binOp d t v u) K:=by
 unfold oW at e;cases a:UW P d t x h with
 |dW=>rw[a] at e;exact MW e
 |no=>rw[a] at e;exact e.elim
 |div=>
  rw[a] at e;refine AMY ?_ e;unfold UW at a;cases d<;>simp only[] at a<;>first|exact .inl rfl|exact .inr rfl|(exfalso;split at a<;>first|(cases a;done)|(split at a<;>first|(cases a;done)|(split at a<;>cases a)))
 |shift=>
  rw[a] at e;refine APn ?_ e;unfold UW at a;cases d<;>simp only[] at a<;>first|exact .inl rfl|exact .inr rfl|(exfalso;split at a<;>first|(cases a;done)|(split at a<;>first|(cases a;done)|(split at a<;>cases a)))
 |cat=>
  rw[a] at e;have:d= .add:=by unfold UW at a;cases d<;>simp only[] at a<;>first|rfl|(exfalso;split at a<;>first|(cases a;done)|(split at a<;>first|(cases a;done)|(split at a<;>cases a)))
  subst this;exact AM2 e
 |j4=>
  rw[a] at e;have f:(d= .eql\/d= .neq)/\VB P t h=true:=by
   unfold UW at a;cases d<;>simp only[] at a<;>first
    |(refine⟨.inl rfl,?_⟩;split at a<;>first|(cases a;done)|(split at a<;>first|assumption|(split at a<;>cases a)))
    |(refine⟨.inr rfl,?_⟩;split at a<;>first|(cases a;done)|(split at a<;>first|assumption|(split at a<;>cases a)))
    |(exfalso;split at a<;>first|(cases a;done)|(split at a<;>first|(cases a;done)|(split at a<;>cases a)))
  obtain⟨f,i⟩:=f;obtain⟨c,l,g⟩:=Xa i;have:=o c l;subst this;obtain⟨b,p,_,j⟩:=su e g;refine⟨Vo d b,λk=>?_,j⟩;rw[Sem.run_bind,(sv f g (.inr ⟨_,l⟩)).1];exact(binOp_eql f g (p k)).1
 |j5=>
  rw[a] at e;have f:(d= .eql\/d= .neq)/\VB P t x=true:=by
   unfold UW at a;cases d<;>simp only[] at a<;>first
    |(refine⟨.inl rfl,?_⟩;split at a<;>first|(cases a;done)|(split at a<;>first|(cases a;done)|(split at a<;>first|assumption|(cases a;done))))
    |(refine⟨.inr rfl,?_⟩;split at a<;>first|(cases a;done)|(split at a<;>first|(cases a;done)|(split at a<;>first|assumption|(cases a;done))))
    |(exfalso;split at a<;>first|(cases a;done)|(split at a<;>first|(cases a;done)|(split at a<;>cases a)))
  obtain⟨f,i⟩:=f;obtain⟨c,m,g⟩:=Xa i;have:=n c m;subst this;obtain⟨b,_,q,j⟩:=su e g;refine⟨Vo d b,λk=>?_,j⟩;rw[Sem.run_bind,(sv f g (.inl ⟨_,m⟩)).2];exact(AJO f g (q k)).1
end
section
variable {P : Q1}
theorem AD0 {t:Q7}{v i:J0}{K:J0->Prop}(b:oX P t v i K):PR P (Instr.indexAt t v i) K:=by
 unfold oX at b;split at b
 ·rename_i h d;split at b
  ·rename_i p len c j k l e;obtain⟨a,rfl,⟨f,g⟩,b⟩:=b;refine⟨_,λm=>?_,b⟩;simp[Instr.indexAt,asIntOf,A9 d,run_sizeOf e,f,g]
  ·exact b.elim
 ·rename_i len h d;split at b
  ·rename_i p j k l e;obtain⟨a,rfl,b⟩:=At.mk b;obtain⟨⟨f,g⟩,b⟩:=b;refine⟨_,λm=>?_,b⟩;simp[Instr.indexAt,asIntOf,A9 d,run_sizeOf e,f,g,Instr.sureAddr]
  ·exact b.elim
 ·exact b.elim
theorem AH9 {t:Q7}{v i:J0}{K:J0->Prop}(a:oY P t v i K):PR P (Instr.index t v i) K:=by
 unfold oY at a;split at a
 ·rename_i c;split at a
  ·rename_i s g b;obtain⟨⟨d,h⟩,a⟩:=a;refine⟨_,λj=>?_,a⟩;have e:b.toNat<s.size:=by omega
   have f:s[b.toNat]? =some s[b.toNat]:=by simp[e]
   simp[Instr.index,asIntOf,A9 c,d,f,dk]
  ·exact a.elim
 ·exact MW a
 ·exact a.elim
theorem Uj {x:Option J0}{d max:Nat}{K:Nat->Prop}(a:gv x d max K):
  (x=none/\K d)\/ ∃c b,x=some (.int c b)/\0<=b/\b<=(max:Int)/\K b.toNat:=by
 unfold gv at a;split at a
 ·rename_i c b;obtain⟨⟨e,f⟩,a⟩:=a;exact .inr ⟨c,b,rfl,e,f,a⟩
 ·exact .inl ⟨rfl,a⟩
 ·exact a.elim
theorem run_sliceBound {d:IntKind}{a:Int}{b:Nat}{e:BoundsCode}(f:0<=a)(g:a<=(b:Int))(c:World):
  (Instr.sliceBound (.int d a) b e).run P c= .ok a.toNat c:=by
 simp[Instr.sliceBound,asIntOf,f,g]
theorem Mw {b:Bool}{len g:Nat}{k m:Option J0}{K:Nat->Nat->Prop}
  (p:gv m len g λe=>gv k 0 e λl=>K l e): ∃l e,(∀ d,(Instr.sliceBounds b len g k m none).run P d= .ok (l,e,g) d)/\K l e:=by
 obtain⟨f,h⟩|⟨s,t,f,n,o,h⟩:=Uj p
 ·obtain⟨a,c⟩|⟨q,r,a,i,j,c⟩:=Uj h
  ·exact⟨_,_,λd=>by simp[Instr.sliceBounds,f,a],c⟩
  ·exact⟨_,_,λd=>by simp[Instr.sliceBounds,f,a,run_sliceBound i j],c⟩
 ·obtain⟨a,c⟩|⟨q,r,a,i,j,c⟩:=Uj h
  ·exact⟨_,_,λd=>by simp[Instr.sliceBounds,f,a,run_sliceBound n o],c⟩
  ·exact⟨_,_,λd=>by simp[Instr.sliceBounds,f,a,run_sliceBound n o,run_sliceBound i j],c⟩
theorem AHt {t:Q7}{v:J0}{g h:Option J0}{K:J0->Prop}(c:p5 P t v g h K):PR P (Instr.sliceAt t v g h none) K:=by
 unfold p5 at c;split at c
 ·rename_i d;split at c
  ·rename_i s;obtain⟨l,i,e,c⟩:=Mw (P:=P) (b:=false) c;refine⟨_,λj=>?_,c⟩;simp[Instr.sliceAt,Instr.slice,A9 d,e]
  ·exact c.elim
 ·rename_i k d;split at c
  ·rename_i p len o m f;obtain⟨l,i,e,c⟩:=Mw (P:=P) (b:=true) c;refine⟨_,λj=>?_,c⟩;simp[Instr.sliceAt,Instr.slice,A9 d,e,run_sizeOf f,Ay]
  ·exact c.elim
 ·rename_i q k d;split at c
  ·rename_i p m f;obtain⟨a,rfl,n⟩:=At.mk c;obtain⟨l,i,e,c⟩:=Mw (P:=P) (b:=false) n;refine⟨_,λj=>?_,c⟩;simp[Instr.sliceAt,A9 d,e,run_sizeOf f,Instr.sureAddr]
  ·exact c.elim
 ·exact c.elim
theorem AGk {t:Q7}{v d:J0}{e f:Option J0}{K:J0->Prop}(a:p7 P t v e f d K):PR P (Instr.sliceAt t v e f (some d)) K:=by
 unfold p7 at a;split at a
 ·rename_i q g;split at a
  ·rename_i p len r s u w b x h;obtain⟨⟨i,j⟩,⟨k,l⟩,a⟩:=a;obtain⟨c,b⟩|⟨y,z,c,m,n,b⟩:=Uj a
   ·refine⟨_,λo=>?_,b⟩;simp[Instr.sliceAt,Instr.slice,Instr.sliceBounds,A9 g,run_sizeOf h,Ay,c,run_sliceBound i j,run_sliceBound k l]
   ·refine⟨_,λo=>?_,b⟩;simp[Instr.sliceAt,Instr.slice,Instr.sliceBounds,A9 g,run_sizeOf h,Ay,c,run_sliceBound i j,run_sliceBound k l,run_sliceBound m n]
  ·exact a.elim
 ·exact a.elim
theorem ae.mk {b:Bool}{c d:Prop}(a:ae b c d):(b=true->c)/\(b=false->d):=by
 cases b
 ·exact⟨λa=>(by cases a),λ_=>a⟩
 ·exact⟨λ_=>a,λa=>(by cases a)⟩
theorem AJR {c:Bool}{a b:Option J0}{va vb:J0}(e: ∀v,a=some v->va=v)(f: ∀v,b=some v->vb=v){K:J0->Prop}(d:p8 c a b K):
  K (if c then va else vb):=by
 unfold p8 at d;split at d
 ·rename_i x g;rw[e _ rfl,f _ rfl];cases c<;>exact d
 ·rename_i x g _;rw[e _ rfl,f _ rfl];cases c<;>exact d
 ·rename_i x;rw[e _ rfl];cases c
  ·exact d.elim
  ·exact d
 ·rename_i g;rw[f _ rfl];cases c
  ·exact d
  ·exact d.elim
 ·exact d.elim
theorem RN {N:Nat}{a:Act}{b:Env}(d:Fits N a b){x:Option Operand}{K:Option J0->Prop}(c:kV b x K):K (x.map a.eval):=by
 cases x with
 |none=>exact c
 |some x=>exact BQ d c
theorem Rq {N:Nat}{a:Act}{c:Env}(d:Fits N a c){t:Q7}: ∀ {l:List (Nat×Operand)} {K:List (Nat×Array J0)->Prop},kX P t c l K->K (l.map λp=>(p.1,(a.eval p.2).cells))
 | [],K,b=>b
 |(i,x)::g,K,b=>by
  unfold kX at b;split at b
  ·have e:=Q4 (BQ d b);have f:=Rq d e;exact f
  ·exact b.elim
theorem tf: ∀(a:List Field),placesOf P a=a.mapM (λf=>(P.info? f.type).map λi=>(f.offset,i.size))
 | []=>rfl
 |f::b=>by
  simp only[placesOf,PB,Option.bind_eq_bind,Option.pure_def,tf b];cases P.info? f.type with
  |none=>rfl
  |some i=>simp only[IT,Hi];cases b.mapM (λf=>(P.info? f.type).map λi=>(f.offset,i.size))<;>rfl
theorem AKX {t:Q7}{b:Array (Nat×J0)}{cells:Array J0}(a:pa P t (b.toList.map λp=>(p.1,p.2.cells))=some cells)(c:World):
  (Instr.build t b).run P c= .ok (.agg cells) c:=by
 unfold pa at a;split at a
 ·rename_i j e;split at a
  ·rename_i z f;split at a
   ·rename_i k d;split at a
    ·rename_i l g;rw[<- mJ] at a;rw[tf] at g;have h:Instr.fill (λx=>l[x]?) z.cells b.toList=some cells:=by simpa using a
     simp[Instr.build,run_underlying d,typeInfo,zeroValue,e,f,XS,run_places c _ _ g,h]
    ·cases a
   ·rename_i m n d;split at a
    ·rename_i o i;rw[<- mJ] at a;simp[Instr.build,run_underlying d,sizeOf,typeInfo,zeroValue,e,f,i,a]
    ·cases a
   ·cases a
  ·cases a
 ·cases a
theorem WK {N:Nat}{a:Act}{k:Env}(e:Fits N a k){o:Oper}{K:J0->Prop}(q:Ez o)(d:mK P o k K):
  ∃v,(∀ g,(execOp a.eval o).run P g= .ok (.value v) g)/\K v:=by
 have lift: ∀ {s:Sem J0},PR P s K->(execOp a.eval o=do pure (.value (<- s)))-> ∃v,(∀ g,(execOp a.eval o).run P g= .ok (.value v) g)/\K v:=by intro s ⟨v,j,r⟩ u;exact⟨v,λg=>by rw[u];exact jq (j g),r⟩
 have w:=AEg (P:=P) e (o:=o) (K:=K) q;unfold mK at d;cases f:o.op
 case nilCheck x=>
  rw[f] at d;have d:=BQ e d;unfold sq at d;cases l:a.eval x<;>rw[l] at d<;>simp only[] at d
  rename_i p;obtain⟨b,rfl,d⟩:=At.mk d;exact⟨_,λg=>by simp[execOp,f,l],d⟩
 case binOp z t x n t'=>
  rw[f] at d;have d:=BQ e (BQ e d);refine lift (AM4 (λc h=>by subst h;rfl) (λc h=>by subst h;rfl) d) ?_;simp[execOp,f]
 case indexAddr t x i=>
  rw[f] at d;have d:=BQ e (BQ e d);refine lift (AD0 d) ?_;simp[execOp,f]
 case index t x i=>
  rw[f] at d;have d:=BQ e (BQ e d);refine lift (AH9 d) ?_;simp[execOp,f]
 case slice t x A B y=>
  rw[f] at d;cases y with
  |some m=>
   have d:=BQ e (RN e (RN e (BQ e d)));refine lift (AGk d) ?_;simp[execOp,f]
  |none=>
   have d:=RN e (RN e (BQ e d));refine lift (AHt d) ?_;simp[execOp,f]
 case build t C=>
  rw[f] at d;have d:=Rq e d;split at d
  ·rename_i cells h;refine⟨_,λg=>?_,d⟩;simp only[execOp,f];refine jq (AKX ?_ g);rw[<- h];congr 1;simp
  ·exact d.elim
 case pick c x n=>
  rw[f] at d;have d:=BQ e d;cases h:a.eval c<;>rw[h] at d<;>simp only[] at d
  rename_i b;have d:=AJR (va:=a.eval x) (vb:=a.eval n) (λv j=>e.rdv j) (λv j=>e.rdv j) d;exact⟨_,λg=>by simp[execOp,f,h,asBool],d⟩
 all_goals (rw[f] at d;simp only[] at d;rw[<- f] at d;exact w d)
def MZ(b:aa)(a:Q6):Nat->List J0->Prop
 |_,[]=>True
 |i,[v]=>ag b (a.add i)=some v
 |i,v::c=>ag b (a.add i)=some v/\MZ b a (i+1) c
def loadT(P:Q1)(t:Q7)(c:aa)(a:Q6)(K:J0->(aa->Prop)->Prop):Prop:=
 match WT P t with
 |true=>match P.info? t with
  |some i=>match Nat.beq (jo P 20 t).length i.size with
   |true=>oR c a 0 (jo P 20 t) λd=>K (.agg d.toArray) (λb=>MZ b a 0 d)
   |false=>False
  |none=>False
 |false=>match P.underlying t with
  |some _=>match jo P 20 t with
   | [s]=>s.load c a λx=>K (s.val x) (λb=>ag b a=some (s.val x))
   |_=>False
  |none=>False
def mS(P:Q1)(b:Oper)(c:Env)(d:aa)(K:J0->(aa->Prop)->Prop):Prop:=
 match b.op with
 | .load t x=>rd c x λv=>match v with
  | .pointer p=>At p λa=>loadT P t d a K
  |_=>False
 |_=>False
theorem Vh {b:aa}{a:Q6}{i:Nat}{v:J0}{c:List J0}:MZ b a i (v::c)↔ag b (a.add i)=some v/\MZ b a (i+1) c:=by
 cases c with
 |nil=>simp[MZ]
 |cons u d=>simp[MZ]
theorem Vi {d:aa}{a:Q6}: ∀ {l:List Sc} {i:Nat} {K:List J0->Prop},oR d a i l K-> ∃c,c.length=l.length/\MZ d a i c/\K c
 | [],_,_,b=>⟨[],rfl,trivial,b⟩
 |s::l,i,K,b=>by
  obtain⟨x,e,b⟩:=Sc.ck b;obtain⟨c,f,g,b⟩:=Vi b;exact⟨s.val x::c,by simp[f],Vh.2 ⟨e,g⟩,b⟩
theorem run_loadCellsFrom {A:ak}{b:aa}{a:Q6}{n:Nat}: ∀ {c:List J0} {i:Nat} {acc:Array J0},MZ b a i c->
  (loadCellsFrom a i c.length acc).run P (A.at b n)= .ok (acc++c.toArray) (A.at b n)
 | [],_,acc,_=>by simp[loadCellsFrom]
 |v::c,i,acc,d=>by
  obtain⟨e,f⟩:=Vh.1 d;have g:=run_loadCellsFrom (A:=A) (n:=n) (acc:=acc.push v) f;have h:(load (a.add i)).run P (A.at b n)= .ok v (A.at b n):=by have j:(A.at b n).cell? (a.add i)=some v:=e;simp[load,Sem.run,j]
  simp only[A6,loadCellsFrom,Sem.run_bind,h,Result.andThen_ok,g];simp
theorem tg {t:Q7}{b:World}(c: ∃a,P.underlying t=some a):(isAgg t).run P b= .ok (WT P t) b:=by obtain⟨a,hd⟩:=c;unfold isAgg WT;rw[hd];cases a<;>simp[A9 hd]
theorem th {A:ak}{t:Q7}{i:aa}{a:Q6}{K:J0->(aa->Prop)->Prop}(b:loadT P t i a K):
  ∃v st,(∀ c,st c-> ∀n,(loadVar t a).run P (A.at c n)= .ok v (A.at c n))/\st i/\K v st:=by
 unfold loadT at b;cases d:WT P t with
 |true=>
  rw[d] at b;simp only[] at b;have f: ∃e,P.underlying t=some e:=by
   cases f:P.underlying t with
   |none=>simp[WT,f] at d
   |some e=>exact⟨e,rfl⟩
  split at b
  ·rename_i q j;split at b
   ·rename_i g;have g:=IH g;obtain⟨r,k,l,b⟩:=Vi b;refine⟨_,_,λc h n=>?_,l,b⟩;have m:=run_loadCellsFrom (P:=P) (A:=A) (n:=n) (acc:= #[]) h;simp only[loadVar,Sem.run_bind,tg f,d,Result.andThen_ok,if_true,run_sizeOf j];rw[<- g,<-k];simp only[loadCells,m,Result.andThen_ok];simp
   ·exact b.elim
  ·exact b.elim
 |false=>
  rw[d] at b;simp only[] at b;split at b
  ·rename_i e hd;split at b
   ·rename_i s _;obtain⟨x,o,b⟩:=Sc.ck b;refine⟨_,_,λc h n=>?_,o,b⟩;have p:(A.at c n).cell? a=some (s.val x):=h;simp[loadVar,tg ⟨e,hd⟩,d,load,Sem.run,p]
   ·exact b.elim
  ·exact b.elim
theorem ck {A:ak}{N:Nat}{a:Act}{e:Env}(h:Fits N a e){f:Oper}{g:aa}{K:J0->(aa->Prop)->Prop}(c:mS P f e g K):
  ∃v st,(∀ d,st d->dt P A f a.eval v d)/\st g/\K v st:=by
 unfold mS at c;split at c
 ·rename_i t x i;have c:=BQ h c;split at c
  ·rename_i p d;obtain⟨b,rfl,c⟩:=At.mk c;obtain⟨v,st,j,k,c⟩:=th (A:=A) c;refine⟨v,st,λl m n=>?_,k,c⟩;have:=j l m n;simp only[execOp,i,d];refine jq ?_;simp only[Instr.loadAt,Instr.sureAddr,Sem.run_bind,Sem.run_pure,Result.andThen_ok];exact this
  ·exact c.elim
 ·exact c.elim
end
section
variable {P : Q1} {A : ak} {r : Option Nat} {ops : Array Oper} {qb : Oper -> Bool} {ord : Nat -> Nat -> Bool}
abbrev Kt:=Act->aa->List (Nat×(aa->Prop))->List (Nat×aa)->Prop
def Eg(P:Q1)(A:ak)(ops:Array Oper)(qb:Oper->Bool)(ord:Nat->Nat->Bool)(i:Nat)(K:Kt):Kt:=λa c d e=>
 match ops[i]? with
 |none=>False
 |some b=>
  if Region.wanted b (yielded ops a.tmps)=true then
   if qb b=true then
    ∃v,dt P A b a.eval v c/\(∀ p∈e,un ord i p.1=true->dt P A b a.eval v p.2)/\K (a.put b.dst v) c ((i,dt P A b a.eval v)::d) e
   else
    ∀g,EV P b a.eval (A.at c g) λv h=> ∃f j,h=A.at f j/\(∀ p∈d,un ord i p.1=true->p.2 f)/\K (a.put b.dst v) f d ((i,c)::e)
  else K (a.put b.dst undef) c d e
def lE(K:Kt):Prop:= ∀a b c d e f,K a b c e->(∀ p∈d,p∈c)->(∀ p∈f,p∈e)->K a b d f
theorem Eg.mono {i:Nat}{K l:Kt}(f: ∀a c d e,K a c d e->l a c d e){a:Act}{c:aa}{d:List (Nat×(aa->Prop))}{e:List (Nat×aa)}
  (b:Eg P A ops qb ord i K a c d e):Eg P A ops qb ord i l a c d e:=by
 unfold Eg at b ⊢;cases m:ops[i]? with
 |none=>rw[m] at b;exact b
 |some t=>
  rw[m] at b;simp only at b ⊢;split
  ·rename_i g;rw[if_pos g] at b;split
   ·rename_i h;rw[if_pos h] at b;obtain⟨v,n,j,k⟩:=b;exact⟨v,n,j,f _ _ _ _ k⟩
   ·rename_i h;rw[if_neg h] at b;intro o;refine(b o).mono ?_;rintro v u ⟨p,q,s,j,k⟩;exact⟨p,q,s,j,f _ _ _ _ k⟩
  ·rename_i g;rw[if_neg g] at b;exact f _ _ _ _ b
theorem Eg.fi {i:Nat}{K:Kt}(f:lE K):lE (Eg P A ops qb ord i K):=by
 intro a t u w x y b d e;unfold Eg at b ⊢;cases l:ops[i]? with
 |none=>rw[l] at b;exact b
 |some z=>
  rw[l] at b;simp only at b ⊢;split
  ·rename_i g;rw[if_pos g] at b;split
   ·rename_i h;rw[if_pos h] at b;obtain⟨v,m,j,k⟩:=b;refine⟨v,m,λp c=>j p (e p c),f _ _ _ _ _ _ k (λp c=>?_) e⟩;rcases List.mem_cons.1 c with rfl|c
    ·exact AM
    ·exact An _ (d p c)
   ·rename_i h;rw[if_neg h] at b;intro n;refine(b n).mono ?_;rintro v B ⟨o,q,s,j,k⟩;refine⟨o,q,s,λp c=>j p (d p c),f _ _ _ _ _ _ k d (λp c=>?_)⟩;rcases List.mem_cons.1 c with rfl|c
    ·exact AM
    ·exact An _ (e p c)
  ·rename_i g;rw[if_neg g] at b;exact f _ _ _ _ _ _ b d e
theorem Eg.swap {i l:Nat}{c d:Oper}(E:ops[i]? =some c)(o:ops[l]? =some d)(X:c.apart ops d=true)(Y:Ez c)(Z:Ez d)
  (J:un ord i l=true) (ab:qb c=true\/qb d=true) {K:Kt} (ac:lE K) {a:Act} {e:aa} {G:List (Nat×(aa->Prop))} {H:List (Nat×aa)}
  (b:Eg P A ops qb ord l (Eg P A ops qb ord i K) a e G H):Eg P A ops qb ord i (Eg P A ops qb ord l K) a e G H:=by
 obtain⟨U,ad,V⟩:=Oper.apart_spec X;have aj:un ord l i=true:=by unfold un at *;rwa [ON,OR]
 have L: ∀u,execOp (a.put d.dst u).eval c=execOp a.eval c:=λu=>execOp_put c Y a d.dst u V
 have M: ∀u,execOp (a.put c.dst u).eval d=execOp a.eval d:=λu=>execOp_put d Z a c.dst u U
 have I: ∀u,Region.wanted c (yielded ops (a.put d.dst u).tmps)=Region.wanted c (yielded ops a.tmps):=λu=>wanted_put c a d.dst u V
 have t: ∀u,Region.wanted d (yielded ops (a.put c.dst u).tmps)=Region.wanted d (yielded ops a.tmps):=λu=>wanted_put d a c.dst u U
 have N: ∀u,dt P A c (a.put d.dst u).eval=dt P A c a.eval:=λu=>by funext v e;unfold dt;rw[L]
 have O: ∀u,dt P A d (a.put c.dst u).eval=dt P A d a.eval:=λu=>by funext v e;unfold dt;rw[M]
 have w: ∀v u,(a.put c.dst v).put d.dst u=(a.put d.dst u).put c.dst v:=λv u=>Act.put_comm a v u ad
 unfold Eg at b ⊢;rw[o] at b;rw[E];simp only at b ⊢;by_cases m:Region.wanted d (yielded ops a.tmps)=true
 ·rw[if_pos m] at b;by_cases x:qb d=true
  ·rw[if_pos x] at b;obtain⟨R,S,T,b⟩:=b;rw[E] at b;simp only[I,N] at b;by_cases n:Region.wanted c (yielded ops a.tmps)=true
   ·rw[if_pos n] at b ⊢;by_cases y:qb c=true
    ·rw[if_pos y] at b ⊢;obtain⟨h,z,B,b⟩:=b;refine⟨h,z,B,?_⟩;rw[o];simp only[t,O];rw[if_pos m,if_pos x];refine⟨R,S,T,?_⟩;rw[w];exact ac _ _ _ _ _ _ b (λp f=>by simp only[HD] at f ⊢;rcases f with e|e|e<;>simp[e]) (λ_ e=>e)
    ·rw[if_neg y] at b ⊢;intro j;have:=b j;unfold EV at this;rw[L] at this;refine EV.mono this ?_;rintro h C ⟨g,k,q,f,b⟩;refine⟨g,k,q,λp s=>f p (An _ s),?_⟩;rw[o];simp only[t,O];rw[if_pos m,if_pos x];refine⟨R,f _ AM J,?_,?_⟩
     ·intro p s F;rcases List.mem_cons.1 s with rfl|s
      ·exact S
      ·exact T p s F
     ·rw[w];exact b
   ·rw[if_neg n] at b ⊢;rw[o];simp only[t,O];rw[if_pos m,if_pos x];exact⟨R,S,T,by rw[w];exact b⟩
  ·rw[if_neg x] at b;have y:qb c=true:=ab.resolve_right x;by_cases n:Region.wanted c (yielded ops a.tmps)=true
   ·rw[if_pos n,if_pos y];have key: ∀j,EV P d a.eval (A.at e j) λv C=> ∃g k,C=A.at g k/\(∀ p∈G,un ord l p.1=true->p.2 g)/\
      ∃h,dt P A c a.eval h g/\(∀ p∈(l,e)::H,un ord i p.1=true->dt P A c a.eval h p.2)/\
       K ((a.put d.dst v).put c.dst h) g ((i,dt P A c a.eval h)::G) ((l,e)::H):=by
     intro j;refine(b j).mono ?_;rintro v C ⟨g,k,q,f,b⟩;rw[E] at b;simp only[I,N] at b;rw[if_pos n,if_pos y] at b;exact⟨g,k,q,f,b⟩
    obtain⟨ak,al,am,an,_,_,h,_,B,_⟩:=(key 0).some;have z:dt P A c a.eval h e:=B (l,e) AM J;refine⟨h,z,λp f F=>B p (An _ f) F,?_⟩;rw[o];simp only[t];rw[if_pos m,if_neg x];intro j;have:=key j;unfold EV at this ⊢;rw[M];refine Next.cm ?_ this;rintro v C ⟨g,k,q,f,W,ae,af,b⟩;have ag:dt P A c a.eval W e:=af (l,e) AM J;have ah:W=h:=by have ai:=z 0;have D:=ag 0;rw[ai] at D;injection D with D _;injection D with D;exact D.symm
    subst ah;refine⟨g,k,q,?_,?_⟩
    ·intro p s F;rcases List.mem_cons.1 s with rfl|s
     ·exact ae
     ·exact f p s F
    ·rw[w];exact b
   ·rw[if_neg n];rw[o];simp only[t];rw[if_pos m,if_neg x];intro j;have:=b j;unfold EV at this ⊢;rw[M];refine Next.cm ?_ this;rintro v C ⟨g,k,q,f,b⟩;rw[E] at b;simp only[I] at b;rw[if_neg n] at b;exact⟨g,k,q,f,by rw[w];exact b⟩
 ·rw[if_neg m] at b;rw[E] at b;simp only[I,N] at b;by_cases n:Region.wanted c (yielded ops a.tmps)=true
  ·rw[if_pos n] at b ⊢;by_cases y:qb c=true
   ·rw[if_pos y] at b ⊢;obtain⟨h,z,B,b⟩:=b;refine⟨h,z,B,?_⟩;rw[o];simp only[t];rw[if_neg m,w];exact b
   ·rw[if_neg y] at b ⊢;intro j;have:=b j;unfold EV at this ⊢;rw[L] at this;refine Next.cm ?_ this;rintro v C ⟨g,k,q,f,b⟩;refine⟨g,k,q,f,?_⟩;rw[o];simp only[t];rw[if_neg m,w];exact b
  ·rw[if_neg n] at b ⊢;rw[o];simp only[t];rw[if_neg m,w];exact b
def Qw(ord:Nat->Nat->Bool)(l:List Nat)(i:Nat):Bool:=l.all λa=> !ord i a
def WU(ops:Array Oper)(qb:Oper->Bool)(i:Nat):Bool:=match ops[i]? with|some a=>qb a|none=>false
def jX(ops:Array Oper)(qb:Oper->Bool)(ord:Nat->Nat->Bool)(l:List Nat):Option Nat:=l.find? λi=>WU ops qb i&&Qw ord l i
def FT(P:Q1)(A:ak)(ops:Array Oper)(qb:Oper->Bool)(ord:Nat->Nat->Bool)(Q:Act->aa->Prop):Nat->List Nat->Kt
 |_,[]=>λa b _ _=>Q a b
 |0,_::_=>λ_ _ _ _=>False
 |k+1,x::l=>λa b c d=>
  match jX ops qb ord (x::l) with
  |some i=>Eg P A ops qb ord i (FT P A ops qb ord Q k ((x::l).erase i)) a b c d
  |none=> ∀i∈x::l,Qw ord (x::l) i=true->Eg P A ops qb ord i (FT P A ops qb ord Q k ((x::l).erase i)) a b c d
variable {Q : Act -> aa -> Prop}
theorem FT.fi: ∀(k:Nat) (l:List Nat),lE (FT P A ops qb ord Q k l)
 |_,[]=>by intro a d _ _ _ _ b _ _;unfold FT at b ⊢;exact b
 |0,_::_=>by intro a d _ _ _ _ b _ _;unfold FT at b;exact b.elim
 |k+1,x::l=>by
  intro a d j m n o b e f;unfold FT at b ⊢;split
  ·rename_i i c;rw[c] at b;exact Eg.fi (FT.fi k _) _ _ _ _ _ _ b e f
  ·rename_i c;rw[c] at b;exact λi g h=>Eg.fi (FT.fi k _) _ _ _ _ _ _ (b i g h) e f
def nB(ops:Array Oper)(qb:Oper->Bool)(ord:Nat->Nat->Bool):Bool:=
 (ops.toList.all λe=>IE e)&&
 (List.range ops.size).all λi=>
  match ops[i]? with
  |none=>false
  |some c=>
   (c.after.toList.all λa=> !Region.binds .any a||decide (a.on<i))&&
   (List.range ops.size).all λb=>
    match ops[b]? with
    |none=>false
    |some d=>
     if decide (b<i) then
      if ord i b then c.after.toList.any λa=>Region.binds .any a&&(a.on==b||(decide (b<a.on)&&ord a.on b))
      else(!(qb c||qb d))||(c.apart ops d&&d.apart ops c)
     else !ord i b
structure lF (ops:Array Oper) (qb:Oper->Bool) (ord:Nat->Nat->Bool):Prop where
 nd: ∀(i:Nat) (o:Oper),ops[i]? =some o->IE o=true
 back: ∀(i:Nat) (o:Oper),ops[i]? =some o-> ∀e∈o.after,Region.binds .any e=true->e.on<i
 low: ∀i j,i<ops.size->j<ops.size->ord i j=true->j<i
 pair: ∀(i j:Nat) (oi oj:Oper),ops[i]? =some oi->ops[j]? =some oj->j<i->
   (ord i j=true/\ ∃e∈oi.after,Region.binds .any e=true/\(e.on=j\/(j<e.on/\ord e.on j=true)))\/
   (ord i j=false/\(qb oi=true\/qb oj=true->oi.apart ops oj=true/\oj.apart ops oi=true))
theorem AHV(b:nB ops qb ord=true):lF ops qb ord:=by
 unfold nB at b;simp only[A3,CC,Hb] at b;obtain⟨n,h⟩:=b;refine⟨λi m a=>n m (by rw[LL];exact Iv a),λi m a j k l=>?_,λi c f g a=>?_,λi c u v f g o=>?_⟩
 ·have e:i<ops.size:=(Array.getElem?_eq_some_iff.1 a).1;have:=h i e;rw[a] at this;simp only[A3,CC,Cp,CA,decide_eq_true_eq] at this;exact(this.1 j (by simpa using k)).resolve_left (by simp[l])
 ·have p:ops[i]? =some ops[i]:=CH f;have q:ops[c]? =some ops[c]:=CH g;have:=h i f;rw[p] at this;simp only[A3,CC,Hb] at this;have:=this.2 c g;rw[q] at this;simp only at this;by_cases e:c<i
  ·exact e
  ·rw[if_neg (by simpa using e),a] at this;cases this
 ·have e:i<ops.size:=(Array.getElem?_eq_some_iff.1 f).1;have s:c<ops.size:=(Array.getElem?_eq_some_iff.1 g).1;have:=h i e;rw[f] at this;simp only[A3,CC,Hb] at this;have:=this.2 c s;rw[g] at this;simp only at this;rw[if_pos (by simpa using o)] at this;cases a:ord i c with
  |true=>
   rw[a] at this;simp only[if_true,P3,A3,Cp,beq_iff_eq,decide_eq_true_eq] at this;obtain⟨j,k,l,t⟩:=this;exact .inl ⟨rfl,j,by simpa using k,l,t⟩
  |false=>
   rw[a] at this;simp only[Cl,if_false,A3,Cp,CA,Hj] at this;refine .inr ⟨rfl,λd=>?_⟩;rcases this with b|b
   ·rcases d with d|d
    ·rw[b.1] at d;cases d
    ·rw[b.2] at d;cases d
   ·exact b
theorem Xm {l:List Nat}{i a:Nat}(b:Qw ord l i=true)(c:a∈l):ord i a=false:=by unfold Qw at b;simp only[CC,CA] at b;exact b a c
theorem RH {l:List Nat}{i b:Nat}(a:Qw ord l i=true):Qw ord (l.erase b) i=true:=by unfold Qw at a ⊢;simp only[CC] at a ⊢;exact λx c=>a x (A0k c)
theorem Ry {l:List Nat}{a:Nat}(b:jX ops qb ord l=some a):a∈l/\WU ops qb a=true/\Qw ord l a=true:=by unfold jX at b;have d:=ID b;have c:=Ix b;simp only[A3] at c;exact⟨d,c.1,c.2⟩
theorem AJ1 {l:List Nat}(b:jX ops qb ord l=none){a:Nat}(c:a∈l)(d:WU ops qb a=true):Qw ord l a=false:=by unfold jX at b;have:=List.find?_eq_none.1 b a c;simp only[d,DP] at this;simpa using this
theorem AI7 {i:Nat}(a:WU ops qb i=true): ∃b,ops[i]? =some b/\qb b=true:=by
 unfold WU at a;cases c:ops[i]? with
 |none=>rw[c] at a;cases a
 |some b=>rw[c] at a;exact⟨b,rfl,a⟩
theorem lF.swap(g:lF ops qb ord){i b:Nat}(n:i≠b)(v:i<ops.size)(w:WU ops qb b=true)(o:ord i b=false)(p:ord b i=false){K:Kt}(q:lE K){a:Act}{h:aa}
  {j:List (Nat×(aa->Prop))} {k:List (Nat×aa)}:
  (Eg P A ops qb ord b (Eg P A ops qb ord i K) a h j k->Eg P A ops qb ord i (Eg P A ops qb ord b K) a h j k)/\
  (Eg P A ops qb ord i (Eg P A ops qb ord b K) a h j k->Eg P A ops qb ord b (Eg P A ops qb ord i K) a h j k):=by
 obtain⟨l,d,m⟩:=AI7 w;have e:ops[i]? =some ops[i]:=CH v;have s:=Nc (g.nd _ _ e);have t:=Nc (g.nd _ _ d);have u:(ops[i]).apart ops l=true/\l.apart ops (ops[i])=true:=by
  rcases MD n with f|f
  ·rcases g.pair b i l _ d e f with⟨c,_⟩|⟨_,c⟩
   ·rw[p] at c;cases c
   ·exact(c (.inl m)).symm
  ·rcases g.pair i b _ l e d f with⟨c,_⟩|⟨_,c⟩
   ·rw[o] at c;cases c
   ·exact c (.inr m)
 have x:un ord i b=true:=by
  unfold un;rcases MD n with f|f
  ·rw[Nat.max_eq_right (by omega),GF (by omega),p];rfl
  ·rw[Nat.max_eq_left (by omega),P4 (by omega),o];rfl
 have y:un ord b i=true:=by unfold un at *;rwa [ON,OR]
 exact⟨Eg.swap e d u.1 s t x (.inr m) q,Eg.swap d e u.2 t s y (.inl m) q⟩
theorem FT.both(E:lF ops qb ord): ∀(j:Nat) (l:List Nat),l.length=j+1->(∀ i∈l,i<ops.size)-> ∀(i:Nat),i∈l->Qw ord l i=true->
  (∀ a c d e,FT P A ops qb ord Q (j+1) l a c d e->Eg P A ops qb ord i (FT P A ops qb ord Q j (l.erase i)) a c d e)/\
  (WU ops qb i=true-> ∀a c d e,Eg P A ops qb ord i (FT P A ops qb ord Q j (l.erase i)) a c d e->FT P A ops qb ord Q (j+1) l a c d e):=by
 intro j
 induction j with
 |zero=>
  intro l t u i g n;obtain⟨x,rfl⟩:=List.length_eq_one_iff.1 t;have:i=x:=by simpa using g
  subst this;constructor
  ·intro a c d e f;unfold FT at f;split at f
   ·rename_i b k;have:=(Ry k).1;have:b=i:=by simpa using this
    subst this;exact f
   ·exact f i (by simp) n
  ·intro k a c d e f;unfold FT;split
   ·rename_i b C;have:=(Ry C).1;have:b=i:=by simpa using this
    subst this;exact f
   ·intro F G _;have:F=i:=by simpa using G
    subst this;exact f
 |succ j v=>
  intro l t u i g n;obtain⟨x,h,rfl⟩: ∃x h,l=x::h:=by cases l with|nil=>cases t|cons x h=>exact⟨x,h,rfl⟩
  have w: ∀ {b},b∈x::h->((x::h).erase b).length=j+1:=λk=>by rw[A0l k,t];rfl
  have y: ∀ {b},∀i∈(x::h).erase b,i<ops.size:=λi g=>u i (A0k g)
  have z: ∀ {p b},p∈x::h->p≠b->p∈(x::h).erase b:=λH I=>(List.mem_erase_of_ne I).2 H
  constructor
  ·intro a c d e f;unfold FT at f;split at f
   ·rename_i b k;obtain⟨o,B,q⟩:=Ry k;by_cases m:b=i
    ·subst m;exact f
    ·have D:=Eg.mono (λa c d e=>(v ((x::h).erase b) (w o) y i (z g (Ne.symm m)) (RH n)).1 a c d e) f;have s:=(E.swap (Ne.symm m) (u i g) B (Xm n o) (Xm q g) (FT.fi _ _)).1 D;rw[List.erase_comm] at s;exact Eg.mono (λa c d e=>(v ((x::h).erase i) (w g) y b (z o m) (RH q)).2 B a c d e) s
   ·exact f i g n
  ·intro k a c d e f;unfold FT;split
   ·rename_i b C;obtain⟨o,B,q⟩:=Ry C;by_cases m:b=i
    ·subst m;exact f
    ·have D:=Eg.mono (λa c d e=>(v ((x::h).erase i) (w g) y b (z o m) (RH q)).1 a c d e) f;have s:=(E.swap (Ne.symm m) (u i g) B (Xm n o) (Xm q g) (FT.fi _ _)).2 D;rw[List.erase_comm] at s;exact Eg.mono (λa c d e=>(v ((x::h).erase b) (w o) y i (z g (Ne.symm m)) (RH n)).2 k a c d e) s
   ·rename_i J;have:=AJ1 J g k;rw[n] at this;cases this
theorem AJK {a i:Nat}{listed:Array Bool}(b:i<a)(c:listed.size=a)(d:listed.getD i false=false):left a (listed.setIfInBounds i true)=(left a listed).erase i:=by obtain⟨j,k,e,f,g⟩:=rX b c d;rw[f,e,List.erase_append_right _ (λh=>by have:=(g i h).1;omega)];simp
theorem FT.any {m:Nat}{K:Exit->Act->World->Prop}(Y: ∀a f e,Q a f->K .normal a (A.at f e))(n:lF ops qb ord):
  ∀(fuel:Nat) (listed:Array Bool) (a:Act) (f:aa) (aA:List (Nat×(aa->Prop))) (aD:List (Nat×aa)),(left ops.size listed).length=fuel->listed.size=ops.size->
   eG ord listed->FT P A ops qb ord Q fuel (left ops.size listed) a f aA aD-> ∀e,wpAnyIn (Fw r) m P .any ops K fuel listed a (A.at f e):=by
 intro fuel
 induction fuel with
 |zero=>
  intro listed a f aA aD s B _ u e;have o:left ops.size listed= []:=CD s;refine⟨?_,?_⟩
  ·rcases C:Region.ready .any ops listed with _|⟨i,t⟩
   ·rfl
   ·exfalso;have g:i∈Region.ready .any ops listed:=by rw[C];exact AM
    obtain⟨w,al,h,_⟩:=mem_ready.1 g;have j:i<ops.size:=(Array.getElem?_eq_some_iff.1 h).1;have:i∈left ops.size listed:=mem_left.2 ⟨j,by rw[<- Uv (by omega)];exact w⟩;rw[o] at this;cases this
  ·rw[o] at u;unfold FT at u;exact Y _ _ _ u
 |succ fuel D=>
  intro listed a f aA aD s B L u e;refine⟨λC=>?_,λi g=>?_⟩
  ·exfalso;have Z: ∀k i,i<k->i∈left ops.size listed->False:=by
    intro k
    induction k with
    |zero=>intro i g;omega
    |succ k ab=>
     intro i _ g;obtain⟨j,w⟩:=mem_left.1 g;have h:ops[i]? =some ops[i]:=CH j;by_cases x: ∀d∈ops[i].after,Region.binds .any d=true->listed.getD d.on false=true
     ·have:i∈Region.ready .any ops listed:=mem_ready.2 ⟨by rw[Uv (by omega)];exact w,_,h,x⟩;rw[C] at this;cases this
     ·simp only[Classical.not_forall] at x;obtain⟨d,o,l,E⟩:=x;have am:=n.back i _ h d o l;exact ab d.on (by omega) (mem_left.2 ⟨by omega,by simpa using E⟩)
   have E:left ops.size listed≠ []:=by intro d;rw[d] at s;simp at s
   obtain⟨i,g⟩:=TX _ E;exact Z (i+1) i (by omega) g
  ·obtain⟨w,z,p,x⟩:=mem_ready.1 g;have j:i<ops.size:=(Array.getElem?_eq_some_iff.1 p).1;have M:listed.getD i false=false:=by rw[<- Uv (by omega)];exact w
   have N: ∀b,b<i->listed.getD b false=false->ord i b=false:=by
    intro b y q;have ac:ops[b]? =some ops[b]:=CH (by omega);rcases n.pair i b z _ p ac y with⟨_,d,o,l,F⟩|⟨F,_⟩
    ·exfalso;have O:=x d o l;rcases F with rfl|⟨ad,ae⟩
     ·rw[O] at q;cases q
     ·have:=L d.on b O ad ae;rw[this] at q;cases q
    ·exact F
   have R:i∈left ops.size listed:=mem_left.2 ⟨j,M⟩;have af:Qw ord (left ops.size listed) i=true:=by
    unfold Qw;simp only[CC,CA];intro b y;obtain⟨ag,ah⟩:=mem_left.1 y;cases l:ord i b with
    |false=>rfl
    |true=>rw[N b (n.low i b j ag l) ah] at l;cases l
   have c:=(FT.both (Q:=Q) (P:=P) (A:=A) n fuel _ s (λb y=>(mem_left.1 y).1) i R af).1 a f aA aD u;have G:eG ord (listed.setIfInBounds i true):=by
    intro k b S T h;by_cases U:b=i
    ·subst U;have:b<listed.size:=by omega
     simp[this]
    ·rw[getD_set_ne false (Ne.symm U)];by_cases V:k=i
     ·subst V;cases q:listed.getD b false with
      |true=>rfl
      |false=>rw[N b T q] at h;cases h
     ·rw[getD_set_ne false (Ne.symm V)] at S;exact L k b S T h
   have W:=AJK j B M;have H:(left ops.size (listed.setIfInBounds i true)).length=fuel:=by rw[W,A0l R];omega
   have I:(listed.setIfInBounds i true).size=ops.size:=by simp[B]
   rw[<- W] at c;unfold Eg at c;rw[p] at c;unfold wpOpIn;simp only[p];split
   ·rename_i J;simp only[J,if_true] at c;by_cases X:qb z=true
    ·rw[if_pos X] at c;obtain⟨v,ai,_,c⟩:=c;refine EV.wpIn (n.nd i z p) ?_;unfold EV;rw[ai e];exact D _ _ _ _ _ H I G c e
    ·rw[if_neg X] at c;refine EV.wpIn (n.nd i z p) ((c e).mono ?_);rintro v an ⟨ao,aj,rfl,_,ak⟩;exact D _ _ _ _ _ H I G ak aj
   ·rename_i J;simp only at c;rw[if_neg J] at c;exact⟨λ_ _=>trivial,D _ _ _ _ _ H I G c e⟩
theorem Zp {id m:Nat}{d:Exit->Act->World->Prop}(f: ∀a b c,Q a b->d .normal a (A.at b c))(g:P.follows .mixedOrders=true)
  (h:nB ops qb ord=true) {a:Act} {b:aa} {c:Nat} (i:FT P A ops qb ord Q ops.size (List.range ops.size) a b [] []):(Code.region id ops true).wpIn (Fw r) m P d a (A.at b c):=by
 refine wpIn_region_any g ?_;have e:=rY ops.size;refine FT.any (Q:=Q) (ord:=ord) (qb:=qb) (aA:= []) (aD:= []) f (AHV h) _ _ _ b (by rw[e];simp) (by simp) ?_ (by rw[e];exact i) (c+1);intro j l k;exfalso;by_cases b:j<ops.size<;>simp[b] at k
end
inductive Cls where
 |pure|load|fg
def cls(P:Q1)(b:Oper):Cls:=
 match b.op with
 | .load _ _=> .load
 | .binOp d t x e _=>match UW P d t x e with| .no=> .fg|_=> .pure
 | .convert s a _=>match P.underlying s with
  |some (.int _)=>(match P.underlying a with|some (.int _)=> .pure|_=> .fg)
  |some .string=>(match P.underlying a with|some .string=> .pure|_=> .fg)
  |_=> .fg
 | .call c=>match c.callee with
  | .builtin .min=>(match c.argTypes[0]? with
   |some t=>(match P.underlying t with|some (.float _)=> .fg|_=> .pure)
   |none=> .pure)
  | .builtin .max=>(match c.argTypes[0]? with
   |some t=>(match P.underlying t with|some (.float _)=> .fg|_=> .pure)
   |none=> .pure)
  | .builtin .cap=> .pure
  | .builtin .len=>(match c.argTypes[0]? with
   |some t=>(match P.underlying t with|some (.map _ _)=> .fg|_=> .pure)
   |none=> .fg)
  |_=> .fg
 | .move _| .assign _| .pick .. | .build .. | .nilCheck _| .unOp .. | .makeInterface .. | .makeFunc .. | .fieldAddr .. | .field .. | .indexAddr .. | .index .. | .slice .. | .extract .. => .pure
 |_=> .fg
def Zz(A:ak)(P:Q1)(m:Sem Unit)(b:aa)(K:aa->Prop):Prop:= ∀c,∃a d,m.run P (A.at b c)= .ok () (A.at a d)/\K a
def KH(a:Env)(l:Array Operand):Array J0:=(l.toList.map (ρof a)).toArray
def ARN(P:Q1)(f:Q8):Bool:=match P.funcs[f]? with|some fn=>(match fn.body with|none=>true|some _=>false)|none=>false
def mT(A:ak)(P:Q1)(f:Q8)(args:Array J0)(b:aa)(K:A2O):Prop:= ∀c,∃v a d,(callFunc f args).run P (A.at b c)= .ok (.value v) (A.at a d)/\K v a
def pH(A:ak)(P:Q1)(d:Oper)(c:Call)(e:Env)(g:aa)(K:A2O):Prop:=
 match c.callee with
 | .value (.func f)=>known e c.args.toList (match ARN P f with
  |true=>mT A P f (KH e c.args) g λv a=>Pq P d.type v λv=>K v a
  |false=>Vj P (callFunc f (KH e c.args)) λx=>match x with
   | .enter h i=>AA A P h i g λv a=>Pq P d.type v λv=>K v a
   |_=>False)
 | .value x=>rd e x λfv=>known e c.args.toList (EL A P fv (KH e c.args) g λv a=>Pq P d.type v λv=>K v a)
 | .builtin b=>known e c.args.toList (match b with
  | .append=>BB A P (Builtin.append_ c.argTypes d.type (KH e c.args)) g λv a=>Pq P d.type v λv=>K v a
  | .copy=>BB A P (Builtin.copy_ c.argTypes d.type (KH e c.args)) g λv a=>Pq P d.type v λv=>K v a
  | .delete=>BB A P (Builtin.delete_ c.argTypes d.type (KH e c.args)) g λv a=>Pq P d.type v λv=>K v a
  | .clear=>BB A P (Builtin.clear_ c.argTypes d.type (KH e c.args)) g λv a=>Pq P d.type v λv=>K v a
  | .len=>BB A P (Builtin.len_ c.argTypes d.type (KH e c.args)) g λv a=>Pq P d.type v λv=>K v a
  | .real=>BB A P (Builtin.real_ c.argTypes d.type (KH e c.args)) g λv a=>Pq P d.type v λv=>K v a
  | .imag=>BB A P (Builtin.imag_ c.argTypes d.type (KH e c.args)) g λv a=>Pq P d.type v λv=>K v a
  | .complex=>BB A P (Builtin.complex_ c.argTypes d.type (KH e c.args)) g λv a=>Pq P d.type v λv=>K v a
  | .min=>BB A P (Builtin.min_ c.argTypes d.type (KH e c.args)) g λv a=>Pq P d.type v λv=>K v a
  | .max=>BB A P (Builtin.max_ c.argTypes d.type (KH e c.args)) g λv a=>Pq P d.type v λv=>K v a
  |_=>False)
 |_=>False
def Ut(a:Q6):aa->Nat->List J0->(aa->Prop)->Prop
 |h,_,[],K=>K h
 |h,i,v::b,K=>Yl (Kh v) (ab h (a.add i) v λc=>Ut a c (i+1) b K)
def pI(P:Q1)(t:Q7)(c v:J0)(d:aa)(K:aa->Prop):Prop:=
 match c with
 | .pointer p=>At p λa=>match P.info? t with
  |some i=>kW P t v λb=>match Nat.beq b.size i.size with
   |true=>Ut a d 0 b.toList K
   |false=>False
  |none=>False
 |_=>False
def ATz(P:Q1)(t:Q7)(v:J0)(a:aa)(K:A2O):Prop:=
 kW P t v λc=>al a (.cells c t) λb d=>K (.pointer (some ⟨b,0,none⟩)) d
def rowOf(P:Q1)(b:Q7)(len:Nat)(c:List (Nat×Array J0)):Option (Array J0):=
 match P.info? b with
 |some a=>match a.zero with
  |some z=>match Nat.ble (len*a.size) (2^24) with
   |true=>jM (λi=>some (i*a.size,a.size)) ((Array.range (len*a.size)).map (z.cells[· % z.cells.size]!)) c
   |false=>none
  |none=>none
 |none=>none
def tj(P:Q1)(t:Q7)(len:Nat)(c:Array (Nat×Operand))(d:Env)(e:aa)(K:A2O):Prop:=
 match P.underlying t with
 |some (.slice a)=>kX P t d c.toList λl=>match rowOf P a len l with
  |some cells=>al e (.cells cells a) λb f=>K (.slice (some ⟨b,0,none⟩) len len) f
  |none=>False
 |_=>False
def Rf(ops:List Oper)(b:Option Tmp)(a:Nat):Option Q7:=
 match b with
 |none=>none
 |some t=>match ops with
  | []=>none
  |o::r=>match o.op with
   | .extract (.tmp t') c=>(match Nat.beq t' t with|true=>(match Nat.beq c a with|true=>some o.type|false=>Rf r (some t) a)|false=>Rf r (some t) a)
   |_=>Rf r (some t) a
def jr(P:Q1)(t:Option Q7)(v:J0)(K:J0->Prop):Prop:=
 match t with
 |none=>K v
 |some t=>Pq P t v K
theorem MC {P:Q1}{t:Option Q7}{v:J0}{K:J0->Prop}(a:jr P t v K):K v:=by
 cases t with
 |none=>exact a
 |some t=>exact Oy a
def js(A:ak)(P:Q1)(ops:Array Oper)(f:Oper)(d:Env)(g:aa)(K:A2O):Prop:=
 match f.op with
 | .call c=>pH A P f c d g K
 | .makeSlice t l c=>rd d l λl=>rd d c λc=>BB A P (Instr.makeSlice t l c) g λv a=>Pq P f.type v λv=>K v a
 | .lookup t x i ok=>rd d x λx=>rd d i λi=>BB A P (Instr.lookup t x i ok) g λv a=>Pq P f.type v λv=>K v a
 | .mapUpdate t m e x=>rd d m λm=>rd d e λe=>rd d x λx=>Zz A P (Instr.mapUpdate t m e x) g λa=>K undef a
 | .mapEntry t m e=>rd d m λm=>rd d e λe=>BB A P (Instr.mapEntry t m e) g λv a=> ∃e u:J0,v= .tuple #[e,u]/\jr P (Rf ops.toList f.dst 0) e λe=>jr P (Rf ops.toList f.dst 1) u λu=>K (.tuple #[e,u]) a
 | .entryStore t m s x=>rd d m λm=>rd d s λs=>rd d x λx=>Zz A P (Instr.entryStore t m s x) g λa=>K undef a
 | .convert s k x=>rd d x λx=>BB A P (convert s k x) g λv a=>Pq P f.type v λv=>K v a
 | .binOp j t x h _=>rd d x λv=>rd d h λu=>BB A P (do eqGuard j t x h v u;binOp j t v u) g λv a=>Pq P f.type v λv=>K v a
 | .typeAssert x t u ok=>rd d x λx=>BB A P (Instr.typeAssert x t u ok) g λv a=>Pq P f.type v λv=>K v a
 | .store t x h=>rd d x λn=>rd d h λv=>pI P t n v g λa=>K undef a
 | .box t x=>rd d x λv=>ATz P t v g K
 | .buildSlice t len o=>tj P t len o d g K
 | .range t x=>rd d x λx=>BB A P (Instr.range t x) g λv a=> ∃b:Nat,v= .pointer (some ⟨b,0,none⟩)/\K (.pointer (some ⟨b,0,none⟩)) a
 | .next x s=>rd d x λx=>BB A P (Instr.next x s f.type) g λv a=>(v= .tuple #[.bool false]/\K (.tuple #[.bool false]) a)\/(∃ e u:J0,v= .tuple #[.bool true,e,u]/\jr P (Rf ops.toList f.dst 1) e λe=>jr P (Rf ops.toList f.dst 2) u λu=>K (.tuple #[.bool true,e,u]) a)
 | .entry x=>rd d x λx=>BB A P (Instr.entry x) g λv a=> ∃e u:J0,v= .tuple #[e,u]/\jr P (Rf ops.toList f.dst 0) e λe=>jr P (Rf ops.toList f.dst 1) u λu=>K (.tuple #[e,u]) a
 | .alloc .. | .makeMap .. =>known d f.op.operands.toList (Sem.vc P (execOp (ρof d) f) g λx a=>match x with
  | .value v=>K v a
  | .skip=>K undef a
  |_=>False)
 |_=>False
theorem Yx {N:Nat}{a:Act}{b:Env}(d:Fits N a b){l:Array Operand}(c: ∀x∈l.toList,ρof b x=a.eval x):KH b l=l.map a.eval:=by unfold KH;rw[CT c];apply Array.toList_inj.1;rw[Array.toList_map]
section
variable {P : Q1} {A : ak}
theorem HV {b:Oper}{e:Operand->J0}{s:Sem J0}{f:aa}{K:A2O}(g:execOp e b=do pure (.value (<- s)))
  (h:BB A P s f λv a=>Pq P b.type v λv=>K v a): ∀c,EV P b e (A.at f c) λv i=> ∃a d,i=A.at a d/\K v a:=by
 intro c;obtain⟨v,a,d,j,hd⟩:=h c;unfold EV;rw[g,jq j];exact⟨a,d,rfl,Oy hd⟩
theorem XO {d:Oper}{e:Operand->J0}{s:Sem J0}{f:aa}{K g:A2O}(h:execOp e d=do pure (.value (<- s)))
  (i:BB A P s f g) (j: ∀v a,g v a->K v a): ∀b,EV P d e (A.at f b) λv k=> ∃a c,k=A.at a c/\K v a:=by
 intro b;obtain⟨v,a,c,l,hd⟩:=i b;unfold EV;rw[h,jq l];exact⟨a,c,rfl,j _ _ hd⟩
theorem pJ {d:Oper}{e:Operand->J0}{s:Sem Unit}{f:aa}{K:A2O}(g:execOp e d=do s;pure .skip)
  (h:Zz A P s f λa=>K undef a): ∀b,EV P d e (A.at f b) λv i=> ∃a c,i=A.at a c/\K v a:=by
 intro b;obtain⟨a,c,j,hd⟩:=h b;unfold EV;rw[g,ATf j];exact⟨a,c,rfl,hd⟩
theorem AI9 {N:Nat}{a:Act}{u:Env}(l:Fits N a u){n:Oper}{c:Call}(h:n.op= .call c){k:aa}{K:A2O}(d:pH A P n c u k K):
  ∀g,EV P n a.eval (A.at k g) λv o=> ∃i j,o=A.at i j/\K v i:=by
 have y: ∀ {fv:J0} {s:A2O} {x:Operand},c.callee= .value x->a.eval x=fv->EL A P fv (c.args.map a.eval) k s->
   ∀g,EV P n a.eval (A.at k g) λv o=> ∃i j,o=A.at i j/\s v i:=by
  intro fv s x e t z g;have:=z g;unfold EV;have p:execOp a.eval n=(do let w <-Deferred.ofValue fv (c.args.map a.eval);invoke w.target w.args:Sem Next):=by simp only[execOp,h,resolve,e,t]
  rw[p];exact this
 unfold pH at d;split at d
 ·rename_i f e;obtain⟨q,d⟩:=KP l d;rw[Yx l q] at d;split at d
  ·intro g;obtain⟨v,i,j,B,hd⟩:=d g;have p:(execOp a.eval n).run P (A.at k g)= .ok (.value v) (A.at i j):=by simp only[execOp,h,resolve,e,Act.eval,Deferred.ofValue];simp only[Sem.run_bind,Sem.run_pure,Result.andThen_ok,invoke];simpa using B
   unfold EV;rw[p];exact⟨i,j,rfl,Oy hd⟩
  ·obtain⟨x,t,d⟩:=MW d;split at d
   ·rename_i C D;intro g;have p:(execOp a.eval n).run P (A.at k g)= .ok (.enter C D) (A.at k g):=by simp only[execOp,h,resolve,e,Act.eval,Deferred.ofValue];simp only[Sem.run_bind,Sem.run_pure,Result.andThen_ok,invoke];have:=t (A.at k g);simpa using this
    unfold EV;rw[p];refine Calls.mono (d g) ?_;rintro E o ⟨v,rfl,i,j,rfl,hd⟩;exact⟨v,rfl,i,j,rfl,Oy hd⟩
   ·exact d.elim
 ·rename_i x e;have d:=BQ l d;obtain⟨q,d⟩:=KP l d;rw[Yx l q] at d;intro g;refine EV.mono (y e rfl d g) ?_;rintro v o ⟨i,j,rfl,hd⟩;exact⟨i,j,rfl,Oy hd⟩
 ·rename_i b e;obtain⟨q,d⟩:=KP l d;rw[Yx l q] at d;split at d
  ·exact HV (by simp only[execOp,h,resolve,e];rfl) d
  ·exact HV (by simp only[execOp,h,resolve,e];rfl) d
  ·exact HV (by simp only[execOp,h,resolve,e];rfl) d
  ·exact HV (by simp only[execOp,h,resolve,e];rfl) d
  ·exact HV (by simp only[execOp,h,resolve,e];rfl) d
  ·exact HV (by simp only[execOp,h,resolve,e];rfl) d
  ·exact HV (by simp only[execOp,h,resolve,e];rfl) d
  ·exact HV (by simp only[execOp,h,resolve,e];rfl) d
  ·exact HV (by simp only[execOp,h,resolve,e];rfl) d
  ·exact HV (by simp only[execOp,h,resolve,e];rfl) d
  ·exact d.elim
 ·exact d.elim
theorem Xu {A:ak}{a:Q6}: ∀ {l:List J0} {b:aa} {i:Nat} {K:aa->Prop},Ut a b i l K-> ∀n,∃d,(storeCells a l i).run P (A.at b n)= .ok () (A.at d n)/\K d
 | [],b,i,K,c,n=>⟨b,rfl,c⟩
 |v::s,b,i,K,c,n=>by
  unfold Ut at c;cases e:Kh v with
  |false=>rw[e] at c;exact c.elim
  |true=>
   rw[e] at c;obtain⟨⟨u,g⟩,h,j⟩:=c;obtain⟨d,k,o⟩:=Xu j n;refine⟨d,?_,o⟩;have p:=sk (A:=A) (P:=P) (m:= .plain) (f:=(.pure ():Sem Unit)) (n:=n) e g h;simp only[storeCells,Sem.run_bind];have q:(store (a.add i) v).run P (A.at b n)= .ok () (A.at (cZ b (a.add i) v) n):=p;rw[q];exact k
theorem AHm {A:ak}{t:Q7}{f v:J0}{g:aa}{K:aa->Prop}(b:pI P t f v g K):Zz A P (Instr.storeAt t f v) g K:=by
 intro h;unfold pI at b;split at b
 ·rename_i p;obtain⟨a,rfl,c⟩:=At.mk b;split at c
  ·rename_i n i;have d:=Q4 c;split at d
   ·rename_i e;have e:=IH e;obtain⟨j,k,l⟩:=Xu (P:=P) (A:=A) d h;refine⟨j,h,?_,l⟩;simp[Instr.storeAt,Instr.sureAddr,storeVar,run_sizeOf i,e,k]
   ·exact d.elim
  ·exact c.elim
 ·exact b.elim
theorem ARZ {A:ak}{t:Q7}{v:J0}{a:aa}{b:Nat}:(Instr.box t v).run P (A.at a b)= .ok (.pointer (some ⟨a.size,0,none⟩)) (A.at (a.push (.cells v.cells t)) b):=rfl
theorem AQU {A:ak}{t c:Q7}(j:P.underlying t=some (.slice c)){len:Nat}{d:Array (Nat×J0)}{cells:Array J0}{h:aa}{n:Nat}
  (a:rowOf P c len (d.toList.map λp=>(p.1,p.2.cells))=some cells):
  (Instr.buildSlice t len d).run P (A.at h n)= .ok (.slice (some ⟨h.size,0,none⟩) len len) (A.at (h.push (.cells cells c)) n):=by
 unfold rowOf at a;split at a
 ·rename_i b f;split at a
  ·rename_i z k;split at a
   ·rename_i g;have g:=Ys g;rw[<- mJ] at a;have l: ¬(len*b.size>2^24):=by omega
    unfold Instr.buildSlice;simp only[Sem.run_bind,A9 j,Result.andThen_ok,run_sizeOf f,if_neg l];by_cases e:len*b.size=0
    ·have o:Instr.fill (λi=>some (i*b.size,b.size)) ((Array.range (len*b.size)).map ((#[]:Array J0)[· % (#[]:Array J0).size]!)) d.toList=some cells:=by rw[<- a];congr 1;simp[e]
     rw[if_pos e];simp only[Sem.run_bind,Sem.run_pure,Result.andThen_ok,o];rfl
    ·rw[if_neg e];have q:(zeroValue c).run P (A.at h n)= .ok z (A.at h n):=by simp[zeroValue,sr f,k]
     simp only[Sem.run_bind,q,Sem.run_pure,Result.andThen_ok,a];rfl
   ·cases a
  ·cases a
 ·cases a
theorem Zk {N:Nat}{a:Act}{q:Env}(f:Fits N a q){ops:Array Oper}{j:Oper}{h:aa}{K:A2O}(e:js A P ops j q h K):
  ∀n,EV P j a.eval (A.at h n) λv y=> ∃g o,y=A.at g o/\K v g:=by
 have z:Ez j->known q j.op.operands.toList (Sem.vc P (execOp (ρof q) j) h λx g=>match x with
   | .value v=>K v g
   | .skip=>K undef g
   |_=>False)-> ∀n,EV P j a.eval (A.at h n) λv y=> ∃g o,y=A.at g o/\K v g:=by
  intro C e n;obtain⟨D,e⟩:=KP f e;obtain⟨x,g,o,B,e⟩:=AOT (A:=A) e n;rw[execOp_congr j C (λx E=>D x (by simpa using E))] at B;unfold EV;rw[B];split at e
  ·exact⟨g,o,rfl,e⟩
  ·exact⟨g,o,rfl,e⟩
  ·exact e.elim
 unfold js at e;split at e
 ·rename_i c d;exact AI9 f d e
 ·rename_i t l c d;exact HV (by simp only[execOp,d]) (BQ f (BQ f e))
 ·rename_i t x i ok d;exact HV (by simp only[execOp,d]) (BQ f (BQ f e))
 ·rename_i t m w x d;exact pJ (by simp only[execOp,d]) (BQ f (BQ f (BQ f e)))
 ·rename_i t m w d;refine XO (by simp only[execOp,d]) (BQ f (BQ f e)) ?_;rintro v g ⟨w,u,rfl,h⟩;exact MC (MC h)
 ·rename_i t m s x d;exact pJ (by simp only[execOp,d]) (BQ f (BQ f (BQ f e)))
 ·rename_i s I x d;exact HV (by simp only[execOp,d]) (BQ f e)
 ·rename_i J t x F _ d;exact HV (by simp only[execOp,d]) (BQ f (BQ f e))
 ·rename_i x t u ok d;exact HV (by simp only[execOp,d]) (BQ f e)
 ·rename_i t x F d;exact pJ (by simp only[execOp,d]) (AHm (BQ f (BQ f e)))
 ·rename_i t x d;intro n;have p:=Q4 (BQ f e);unfold EV;simp only[execOp,d];rw[jq ARZ];exact⟨_,_,rfl,p⟩
 ·rename_i t len L d;intro n;unfold tj at e;split at e
  ·rename_i M G;have p:=Rq f e;split at p
   ·rename_i cells k;unfold EV;simp only[execOp,d];rw[jq (AQU (A:=A) (n:=n) (h:=h) G (cells:=cells) (by rw[<- k];congr 1;simp))];exact⟨_,_,rfl,p⟩
   ·exact p.elim
  ·exact e.elim
 ·rename_i t x d;refine XO (by simp only[execOp,d]) (BQ f e) ?_;rintro v g ⟨b,rfl,h⟩;exact h
 ·rename_i x s d;refine XO (by simp only[execOp,d]) (BQ f e) ?_;rintro v g (⟨rfl,h⟩|⟨w,u,rfl,h⟩)
  ·exact h
  ·exact MC (MC h)
 ·rename_i x d;refine XO (by simp only[execOp,d]) (BQ f e) ?_;rintro v g ⟨w,u,rfl,h⟩;exact MC (MC h)
 ·rename_i d;exact z (λH b k=>by rw[d] at k;cases k) e
 ·rename_i d;exact z (λH b k=>by rw[d] at k;cases k) e
 ·exact e.elim
end
def jQ:List Prop->Prop->Prop
 | [],K=>K
 |p::l,K=>p/\jQ l K
theorem L9: ∀ {l:List Prop} {K:Prop},jQ l K->(∀ p∈l,p)/\K
 | [],_,a=>⟨λ_ b=>(by cases b),a⟩
 |p::l,_,⟨b,a⟩=>by
  obtain⟨d,e⟩:=L9 a;refine⟨λf c=>?_,e⟩;rcases List.mem_cons.1 c with rfl|c
  ·exact b
  ·exact d f c
def tm(ord:Nat->Nat->Bool)(a:Bool)(i:Nat)(st:aa->Prop)(b:List (Nat×aa)):List Prop:=
 match a with|true=>(b.filter λp=>un ord i p.1).map λp=>st p.2|false=> []
def tn(ord:Nat->Nat->Bool)(a:Bool)(i:Nat)(b:aa)(c:List (Nat×(aa->Prop))):List Prop:=
 match a with|true=>(c.filter λp=>un ord i p.1).map λp=>p.2 b|false=> []
def mU(ops:Array Oper)(e:Oper)(a:Env)(c d:Env->Prop):Prop:=
 match e.guard with
 |none=>c a
 |some (f,h)=>match ops[f]? with
  |some i=>match i.dst with
   |some b=>match a.get b with
    |some (.bool g)=>match h with
     |true=>ae g (c (a.set b (.bool true))) (d (a.set b (.bool false)))
     |false=>ae g (d (a.set b (.bool true))) (c (a.set b (.bool false)))
    |some _=>d a
    |none=>False
   |none=>False
  |none=>False
def Ol(A:ak)(P:Q1)(N:Nat)(ops:Array Oper)(ord:Nat->Nat->Bool)(b:Bool):
  List Oper->Nat->Env->aa->List (Nat×(aa->Prop))->List (Nat×aa)->(Env->aa->Prop)->Prop
 | [],_,a,c,_,_,d=>d a c
 |o::rest,i,a,c,e,f,d=>
  match mG N o.dst with
  |false=>False
  |true=>mU ops o a
   (λa=>match cls P o with
    | .pure=>mK P o a λv=>Ol A P N ops ord b rest (i+1) (a.put o.dst v) c e f d
    | .load=>mS P o a c λv st=>jQ (tm ord b i st f) (Ol A P N ops ord b rest (i+1) (a.put o.dst v) c (match b with|true=>(i,st)::e|false=>e) f d)
    | .fg=>js A P ops o a c λv g=>jQ (tn ord b i g e) (Ol A P N ops ord b rest (i+1) (a.put o.dst v) g e (match b with|true=>(i,c)::f|false=>f) d))
   (λa=>Ol A P N ops ord b rest (i+1) (a.put o.dst undef) c e f d)
theorem Tx {ops:Array Oper}{k:Oper}{N:Nat}{a:Act}{e:Env}(f:Fits N a e){q s:Env->Prop}(b:mU ops k e q s):
  (Region.wanted k (yielded ops a.tmps)=true/\ ∃h,Fits N a h/\q h)\/(Region.wanted k (yielded ops a.tmps)=false/\ ∃h,Fits N a h/\s h):=by
 unfold mU at b;split at b
 ·rename_i c;exact .inl ⟨by simp[Region.wanted,c],e,f,b⟩
 ·rename_i t x c;split at b
  ·rename_i y u;split at b
   ·rename_i l hd;split at b
    ·rename_i g n;have i:=f.get l _ n;have d:yielded ops a.tmps t=some g:=by simp[yielded,u,hd,i]
     have j:Fits N a (e.set l (.bool g)):=f.oD i;split at b
     ·obtain⟨o,p⟩:=ae.mk b;cases g with
      |true=>exact .inl ⟨by simp[Region.wanted,c,d],_,j,o rfl⟩
      |false=>exact .inr ⟨by simp[Region.wanted,c,d],_,j,p rfl⟩
     ·obtain⟨o,p⟩:=ae.mk b;cases g with
      |true=>exact .inr ⟨by simp[Region.wanted,c,d],_,j,o rfl⟩
      |false=>exact .inl ⟨by simp[Region.wanted,c,d],_,j,p rfl⟩
    ·rename_i v w n;have i:=f.get l _ n;refine .inr ⟨?_,e,f,b⟩;have d:yielded ops a.tmps t=none:=by simp only[yielded,u,hd,i,Hi];cases v<;>first|rfl|exact absurd rfl (w _)
     simp[Region.wanted,c,d]
    ·exact b.elim
   ·exact b.elim
  ·exact b.elim
structure L6 (W:List Nat) (a a':Act):Prop where
 get: ∀t,t∉W->a'.tmps[t]? =a.tmps[t]?
 ds:a'.defers=a.defers
theorem L6.refl(W:List Nat)(a:Act):L6 W a a:=⟨λ_ _=>rfl,rfl⟩
theorem L6.put {W:List Nat}{a d:Act}(c:L6 W a d){b:Option Tmp}{v:J0}(hd: ∀t,b=some t->t∈W):L6 W a (d.put b v):=by
 cases b with
 |none=>exact c
 |some b=>
  refine⟨λt e=>?_,c.ds⟩;have:b≠t:=λf=>e (f▸hd b rfl)
  simp only[Act.put];rw[DS this];exact c.get t e
def dstsOf(l:List Oper):List Nat:=l.filterMap (·.dst)
theorem pK {l:List Oper}{a:Oper}(c:a∈l){b:Nat}(hd:a.dst=some b):b∈dstsOf l:=List.mem_filterMap.2 ⟨a,c,hd⟩
section
variable {P : Q1} {A : ak} {r : Option Nat} {m N : Nat} {ops : Array Oper} {ord : Nat -> Nat -> Bool}
theorem QB {a:Oper}(c:cls P a≠ .fg):Ez a:=λe b d=>c (by simp[cls,d])
theorem Xz {b:Oper}(c:cls P b≠ .fg):IE b=true:=by
 unfold IE;split
 ·rename_i a;exact absurd (by simp[cls,a]) c
 ·rename_i a;exact absurd (by simp[cls,a]) c
 ·rfl
theorem AGW {ops:Array Oper}{b:Oper}{d:Env}{e:aa}{K:A2O}(c:js A P ops b d e K):IE b=true:=by
 unfold IE;split
 ·rename_i a;simp[js,a] at c
 ·rename_i a;simp[js,a] at c
 ·rfl
theorem tq {p:Env->aa->Prop}{q:Exit->Act->World->Prop}: ∀(l:List Oper) (i:Nat) (j:Env) (e:aa) (a:Act) (f:Nat),Ol A P N ops ord false l i j e [] [] p->Fits N a j->
  (∀ s c g h,Fits N s c->L6 (dstsOf l) a s->p c g->q .normal s (A.at g h))->wpListIn (Fw r) m P ops q l a (A.at e f)
 | [],_,j,e,a,f,b,u,w=>w a j e f u (L6.refl _ _) b
 |o::rest,i,j,e,a,f,b,u,w=>by
  unfold Ol at b;split at b
  ·exact b.elim
  ·rename_i hd;have next: ∀(v:J0) (c:Env) (g:aa) (h:Nat),Fits N a c->Ol A P N ops ord false rest (i+1) (c.put o.dst v) g [] [] p->wpListIn (Fw r) m P ops q rest (a.put o.dst v) (A.at g h):=by
    intro v c g h d y;refine tq rest (i+1) _ g _ h y (d.put hd) ?_;intro D E F G H C I;refine w D E F G H ⟨λt k=>?_,C.ds.trans ?_⟩ I
    ·have J:t∉dstsOf rest:=λL=>k (by simp only[dstsOf,Zs];split<;>simp_all [dstsOf])
     rw[C.get t J];exact(L6.put (W:=dstsOf (o::rest)) (L6.refl _ a) (λt k=>pK AM k)).get t k
    ·cases o.dst<;>rfl
   unfold wpListIn;rcases Tx u b with⟨z,c,d,b⟩|⟨z,c,d,b⟩
   ·rw[if_pos z];split at b
    ·rename_i n;have y:Ez o:=QB (P:=P) (by rw[n];intro x;cases x);obtain⟨v,B,b⟩:=WK d y b;refine EV.wpIn (Xz (P:=P) (by rw[n];intro x;cases x)) ?_;unfold EV;rw[B];exact next v c e f d b
    ·rename_i n;obtain⟨v,st,B,K,b⟩:=ck (A:=A) d b;refine EV.wpIn (Xz (P:=P) (by rw[n];intro x;cases x)) ?_;unfold EV;rw[B e K f];exact next v c e f d (L9 b).2
    ·refine EV.wpIn (AGW b) ((Zk d b f).mono ?_);rintro v M ⟨g,h,rfl,b⟩;exact next v c g h d (L9 b).2
   ·rw[if_neg (by rw[z];simp)];exact⟨λ_ _=>trivial,next undef c e f d b⟩
def Qs(P:Q1)(a:Oper):Bool:=match cls P a with| .fg=>false|_=>true
theorem QY {R:Env->aa->Prop}{a0:Act}{Q:Act->aa->Prop}(u: ∀H C j,Fits N H C->L6 (dstsOf ops.toList) a0 H->R C j->Q H j):
  ∀(l:List Oper) (i:Nat) (w:Env) (c:aa) (a:Act) (f:List (Nat×(aa->Prop))) (k:List (Nat×aa)) (D:List (Nat×(aa->Prop))),
   (∀ g,l[g]? =ops[i+g]?)->Ol A P N ops ord true l i w c f k R->Fits N a w->L6 (dstsOf ops.toList) a0 a->
   (∀ d∈D,(∀ c,d.2 c)\/ ∃p∈f,p.1=d.1/\ ∀c,p.2 c->d.2 c)->FA P A ops (Qs P) ord Q (List.range' i l.length) a c D k
 | [],_,w,c,a,f,k,D,_,b,I,J,_=>u a w c I J b
 |o::rest,i,w,c,a,f,k,D,S,b,I,J,y=>by
  have T:ops[i]? =some o:=by simpa using(S 0).symm
  have E: ∀g,rest[g]? =ops[i+1+g]? :=λg=>by have:=S (g+1);simpa [GB,Nat.add_comm 1 g] using this
  have U:o∈ops.toList:=by rw[LL];exact Iv T
  unfold Ol at b;split at b
  ·exact b.elim
  ·rename_i hd;have F: ∀v,L6 (dstsOf ops.toList) a0 (a.put o.dst v):=λv=>J.put (λt V=>pK U V)
   rw[A6,List.range'_succ];unfold FA;rw[T];simp only;rcases Tx I b with⟨K,C,h,b⟩|⟨K,C,h,b⟩
   ·rw[if_pos K];split at b
    ·rename_i s;have z:Qs P o=true:=by simp[Qs,s]
     rw[if_pos z];have W:Ez o:=QB (P:=P) (by rw[s];intro x;cases x);obtain⟨v,n,b⟩:=WK h W b;refine⟨v,λG=>n _,λ_ _ _ G=>n _,?_⟩;refine QY u rest (i+1) _ c _ f k _ E b (h.put hd) (F v) ?_;intro d e;rcases List.mem_cons.1 e with rfl|e
     ·exact .inl λc G=>n _
     ·exact y d e
    ·rename_i s;have z:Qs P o=true:=by simp[Qs,s]
     rw[if_pos z];obtain⟨v,st,n,X,b⟩:=ck (A:=A) h b;obtain⟨L,b⟩:=L9 b;refine⟨v,n c X,λp B M=>n p.2 (L _ (List.mem_map.2 ⟨p,List.mem_filter.2 ⟨B,M⟩,rfl⟩)),?_⟩;refine QY u rest (i+1) _ c _ ((i,st)::f) k _ E b (h.put hd) (F v) ?_;intro d e;rcases List.mem_cons.1 e with rfl|e
     ·exact .inr ⟨(i,st),AM,rfl,n⟩
     ·rcases y d e with q|⟨p,B,q,O⟩
      ·exact .inl q
      ·exact .inr ⟨p,An _ B,q,O⟩
    ·rename_i s;have z: ¬Qs P o=true:=by simp[Qs,s]
     rw[if_neg z];intro G;refine(Zk h b G).mono ?_;rintro v Z ⟨j,Y,rfl,b⟩;obtain⟨L,b⟩:=L9 b;refine⟨j,Y,rfl,?_,?_⟩
     ·intro d e M;rcases y d e with q|⟨p,B,q,O⟩
      ·exact q j
      ·exact O j (L _ (List.mem_map.2 ⟨p,List.mem_filter.2 ⟨B,by rw[q];exact M⟩,rfl⟩))
     ·exact QY u rest (i+1) _ j _ f _ _ E b (h.put hd) (F v) y
   ·rw[if_neg (by rw[K];simp)];exact QY u rest (i+1) _ c _ f k _ E b (h.put hd) (F undef) y
abbrev Ke:=Env->aa->List (Nat×(aa->Prop))->List (Nat×aa)->Prop
def mV(A:ak)(P:Q1)(N:Nat)(ops:Array Oper)(ord:Nat->Nat->Bool)(i:Nat)(K:Ke):Ke:=λa c d e=>
 match ops[i]? with
 |none=>False
 |some b=>match mG N b.dst with
  |false=>False
  |true=>mU ops b a
   (λa=>match cls P b with
    | .pure=>mK P b a λv=>K (a.put b.dst v) c d e
    | .load=>mS P b a c λv st=>jQ (tm ord true i st e) (K (a.put b.dst v) c ((i,st)::d) e)
    | .fg=>js A P ops b a c λv f=>jQ (tn ord true i f d) (K (a.put b.dst v) f d ((i,c)::e)))
   (λa=>K (a.put b.dst undef) c d e)
def pL(a:Nat->Prop):List Nat->Prop
 | []=>True
 | [i]=>a i
 |i::l=>a i/\pL a l
theorem tt {c:Nat->Prop}: ∀ {l:List Nat},pL c l-> ∀i∈l,c i
 | [],_,_,a=>by cases a
 | [j],a,i,b=>by
  have:i=j:=by simpa using b
  subst this;exact a
 |j::x::l,a,i,b=>by
  rcases List.mem_cons.1 b with rfl|b
  ·exact a.1
  ·exact tt a.2 i b
def jt(A:ak)(P:Q1)(N:Nat)(ops:Array Oper)(ord:Nat->Nat->Bool)(c:Env->aa->Prop):Nat->List Nat->Ke
 |_,[]=>λa b _ _=>c a b
 |0,_::_=>λ_ _ _ _=>False
 |f+1,x::l=>λa b d e=>
  match jX ops (Qs P) ord (x::l) with
  |some i=>mV A P N ops ord i (jt A P N ops ord c f ((x::l).erase i)) a b d e
  |none=>pL (λi=>mV A P N ops ord i (jt A P N ops ord c f ((x::l).erase i)) a b d e) ((x::l).filter (Qw ord (x::l)))
def pM(c d:List (Nat×(aa->Prop))):Prop:= ∀b∈d,(∀ a,b.2 a)\/ ∃p∈c,p.1=b.1/\ ∀a,p.2 a->b.2 a
theorem Ya {C:Act}{i:Nat}{K:Ke}{I:Kt}
  (y: ∀k e a l n o,K k e l n->Fits N a k->L6 (dstsOf ops.toList) C a->pM l o->I a e o n)
  {k:Env} {e:aa} {a:Act} {l:List (Nat×(aa->Prop))} {n:List (Nat×aa)} {o:List (Nat×(aa->Prop))}
  (b:mV A P N ops ord i K k e l n) (L:Fits N a k) (M:L6 (dstsOf ops.toList) C a) (q:pM l o):Eg P A ops (Qs P) ord i I a e o n:=by
 unfold mV at b;unfold Eg;split at b
 ·exact b.elim
 ·rename_i h J;have O:h∈ops.toList:=by rw[LL];exact Iv J
  try rw[J]
  try simp only
  split at b
  ·exact b.elim
  ·rename_i hd;have z: ∀v,L6 (dstsOf ops.toList) C (a.put h.dst v):=λv=>M.put (λt Q=>pK O Q)
   rcases Tx L b with⟨D,R,d,b⟩|⟨D,R,d,b⟩
   ·rw[if_pos D];split at b
    ·rename_i j;have s:Qs P h=true:=by simp[Qs,j]
     rw[if_pos s];have S:Ez h:=QB (P:=P) (by rw[j];intro x;cases x);obtain⟨v,f,b⟩:=WK d S b;refine⟨v,λB=>f _,λ_ _ _ B=>f _,?_⟩;refine y _ _ _ _ _ _ b (d.put hd) (z v) ?_;intro u c;rcases List.mem_cons.1 c with rfl|c
     ·exact .inl λe B=>f _
     ·exact q u c
    ·rename_i j;have s:Qs P h=true:=by simp[Qs,j]
     rw[if_pos s];obtain⟨v,st,f,T,b⟩:=ck (A:=A) d b;obtain⟨E,b⟩:=L9 b;refine⟨v,f e T,λp w F=>f p.2 (E _ (List.mem_map.2 ⟨p,List.mem_filter.2 ⟨w,F⟩,rfl⟩)),?_⟩;refine y _ _ _ _ _ _ b (d.put hd) (z v) ?_;intro u c;rcases List.mem_cons.1 c with rfl|c
     ·exact .inr ⟨(i,st),AM,rfl,f⟩
     ·rcases q u c with g|⟨p,w,g,G⟩
      ·exact .inl g
      ·exact .inr ⟨p,An _ w,g,G⟩
    ·rename_i j;have s: ¬Qs P h=true:=by simp[Qs,j]
     rw[if_neg s];intro B;refine(Zk d b B).mono ?_;rintro v V ⟨H,U,rfl,b⟩;obtain⟨E,b⟩:=L9 b;refine⟨H,U,rfl,?_,?_⟩
     ·intro u c F;rcases q u c with g|⟨p,w,g,G⟩
      ·exact g H
      ·exact G H (E _ (List.mem_map.2 ⟨p,List.mem_filter.2 ⟨w,by rw[g];exact F⟩,rfl⟩))
     ·exact y _ _ _ _ _ _ b (d.put hd) (z v) q
   ·rw[if_neg (by rw[D];simp)];exact y _ _ _ _ _ _ b (d.put hd) (z undef) q
theorem pN {s:Env->aa->Prop}{a0:Act}{Q:Act->aa->Prop}(o: ∀p t u,Fits N p t->L6 (dstsOf ops.toList) a0 p->s t u->Q p u):
  ∀(f:Nat) (l:List Nat) (c:Env) (d:aa) (a:Act) (e:List (Nat×(aa->Prop))) (g:List (Nat×aa)) (h:List (Nat×(aa->Prop))),
   jt A P N ops ord s f l c d e g->Fits N a c->L6 (dstsOf ops.toList) a0 a->pM e h->FT P A ops (Qs P) ord Q f l a d h g
 |_,[],c,d,a,e,g,h,b,j,k,_=>by
  unfold jt at b;unfold FT;exact o a c d j k b
 |0,_::_,c,d,a,e,g,h,b,_,_,_=>by
  unfold jt at b;exact b.elim
 |f+1,x::l,c,d,a,e,g,h,b,j,k,n=>by
  unfold jt at b;unfold FT;split
  ·rename_i i q;rw[q] at b;exact Ya (λc d a e g h b j k n=>pN o f _ c d a e g h b j k n) b j k n
  ·rename_i q;rw[q] at b;intro i v w;exact Ya (λc d a e g h b j k n=>pN o f _ c d a e g h b j k n) (tt b i (List.mem_filter.2 ⟨v,w⟩)) j k n
def ll(A:ak)(P:Q1)(N:Nat)(ops:Array Oper)(d:Bool)(a:Env)(b:aa)(c:Env->aa->Prop):Prop:=
 match d with
 |false=>Ol A P N ops (λ_ _=>false) false ops.toList 0 a b [] [] c
 |true=>match kQ ops (Qs P) (jK ops) with
  |true=>Ol A P N ops (jK ops) true ops.toList 0 a b [] [] c
  |false=>match nB ops (Qs P) (jK ops) with
   |true=>jt A P N ops (jK ops) c ops.size (List.range ops.size) a b [] []
   |false=>False
theorem AFv {id:Nat}{n:Bool}{k:Env}{l:aa}{i:Env->aa->Prop}{a:Act}{u:Nat}{Q:Exit->Act->World->Prop}(t:P.follows .mixedOrders=true)
  (e:ll A P N ops n k l i) (o:Fits N a k) (p: ∀c b d j,Fits N c b->L6 (dstsOf ops.toList) a c->i b d->Q .normal c (A.at d j)):
  (Code.region id ops n).wpIn (Fw r) m P Q a (A.at l u):=by
 unfold ll at e;cases n with
 |false=>exact wpIn_region_list (tq _ _ _ _ _ _ e o p)
 |true=>
  simp only[] at e;split at e
  ·rename_i q;refine YL (qb:=Qs P) (ord:=jK ops) (Q:=λc d=> ∃b,Fits N c b/\L6 (dstsOf ops.toList) a c/\i b d) ?_ t q ?_
   ·rintro c d j ⟨b,f,g,h⟩;exact p c b d j f g h
   ·have:=QY (Q:=λc d=> ∃b,Fits N c b/\L6 (dstsOf ops.toList) a c/\i b d) (a0:=a) (λc b d f g h=>⟨b,f,g,h⟩) ops.toList 0 k l a [] [] []
     (λv=>by simp) e o (L6.refl _ _) (λ_ s=>by cases s)
    rw[OS];simpa using this
  ·split at e
   ·rename_i q;refine Zp (qb:=Qs P) (ord:=jK ops) (Q:=λc d=> ∃b,Fits N c b/\L6 (dstsOf ops.toList) a c/\i b d) ?_ t q ?_
    ·rintro c d j ⟨b,f,g,h⟩;exact p c b d j f g h
    ·exact pN (Q:=λc d=> ∃b,Fits N c b/\L6 (dstsOf ops.toList) a c/\i b d) (a0:=a) (λc b d f g h=>⟨b,f,g,h⟩) _ _ k l a [] [] []
      e o (L6.refl _ _) (λ_ s=>by cases s)
   ·exact e.elim
end
inductive Lv where
 |one (s:Sc)
 |agg (l:List Sc)
def lx:List Sc->Type
 | []=>Unit
 |s::l=>s.Ty×lx l
def ju:(l:List Sc)->lx l->List J0
 | [],_=> []
 |s::l,x=>s.val x.1::ju l x.2
def Lv.Ty:Lv->Type
 | .one s=>s.Ty
 | .agg l=>lx l
def Lv.val:(v:Lv)->v.Ty->J0
 | .one s,x=>s.val x
 | .agg l,x=> .agg (ju l x).toArray
def Sc.un(v:J0):(s:Sc)->(s.Ty->Prop)->Prop
 | .int a,K=>match v with| .int d e=>(match decide (d=a) with|true=>K e|false=>False)|_=>False
 | .bool,K=>match v with| .bool b=>K b|_=>False
 | .str,K=>match v with| .string s=>K s|_=>False
 | .ptr,K=>match v with| .pointer p=>K p|_=>False
 | .sl,K=>match v with| .slice p l c=>K ⟨p,l,c⟩|_=>False
 | .map,K=>match v with| .map f=>K f|_=>False
 | .any,K=>K v
 | .iY a,K=>match v with| .float d e=>(match decide (d=a) with|true=>K e|false=>False)|_=>False
 | .iZ a,K=>match v with| .complex d e m=>(match decide (d=a) with|true=>K (e,m)|false=>False)|_=>False
theorem Sc.dq {v:J0}: ∀ {s:Sc} {K:s.Ty->Prop},s.un v K-> ∃x,v=s.val x/\K x
 | .int c,K,a=>by
  cases v<;>simp only[Sc.un] at a
  rename_i d b;split at a
  ·rename_i hd;have hd:=of_decide_eq_true hd;subst hd;exact⟨b,rfl,a⟩
  ·exact a.elim
 | .bool,K,a=>by cases v<;>simp only[Sc.un] at a;exact⟨_,rfl,a⟩
 | .str,K,a=>by cases v<;>simp only[Sc.un] at a;exact⟨_,rfl,a⟩
 | .ptr,K,a=>by cases v<;>simp only[Sc.un] at a;exact⟨_,rfl,a⟩
 | .sl,K,a=>by cases v<;>simp only[Sc.un] at a;exact⟨_,rfl,a⟩
 | .map,K,a=>by cases v<;>simp only[Sc.un] at a;exact⟨_,rfl,a⟩
 | .any,K,a=>⟨v,rfl,a⟩
 | .iY c,K,a=>by
  cases v<;>simp only[Sc.un] at a
  rename_i d b;split at a
  ·rename_i hd;have hd:=of_decide_eq_true hd;subst hd;exact⟨b,rfl,a⟩
  ·exact a.elim
 | .iZ c,K,a=>by
  cases v<;>simp only[Sc.un] at a
  rename_i d b m;split at a
  ·rename_i hd;have hd:=of_decide_eq_true hd;subst hd;exact⟨(b,m),rfl,a⟩
  ·exact a.elim
def pX:(l:List Sc)->List J0->(lx l->Prop)->Prop
 | [],[],K=>K ()
 |s::l,v::a,K=>s.un v λx=>pX l a λb=>K (x,b)
 | [],_::_,_=>False
 |_::_,[],_=>False
theorem u5: ∀ {l:List Sc} {c:List J0} {K:lx l->Prop},pX l c K-> ∃b,c=ju l b/\K b
 | [],[],_,a=>⟨(),rfl,a⟩
 |s::l,v::c,K,a=>by
  obtain⟨x,d,e⟩:=Sc.dq a;obtain⟨b,f,g⟩:=u5 e;exact⟨(x,b),by rw[d,f];rfl,g⟩
 | [],_::_,_,a=>a.elim
 |_::_,[],_,a=>a.elim
def Lv.un(v:J0):(a:Lv)->(a.Ty->Prop)->Prop
 | .one s,K=>s.un v K
 | .agg l,K=>match v with| .agg b=>pX l b.toList K|_=>False
theorem Lv.dq {v:J0}: ∀ {b:Lv} {K:b.Ty->Prop},b.un v K-> ∃x,v=b.val x/\K x
 | .one s,K,a=>Sc.dq a
 | .agg l,K,a=>by
  cases v<;>simp only[Lv.un] at a
  rename_i e;obtain⟨c,d,a⟩:=u5 a;refine⟨c,?_,a⟩;simp only[Lv.val];rw[<- d]
abbrev Live:=List (Nat×Lv)
def gy:Live->Type
 | []=>Unit
 |x::a=>x.2.Ty×gy a
def Mo:(L:Live)->Env->(gy L->Prop)->Prop
 | [],_,K=>K ()
 |x::b,a,K=>match a.get x.1 with|some v=>x.2.un v λc=>Mo b a λd=>K (c,d)|none=>False
def LH:(L:Live)->gy L->Nat->Option J0
 | [],_,_=>none
 |x::b,a,t=>bif Nat.beq t x.1 then some (x.2.val a.1) else LH b a.2 t
def iK(t:Nat):List Nat->Bool
 | []=>false
 |x::a=>bif Nat.beq t x then true else iK t a
def GJ(L:Live)(b:List Nat)(a:Env)(c:gy L):Env:=
 {get:=λt=>match LH L c t with|some v=>some v|none=>bif iK t b then a.get t else none,ds:=a.ds}
def NA(b a:List Nat):Bool:=match b with| []=>true|x::c=>bif iK x a then false else NA c a
theorem YT {t:Nat}: ∀ {l:List Nat},iK t l=true↔t∈l
 | []=>by simp[iK]
 |x::b=>by
  unfold iK;by_cases a:t=x
  ·subst a;simp
  ·rw[Td a];simp only[cond_false,HD,a,false_or];exact YT
theorem UM {c:List Nat}: ∀ {e:List Nat},NA e c=true-> ∀t∈e,t∉c
 | [],_,_,f=>by cases f
 |x::h,a,t,d=>by
  unfold NA at a;cases b:iK x c with
  |true=>rw[b] at a;cases a
  |false=>
   rw[b] at a;rcases List.mem_cons.1 d with rfl|d
   ·intro g;rw[YT.2 g] at b;cases b
   ·exact UM a t d
theorem JC {d:Env}: ∀ {L:Live} {K:gy L->Prop},Mo L d K-> ∃c,(∀ t v,LH L c t=some v->d.get t=some v)/\K c
 | [],K,b=>⟨(),λ_ _ a=>(by cases a),b⟩
 |(e,g)::h,K,b=>by
  unfold Mo at b;split at b
  ·rename_i v i;obtain⟨x,j,k⟩:=Lv.dq b;obtain⟨c,l,m⟩:=JC k;refine⟨(x,c),λt v a=>?_,m⟩;change (bif Nat.beq t e then some (g.val x) else LH h c t)=some v at a;by_cases f:t=e
   ·subst f;have n:Nat.beq t t=true:=by simp
    rw[n] at a;rw[<- a,cond_true,<-j];exact i
   ·rw[Td f] at a;exact l t v a
  ·exact b.elim
theorem u6 {L:Live}{b:List Nat}{f:Env}{c:gy L}{t:Nat}{v:J0}(a:(GJ L b f c).get t=some v):
  LH L c t=some v\/(LH L c t=none/\t∈b/\f.get t=some v):=by
 unfold GJ at a;simp only at a;split at a
 ·rename_i u d;rw[d];exact .inl a
 ·rename_i d;cases e:iK t b with
  |false=>rw[e] at a;cases a
  |true=>rw[e] at a;exact .inr ⟨d,YT.1 e,a⟩
theorem AGb {L:Live}{c d:gy L}{t:Nat}(a:LH L c t=none):LH L d t=none:=by
 induction L with
 |nil=>rfl
 |cons x f e=>
  unfold LH at a ⊢;by_cases b:t=x.1
  ·subst b;simp at a
  ·rw[Td b] at a ⊢;exact e a
structure FR (W:List Nat) (nd:Bool) (a a':Act):Prop where
 get: ∀t,t∉W->a'.tmps[t]? =a.tmps[t]?
 ds:nd=true->a'.defers=a.defers
theorem FR.refl {W:List Nat}{nd:Bool}{a:Act}:FR W nd a a:=⟨λ_ _=>rfl,λ_=>rfl⟩
theorem FR.trans {e f V:List Nat}{nd g h:Bool}{a b c:Act}(i:FR e nd a b)(j:FR f g b c)(m: ∀t∈e,t∈V)(n: ∀t∈f,t∈V)(k:h=true->nd=true/\g=true):FR V h a c:=
 ⟨λt l=>(j.get t λd=>l (n t d)).trans (i.get t λd=>l (m t d)),λd=>(j.ds (k d).2).trans (i.ds (k d).1)⟩
theorem FR.ai {d V:List Nat}{nd e:Bool}{a b:Act}(f:FR d nd a b)(g: ∀t∈d,t∈V)(h:e=true->nd=true):FR V e a b:=
 ⟨λt i=>f.get t λc=>i (g t c),λc=>f.ds (h c)⟩
theorem Fits.join {N:Nat}{a b:Act}{d e:Env}(f:Fits N a d)(g:Fits N b e){h:List Nat}{nd:Bool}(l:nd=true)(i:FR h nd a b){L:Live}{j:List Nat}(m:NA j h=true){k:gy L}
  (n: ∀t v,LH L k t=some v->e.get t=some v):Fits N b (GJ L j d k):=by
 refine⟨g.size,λt v o=>?_,(i.ds l).trans f.ds⟩;rcases u6 o with c|⟨_,p,c⟩
 ·exact g.get t v (n t v c)
 ·rw[i.get t (UM m t p)];exact f.get t v c
theorem Fits.again {N:Nat}{a b:Act}{e f:Env}{L:Live}{c:List Nat}{m g:gy L}(h:Fits N a (GJ L c e m))(i:Fits N b f){j:List Nat}{nd:Bool}(n:nd=true)(k:FR j nd a b)
  (o:NA c j=true) (p: ∀t v,LH L g t=some v->f.get t=some v):Fits N b (GJ L c e g):=by
 refine⟨i.size,λt v q=>?_,(k.ds n).trans h.ds⟩;rcases u6 q with d|⟨r,l,d⟩
 ·exact i.get t v (p t v d)
 ·rw[k.get t (UM o t l)];refine h.get t v ?_;unfold GJ;simp only;rw[AGb r,YT.2 l];exact d
inductive bY where
 |none
 |br (L:Live) (kept:List Nat)
 |seq (x y:bY)
 |bz (L:Live) (kept:List Nat) (x y:bY)
 |cond (x y:bY)
 |block (x:bY)
 |bI (L:Live) (kept:List Nat) (x:bY)
 |loop (L:Live) (kept:List Nat) (x:bY)
 |range (ps:List Lv) (x y:bY)
 |scope (L:Live) (kept:List Nat) (x y z:bY)
def writes:Code->List Nat
 | .region _ c _=>dstsOf c.toList
 | .seq a b=>writes a++writes b
 | .cond _ a b=>writes a++writes b
 | .block _ a=>writes a
 | .loop a=>writes a
 | .scope a=>writes a
 |_=> []
def F5:Code->Bool
 | .rangeFunc .. =>false
 | .seq a b=>F5 a&&F5 b
 | .cond _ a b=>F5 a&&F5 b
 | .block _ a=>F5 a
 | .loop a=>F5 a
 | .scope a=>F5 a
 |_=>true
inductive ik where
 |af (i:Nat)
 |eJ (l:Nat)
def Zc:Option Nat->Code
 |none=> .ret
 |some id=> .exit id
def im:List Lv->Type
 | []=>Unit
 |lv::l=>lv.Ty×im l
def jU:(l:List Lv)->im l->List J0
 | [],_=> []
 |lv::l,x=>lv.val x.1::jU l x.2
theorem Xt: ∀(l:List Lv) (x:im l),(jU l x).length=l.length
 | [],_=>rfl
 |_::l,x=>by simp[jU,Xt l x.2]
def jv:Env->List Tmp->List J0->Env
 |e,p::ps,v::a=>jv (e.set p v) ps a
 |e,_,_=>e
def Wo(k:ak)(P:Q1)(fv:J0)(e:List Lv)(body:im e->Nat->aa->(aa->Prop)->(Option Nat->aa->Prop)->Prop)(a:aa)(n:aa->Prop)(o:Option Nat->aa->Prop):Prop:=
 ∀(rec:Go.Loop),rec.state= .ready->rec.pending=none->rec.params.size=e.length->
  (∀ (x:im e) (h:aa) (i:A2O),h[a.size+1]? =some (.loop rec)->
   body x (a.size+1) h
    (λc=> ∃d,c[a.size+1]? =some (.loop d)/\i (.bool true) (c.setIfInBounds (a.size+1) (.loop {d with state:= .ready,pending:=none})))
    (λg c=> ∃d,c[a.size+1]? =some (.loop d)/\i (.bool false) (c.setIfInBounds (a.size+1) (.loop {d with state:= .done,pending:=some (Zc g)})))->
   EL k P (.func (.yield (a.size+1)) #[] #[]) (jU e x).toArray h i)->
  ∃f l,Vj P (do let m <-Deferred.ofValue fv #[.func (.yield (a.size+1)) #[] #[]];invoke m.target m.args:Sem Next) (λx=>x= .enter f l)/\
   AA k P f l ((a.push (.deferred (some []))).push (.loop rec)) λ_ j=>
    ∃b,j[a.size+1]? =some (.loop b)/\b.state≠ .busy/\
     ((b.pending=none/\n (j.setIfInBounds (a.size+1) (.loop {b with state:= .exhausted})))\/
     ∃g,b.pending=some (Zc g)/\o g (j.setIfInBounds (a.size+1) (.loop {b with state:= .exhausted})))
def FZ(n:ak)(P:Q1)(N:Nat)(q:Bool):Code->bY->Env->aa->(Env->aa->Prop)->(ik->Env->aa->Prop)->(Env->aa->Prop)->Prop
 | .skip,_,d,e,k,_,_=>k d e
 | .exit id,_,d,e,_,kb,_=>kb (.af id) d e
 | .ret,_,d,e,_,_,m=>m d e
 | .label _,_,d,e,k,_,_=>k d e
 | .goto l,_,d,e,_,kb,_=>kb (.eJ l) d e
 | .region _ y u,r,d,e,k,_,_=>match r with
  | .br L o=>match NA o (dstsOf y.toList) with
   |true=>ah (λj e=>k (GJ L o d j) e) λK=>ll n P N y u d e λh g=>Mo L h λj=>K j g
   |false=>False
  |_=>ll n P N y u d e k
 | .seq a b,r,d,e,k,kb,m=>match r with
  | .seq x t=>FZ n P N q a x d e (λd e=>FZ n P N q b t d e k kb m) kb m
  | .bz L o x t=>match NA o (writes a)&&F5 a with
   |true=>ah (λj e=>FZ n P N q b t (GJ L o d j) e k kb m) λK=>FZ n P N q a x d e (λh g=>Mo L h λj=>K j g) kb m
   |false=>False
  |_=>False
 | .cond c p C,r,d,e,k,kb,m=>match r with
  | .cond x t=>rd d c λv=>match v with| .bool b=>ae b (FZ n P N q p x d e k kb m) (FZ n P N q C t d e k kb m)|_=>False
  |_=>False
 | .block id c,r,d,e,k,kb,m=>match r with
  | .block x=>FZ n P N q c x d e k (λs h g=>match s with| .af i=>(match Nat.beq i id with|true=>k h g|false=>kb (.af i) h g)| .eJ l=>kb (.eJ l) h g) m
  | .bI L o x=>match NA o (writes c)&&F5 c with
   |true=>ah (λj e=>k (GJ L o d j) e) λK=>
     FZ n P N q c x d e (λh g=>Mo L h λj=>K j g) (λs h g=>match s with| .af i=>(match Nat.beq i id with|true=>Mo L h λj=>K j g|false=>kb (.af i) h g)| .eJ l=>kb (.eJ l) h g) m
   |false=>False
  |_=>False
 | .loop c,r,d,e,_,kb,m=>match r with
  | .loop L o x=>match NA o (writes c)&&F5 c with
   |true=>Mo L d λj=>Loop (λK j e=>FZ n P N q c x (GJ L o d j) e (λh g=>Mo L h λj=>K j g) kb m) j e
   |false=>False
  |_=>False
 | .rangeFunc f ps D c,r,d,e,k,kb,m=>match r with
  | .range z x t=>match (!q)&&Nat.beq z.length ps.size&&ps.toList.all λp=>Nat.blt p N with
   |true=>rd d f λfv=>Wo n P fv z
     (λargs l E F B=>FZ n P N true D x (jv {get:=d.get,ds:= []} ps.toList (jU z args)) E
      (λh g=> ∃A,g[l]? =some (.loop A)/\A.state= .ready/\
       FZ n P N true c t h (g.setIfInBounds l (.loop {A with state:= .busy})) (λ_ w=>F w) (λs _ w=>match s with| .af i=>B (some i) w| .eJ _=>False) (λ_ w=>B none w))
      (λ_ _ _=>False) (λ_ _=>False))
     e
     (λg=>k {get:=d.get,ds:=e.size::d.ds} g)
     (λs g=>match s with|none=>m {get:=d.get,ds:=e.size::d.ds} g|some i=>kb (.af i) {get:=d.get,ds:=e.size::d.ds} g)
   |false=>False
  |_=>False
 | .scope (.seq b (.seq c (.seq (.label l) u))),r,d,e,k,kb,m=>match r with
  | .scope L o G x t=>match ((findLabel b l).isNone&&(findLabel c l).isNone)&&(NA o (writes c++writes u)&&(F5 b&&(F5 c&&F5 u))) with
   |true=>FZ n P N q b G d e (λd e=>FZ n P N q c x d e
     (λh g=>Mo L h λj=>Loop (λK j e=>FZ n P N q u t (GJ L o d j) e k
      (λs h g=>match s with| .af i=>kb (.af i) h g| .eJ H=>match Nat.beq H l with|true=>Mo L h λj=>K j g|false=>False) m) j g)
     (λs h g=>match s with| .af i=>kb (.af i) h g| .eJ _=>False) m) (λs h g=>match s with| .af i=>kb (.af i) h g| .eJ _=>False) m
   |false=>False
  |_=>False
 |_,_,_,_,_,_,_=>False
def dh(d:ak)(N:Nat)(e:List Nat)(nd:Bool)(f:Act)(g:Env->aa->Prop)(kb:ik->Env->aa->Prop)(h:Env->aa->Prop):Exit->Act->World->Prop:=
 λx a i=> ∃b c j,i=d.at c j/\Fits N a b/\FR e nd f a/\(match x with
  | .normal=>g b c
  | .exit id=>kb (.af id) b c
  | .goto l=>kb (.eJ l) b c
  | .ret=>h b c
  |_=>False)
theorem dh.mono {e:ak}{N:Nat}{f V:List Nat}{nd g:Bool}{h:Act}{j k:Env->aa->Prop}{kb l:ik->Env->aa->Prop}{m n:Env->aa->Prop}
  (q: ∀t∈f,t∈V) (r:g=true->nd=true) (s: ∀b c,j b c->k b c) (o: ∀i b c,kb i b c->l i b c) (u: ∀b c,m b c->n b c) {x:Exit} {a:Act} {p:World}
  (v:dh e N f nd h j kb m x a p):dh e N V g h k l n x a p:=by
 obtain⟨b,c,w,y,z,A,d⟩:=v;refine⟨b,c,w,y,z,A.ai q r,?_⟩;cases x<;>simp only at d ⊢
 ·exact s _ _ d
 ·exact o _ _ _ d
 ·exact o _ _ _ d
 ·exact u _ _ d
end Go.Lf
