/-
  LIFT, part D: one operation's formula.
-/
import Derived.Test.YtcaiammecilkeaaLfC
namespace Go.Lf

/-! ### operations that read no memory -/
def sEq (a b : ByteArray) : Bool := a.toList == b.toList
def sLt (a b : ByteArray) : Bool := Op.bytesLess a.toList b.toList
def sAt (s : ByteArray) (i : Int) : Int := ((s[i.toNat]?).getD 0).toNat

def isNilOf (P : Program) (t : TypeId) (y : Operand) : Bool :=
  match P.underlying t with
  | some (.pointer _) => match y with | .const (.pointer none) => true | _ => false
  | some (.slice _) => match y with | .const (.slice none 0 0) => true | _ => false
  | some (.map _ _) => match y with | .const (.map none) => true | _ => false
  | some (.func _ _ _) => match y with | .const .nilFunc => true | _ => false
  | some (.interface _) => match y with | .const .nilIface => true | _ => false
  | _ => false

def isFn : Value → Prop
  | .func .. => True
  | .nilFunc => True
  | _ => False
def isNilF : Value → Bool
  | .nilFunc => true
  | _ => false
def isIf : Value → Prop
  | .iface .. => True
  | .nilIface => True
  | _ => False
def isNilI : Value → Bool
  | .nilIface => true
  | _ => false

/-- x == nil -/
def nilK (P : Program) (t : TypeId) (v : Value) (K : Bool → Prop) : Prop :=
  match P.underlying t with
  | some (.pointer _) => match v with | .pointer p => K p.isNone | _ => False
  | some (.slice _) => match v with | .slice p _ _ => K p.isNone | _ => False
  | some (.map _ _) => match v with | .map r => K r.isNone | _ => False
  | some (.func _ _ _) => Chk (isFn v) (K (isNilF v))
  | some (.interface _) => Chk (isIf v) (K (isNilI v))
  | _ => False

def eqRes (op : BinOp) (b : Bool) : Value := match op with | .eql => .bool b | _ => .bool !b

def divK (op : BinOp) (v u : Value) (K : Value → Prop) : Prop :=
  match v, u with
  | .int k a, .int k' b =>
    match decide (k = k') with
    | true => match op with
      | .quo => Chk (b ≠ 0) (K (.int k (k.wrap (a.tdiv b))))
      | .rem => Chk (b ≠ 0) (K (.int k (a.tmod b)))
      | _ => False
    | false => False
  | _, _ => False

def shK (op : BinOp) (v u : Value) (K : Value → Prop) : Prop :=
  match v, u with
  | .int k a, .int _ b =>
    match op with
    | .shl => Chk (0 ≤ b) (K (.int k (k.wrap (a * 2 ^ (min b.toNat k.bits)))))
    | .shr => Chk (0 ≤ b) (K (.int k (a.fdiv (2 ^ (min b.toNat k.bits)))))
    | _ => False
  | _, _ => False

def catK (v u : Value) (K : Value → Prop) : Prop :=
  match v, u with
  | .string a, .string b => Chk (((a.size + b.size : Nat) : Int) ≤ IntKind.i64.max) (K (.string (a ++ b)))
  | _, _ => False

inductive BinCls where
  | reck | div | shift | cat | nilY | nilX | no

def isConst : Operand → Bool
  | .const _ => true
  | _ => false

def binCls (P : Program) (op : BinOp) (t : TypeId) (x y : Operand) : BinCls :=
  match op with
  | .quo | .rem => match P.underlying t with | some (.int _) => (match isConst y with | true => .reck | false => .div) | _ => .no
  | .shl | .shr => match isConst y with | true => .reck | false => .shift
  | .add => match P.underlying t with | some .string => .cat | some (.int _) => .reck | _ => .no
  | .eql | .neq =>
    match P.underlying t with
    | some (.int _) => .reck
    | some .string => .reck
    | some .bool => .reck
    | some (.pointer _) | some (.slice _) | some (.map _ _) | some (.func _ _ _) | some (.interface _) => (match isNilOf P t y with | true => .nilY | false => match isNilOf P t x with | true => .nilX | false => .no)
    | _ => .no
  | _ => match P.underlying t with | some (.int _) => .reck | some .string => .reck | _ => .no

def binK (P : Program) (op : BinOp) (t : TypeId) (x y : Operand) (v u : Value) (K : Value → Prop) : Prop :=
  match binCls P op t x y with
  | .reck => CalcK P (do eqGuard op t x y v u; binOp op t v u) K
  | .div => divK op v u K
  | .shift => shK op v u K
  | .cat => catK v u K
  | .nilY => nilK P t v fun b => K (eqRes op b)
  | .nilX => nilK P t u fun b => K (eqRes op b)
  | .no => False

def idxAddrK (P : Program) (t : TypeId) (v i : Value) (K : Value → Prop) : Prop :=
  match P.underlying t with
  | some (.slice el) => match v, i, P.info? el with
    | .slice p len _, .int _ n, some ei => Idx p len n fun a => K (.pointer (some (a.add (n.toNat * ei.size))))
    | _, _, _ => False
  | some (.array len el) => match v, i, P.info? el with
    | .pointer p, .int _ n, some ei => At p fun a => Chk (0 ≤ n ∧ n < (len : Int)) (K (.pointer (some (a.add (n.toNat * ei.size)))))
    | _, _, _ => False
  | _ => False

def indexK (P : Program) (t : TypeId) (v i : Value) (K : Value → Prop) : Prop :=
  match P.underlying t with
  | some .string => match v, i with
    | .string s, .int _ n => Chk (0 ≤ n ∧ n < (s.size : Int)) (K (.int .u8 (sAt s n)))
    | _, _ => False
  | some (.array _ _) => CalcK P (Instr.index t v i) K
  | _ => False

def bndK (x : Option Value) (d max : Nat) (K : Nat → Prop) : Prop :=
  match x with
  | some (.int _ n) => Chk (0 ≤ n ∧ n ≤ (max : Int)) (K n.toNat)
  | none => K d
  | _ => False

def slOff (p : Option Addr) (cap l size : Nat) : Option Addr := if cap = l then p else p.map (·.add (l * size))

def sliceK (P : Program) (t : TypeId) (v : Value) (lo hi : Option Value) (K : Value → Prop) : Prop :=
  match P.underlying t with
  | some .string => match v with
    | .string s => bndK hi s.size s.size fun h => bndK lo 0 h fun l => K (.string (s.extract l h))
    | _ => False
  | some (.slice el) => match v, P.info? el with
    | .slice p len cap, some ei => bndK hi len cap fun h => bndK lo 0 h fun l => K (.slice (slOff p cap l ei.size) (h - l) (cap - l))
    | _, _ => False
  | some (.array n el) => match v, P.info? el with
    | .pointer p, some ei => At p fun a => bndK hi n n fun h => bndK lo 0 h fun l => K (.slice (some (if n = l then a else a.add (l * ei.size))) (h - l) (n - l))
    | _, _ => False
  | _ => False

def pickK (c : Bool) (a b : Option Value) (K : Value → Prop) : Prop :=
  match a, b with
  | some (.bool x), some (.bool y) => K (.bool (cond c x y))
  | some x, some y => PIf c (K x) (K y)
  | some x, none => PIf c (K x) False
  | none, some y => PIf c False (K y)
  | none, none => False

def nilChkK (v : Value) (K : Value → Prop) : Prop :=
  match v with
  | .pointer p => At p fun a => K (.pointer (some a))
  | _ => False

def optK (e : Env) (x : Option Operand) (K : Option Value → Prop) : Prop := match x with | none => K none | some x => rd e x fun v => K (some v)

/-- a value of one cell, where its type has one -/
def OneK (b : Bool) (K : Prop) : Prop := match b with | true => K | false => False
def cellsK (P : Program) (t : TypeId) (v : Value) (K : Array Value → Prop) : Prop :=
  match isAggB P t with
  | true => K v.cells
  | false => OneK (oneB v) (K #[v])

theorem oneB_cells {v : Value} (h : oneB v = true) : v.cells = #[v] := by cases v <;> first | rfl | (simp [oneB] at h)

theorem cellsK_sound {P : Program} {t : TypeId} {v : Value} {K : Array Value → Prop} (h : cellsK P t v K) : K v.cells := by
  unfold cellsK at h
  split at h
  · exact h
  · cases ho : oneB v with
    | false => rw [ho] at h; exact h.elim
    | true => rw [ho] at h; rw [oneB_cells ho]; exact h

def fillC (place : Nat → Option (Nat × Nat)) (cells : Array Value) : List (Nat × Array Value) → Option (Array Value)
  | [] => some cells
  | (i, cs) :: rest =>
    match place i with
    | none => none
    | some (off, size) =>
      if cs.size ≠ size || off + cs.size > cells.size then none
      else fillC place (cs.zipIdx.foldl (fun xs (c, j) => xs.setIfInBounds (off + j) c) cells) rest

theorem fill_eq (place : Nat → Option (Nat × Nat)) : ∀ (l : List (Nat × Value)) (cells : Array Value), Instr.fill place cells l = fillC place cells (l.map fun p => (p.1, p.2.cells))
  | [], cells => rfl
  | (i, v) :: rest, cells => by
    simp only [Instr.fill, List.map_cons, fillC]
    cases place i with
    | none => rfl
    | some p => obtain ⟨off, size⟩ := p; simp only []; split <;> first | rfl | exact fill_eq place rest _

def fieldT (P : Program) (t : TypeId) (i : Nat) : Option TypeId :=
  match P.underlying t with
  | some (.struct fs) => (fs[i]?).map (·.type)
  | some (.array _ e) => some e
  | some (.slice e) => some e
  | _ => none

/-- the parts of a literal, each as its cells -/
def partsK (P : Program) (t : TypeId) (e : Env) : List (Nat × Operand) → (List (Nat × Array Value) → Prop) → Prop
  | [], K => K []
  | (i, x) :: r, K => match fieldT P t i with
    | some ft => rd e x fun v => cellsK P ft v fun cs => partsK P t e r fun l => K ((i, cs) :: l)
    | none => False

def placesOf (P : Program) : List Field → Option (List (Nat × Nat))
  | [] => some []
  | f :: r => match P.info? f.type with
    | some i => match placesOf P r with
      | some l => some ((f.offset, i.size) :: l)
      | none => none
    | none => none

def builtC (P : Program) (t : TypeId) (parts : List (Nat × Array Value)) : Option (Array Value) :=
  match P.info? t with
  | some i => match i.zero with
    | some z => match P.underlying t with
      | some (.struct fs) => match placesOf P fs.toList with
        | some l => fillC (l.toArray[·]?) z.cells parts
        | none => none
      | some (.array _ el) => match P.info? el with
        | some ei => fillC (fun j => some (j * ei.size, ei.size)) z.cells parts
        | none => none
      | _ => none
    | none => none
  | none => none

def buildK (P : Program) (t : TypeId) (parts : Array (Nat × Operand)) (e : Env) (K : Value → Prop) : Prop :=
  partsK P t e parts.toList fun l => match builtC P t l with | some cells => K (.agg cells) | none => False

def pureK (P : Program) (o : Oper) (e : Env) (K : Value → Prop) : Prop :=
  match o.op with
  | .nilCheck x => rd e x fun v => nilChkK v K
  | .binOp op t x y _ => rd e x fun v => rd e y fun u => binK P op t x y v u K
  | .indexAddr t x i => rd e x fun v => rd e i fun u => idxAddrK P t v u K
  | .index t x i => rd e x fun v => rd e i fun u => indexK P t v u K
  | .slice t x lo hi mx => match mx with
    | none => rd e x fun v => optK e lo fun l => optK e hi fun h => sliceK P t v l h K
    | some _ => False
  | .pick c a b => rd e c fun v => match v with | .bool c => pickK c (rdv e a) (rdv e b) K | _ => False
  | .build t parts => buildK P t parts e K
  | _ => known e o.op.operands.toList (CalcK P (execOp (ρof e) o) fun x => match x with | .value v => K v | _ => False)

theorem At.mk {p : Option Addr} {K : Addr → Prop} (h : At p K) : ∃ a, p = some a ∧ K a := by
  cases p with
  | none => exact h.elim
  | some a => exact ⟨a, rfl, h⟩

theorem run_v {P : Program} {s : Sem Value} {v : Value} {w w' : World} (h : s.run P w = .ok v w') : (do pure (.value (← s)) : Sem Next).run P w = .ok (.value v) w' := by
  rw [Sem.run_bind, h]; rfl
theorem run_u {P : Program} {s : Sem Unit} {w w' : World} (h : s.run P w = .ok () w') : (do s; pure .skip : Sem Next).run P w = .ok .skip w' := by
  rw [Sem.run_bind, h]; rfl

section
variable {P : Program} {w : World}
theorem run_und {t : TypeId} {d : TypeDesc} (h : P.underlying t = some d) : (underlying t).run P w = .ok d w := run_underlying h w
theorem run_info {t : TypeId} {i : TypeInfo} (h : P.info? t = some i) : (typeInfo t).run P w = .ok i w := by simp [typeInfo, h]
theorem run_sizeOf {t : TypeId} {i : TypeInfo} (h : P.info? t = some i) : (sizeOf t).run P w = .ok i.size w := by simp [sizeOf, run_info h]

/-- which nil a type has -/
def nilOf (P : Program) (t : TypeId) : Option Value :=
  match P.underlying t with
  | some (.pointer _) => some (.pointer none)
  | some (.slice _) => some (.slice none 0 0)
  | some (.map _ _) => some (.map none)
  | some (.func _ _ _) => some .nilFunc
  | some (.interface _) => some .nilIface
  | _ => none

theorem isNilOf_spec {t : TypeId} {y : Operand} (h : isNilOf P t y = true) : ∃ u, y = .const u ∧ nilOf P t = some u := by
  unfold isNilOf at h
  unfold nilOf
  split at h <;> first | (cases h; done) | (split at h <;> first | (cases h; done) | exact ⟨_, rfl, rfl⟩)

theorem equalIn_nilY (d : Nat) {t : TypeId} {v u : Value} {K : Bool → Prop} (h : nilK P t v K) (hu : nilOf P t = some u) :
    ∃ b, (∀ w, (Op.equalIn (d + 1) t v u).run P w = .ok b w) ∧ (∀ w, (Op.equalIn (d + 1) t u v).run P w = .ok b w) ∧ K b := by
  unfold nilK at h
  unfold nilOf at hu
  cases ht : P.underlying t with
  | none => rw [ht] at h; exact h.elim
  | some ty =>
    rw [ht] at h hu
    cases ty <;> simp only [] at h hu <;> try exact h.elim
    case pointer el =>
      simp only [Option.some.injEq] at hu
      subst hu
      cases v <;> simp only [] at h <;> try exact h.elim
      case pointer p =>
        refine ⟨_, fun w => ?_, fun w => ?_, h⟩
        · cases p <;> simp [Op.equalIn, run_und ht]
        · cases p <;> simp [Op.equalIn, run_und ht]
    case slice el =>
      simp only [Option.some.injEq] at hu
      subst hu
      cases v <;> simp only [] at h <;> try exact h.elim
      case slice p a b =>
        refine ⟨_, fun w => ?_, fun w => ?_, h⟩
        · cases p <;> simp [Op.equalIn, run_und ht]
        · cases p <;> simp [Op.equalIn, run_und ht]
    case map k el =>
      simp only [Option.some.injEq] at hu
      subst hu
      cases v <;> simp only [] at h <;> try exact h.elim
      case map p =>
        refine ⟨_, fun w => ?_, fun w => ?_, h⟩
        · cases p <;> simp [Op.equalIn, run_und ht]
        · cases p <;> simp [Op.equalIn, run_und ht]
    case func ps rs vr =>
      simp only [Option.some.injEq] at hu
      subst hu
      obtain ⟨hf, h⟩ := h
      cases v <;> simp only [isFn] at hf
      · refine ⟨_, fun w => ?_, fun w => ?_, h⟩ <;> simp [Op.equalIn, run_und ht, isNilF]
      · refine ⟨_, fun w => ?_, fun w => ?_, h⟩ <;> simp [Op.equalIn, run_und ht, isNilF]
    case interface ms =>
      simp only [Option.some.injEq] at hu
      subst hu
      obtain ⟨hf, h⟩ := h
      cases v <;> simp only [isIf] at hf
      · refine ⟨_, fun w => ?_, fun w => ?_, h⟩ <;> simp [Op.equalIn, run_und ht, isNilI]
      · refine ⟨_, fun w => ?_, fun w => ?_, h⟩ <;> simp [Op.equalIn, run_und ht, isNilI]

end
end Go.Lf
