/-
  The statements BoxParts, BoxFuel, BoxOrder, BoxNone over the formulas.
-/
import Derived.Test.YtnphbdfmdboniaaLfS5
import Derived.Test.YtnphbdfmdboniaaLfU4
set_option maxRecDepth 100000
set_option linter.unusedVariables false
set_option linter.unusedSimpArgs false
namespace Go.Lf.G
open Go

abbrev nmF : ByteArray := ⟨#[102]⟩
theorem nmF_ne : ¬ nmF = bs0 := by decide
theorem nmF_sz : nmF.size = 1 := rfl
theorem nmF_ok : badName nmF = false := by decide
/-- a box that holds one file at most -/
def oneM : Option (ByteArray × ByteArray) → Bx
  | none => newB
  | some x => ⟨[⟨nmF, x.1, x.2⟩], -1, false⟩
def oneA (d : ByteArray) : Option (ByteArray × ByteArray) → ByteArray × ByteArray
  | none => (bs0, d)
  | some x => (x.1, x.2 ++ d)
theorem append_one (o : Option (ByteArray × ByteArray)) (d : ByteArray) : appendB (oneM o) nmF d = (0, oneM (some (oneA d o))) := by
  cases o with
  | none => simp [appendB, oneM, newB, nmF_ok, tickB, haveF, findF, insF, updF, addF, nil_app, oneA]
  | some x => simp [appendB, oneM, newB, nmF_ok, tickB, haveF, findF, insF, updF, addF, nil_app, oneA]
theorem sync_one (a s : ByteArray) : syncB (oneM (some (a, s))) nmF = (0, oneM (some (a ++ s, bs0))) := by
  simp [syncB, oneM, tickB, findF, updF, firmF]
theorem read_one (a s : ByteArray) : readB (oneM (some (a, s))) nmF = (a ++ s, 0) := by
  simp [readB, oneM, findF]
def oneSz : Option (ByteArray × ByteArray) → Nat
  | none => 0
  | some x => x.1.size + x.2.size + 1
theorem wt_one (o : Option (ByteArray × ByteArray)) : wtF (oneM o).files = oneSz o := by
  cases o <;> simp [oneM, newB, wtF, oneSz]

theorem sz2 {a b : UInt8} : ByteArray.size ⟨#[a, b]⟩ = 2 := rfl
theorem crash_awake : crashB (oneM (some (oneA ⟨#[99, 100]⟩ (some (⟨#[97, 98]⟩, bs0))))) [1] = oneM (some (⟨#[97, 98, 99]⟩, bs0)) := by
  have : (⟨#[97, 98]⟩ : ByteArray) ++ ((bs0 : ByteArray) ++ ⟨#[99, 100]⟩).extract 0 (min (1 : Int).toNat ((bs0 : ByteArray) ++ ⟨#[99, 100]⟩).size) = ⟨#[97, 98, 99]⟩ := by kernel_rfl
  have h2 : ¬ ((bs0 : ByteArray) ++ ⟨#[99, 100]⟩) = bs0 := by rw [nil_app]; decide
  have h3 : ¬ (⟨#[97, 98, 99]⟩ : ByteArray) = bs0 := by decide
  simp only [crashB, oneM, oneA, crashF, oneF, keptF, if_neg h2, List.getElem?_cons_zero, this, if_neg h3]
  rfl
theorem read_off (m : Bx) (n : ByteArray) : readB (offB m) n = (bs0, 30) := rfl
theorem awake03_ok {A : Amb} {h : Heap} {R : Value → Heap → Prop} (H : ∀ h', Ext h h' → R (.bool true) h') : HCalls A P f_wherrylaw03_awake #[] h R := by
  refine ok_wherrylaw03_awake ?_
  unfold F_wherrylaw03_awake
  refine bNew_ok fun b h1 S1 B1 x1 f1 => ⟨_, rfl, ?_⟩
  have e1 := append_one none ⟨#[97, 98]⟩
  refine bAppend_ok B1 (by show 0 + ByteArray.size ⟨#[97, 98]⟩ + 1 ≤ _; rw [sz2]; omega) fun h2 S2 B2 m2 f2 => ⟨_, rfl, ?_⟩
  have e1' : appendB newB nmF ⟨#[97, 98]⟩ = _ := e1
  rw [e1'] at B2 ⊢
  refine bSync_ok B2 fun h3 B3 m3 => ⟨_, rfl, ?_⟩
  have e2 : syncB (oneM (some (oneA ⟨#[97, 98]⟩ none))) nmF = _ := sync_one bs0 ⟨#[97, 98]⟩
  rw [e2] at B3 ⊢
  rw [nil_app] at B3
  refine bAppend_ok B3 (by rw [wt_one]; show ByteArray.size ⟨#[97, 98]⟩ + ByteArray.size ⟨#[]⟩ + 1 + ByteArray.size ⟨#[99, 100]⟩ + 1 ≤ _; rw [sz2, sz2, sz0]; omega) fun h4 S4 B4 m4 f4 => ⟨_, rfl, ?_⟩
  rw [append_one] at B4 ⊢
  have xs : ∀ c, S1 c → h.size ≤ c := f1
  have f2' : ∀ c, S2 c → h.size ≤ c := fun c hc => (f2 c hc).elim (f1 c) fun h => by have := x1.size; omega
  have x02 : Ext h h2 := x1.then (m2.weak fun c _ hc => .inr (f1 c hc))
  have x03 : Ext h h3 := x02.then (m3.weak fun c _ hc => .inr (f2' c hc))
  have f4' : ∀ c, S4 c → h.size ≤ c := fun c hc => (f4 c hc).elim (f2' c) fun h => by have := x03.size; omega
  have x04 : Ext h h4 := x03.then (m4.weak fun c _ hc => .inr (f2' c hc))
  refine New.mk fun h5 _ hb5 x5 hs5 => ?_
  have V : View IntE h5 ⟨some ⟨h4.size, 0, none⟩, 1, 1⟩ [1] := (Own.lit (E := IntE) (l := [1]) hb5 rfl (by simp [maxLen])).view
  refine bCrash_ok (keep := ⟨some ⟨h4.size, 0, none⟩, 1, 1⟩) (B4.ext x5) V fun b' h6 S6 B6 N6 m6 f6 => ⟨_, rfl, ?_⟩
  rw [crash_awake] at N6
  refine bRead_ok N6 ⟨_, _, rfl, ?_⟩
  rw [read_one]
  refine bRead_ok B6 ⟨_, _, rfl, ?_⟩
  rw [read_off]
  refine PIf.yes (by decide) (PIf.yes (by decide) (PIf.yes (by decide) (PIf.yes (by decide) (PIf.yes (by rw [sEq_iff]; simp [app_nil]) ?_))))
  exact H h6 ((x04.trans x5).then (m6.weak fun c _ hc => .inr (f4' c hc)))

/-! ### BoxNone -/
theorem BoxNone_ok {A : Amb} {h : Heap} {name : ByteArray} {keep : Sl} {R : Value → Heap → Prop} (H : ∀ h', Ext h h' → R (.bool true) h') :
    HCalls A P f_wherrylaw03_BoxNone #[.string name, .slice keep.p keep.len keep.cap] h R := by
  refine ok_wherrylaw03_BoxNone ?_
  unfold F_wherrylaw03_BoxNone
  refine awake03_ok fun h1 x1 => ⟨_, rfl, PIf.no rfl ?_⟩
  refine ok_box_Box_Fuel (PIf.no rfl ⟨rfl, ?_⟩)
  refine ok_box_Box_Read (off_nil ⟨_, rfl, PIf.yes rfl ⟨_, _, rfl, ?_⟩⟩)
  refine ok_box_Box_List (off_nil ⟨_, rfl, PIf.yes rfl ⟨⟨none, 0, 0⟩, _, rfl, ?_⟩⟩)
  refine PIf.yes rfl (PIf.yes rfl (PIf.yes rfl ?_))
  refine ok_box_Box_Append (off_nil ⟨_, rfl, PIf.yes rfl ⟨_, rfl, PIf.yes rfl ?_⟩⟩)
  refine ok_box_Box_Sync (off_nil ⟨_, rfl, PIf.yes rfl ⟨_, rfl, PIf.yes rfl ?_⟩⟩)
  refine ok_box_Box_Delete (off_nil ⟨_, rfl, PIf.yes rfl ⟨_, rfl, PIf.yes rfl ?_⟩⟩)
  refine ok_box_Box_Crash (PIf.yes rfl ⟨_, rfl, ?_⟩)
  exact H h1 x1

/-! ### BoxParts -/
def catS (l : List ByteArray) : ByteArray := l.foldl (· ++ ·) bs0
theorem catS_snoc (l : List ByteArray) (x : ByteArray) : catS (l ++ [x]) = catS l ++ x := by simp [catS]
def sumS (l : List ByteArray) : Nat := (l.map (·.size + 1)).sum
theorem sumS_snoc (l : List ByteArray) (x : ByteArray) : sumS (l ++ [x]) = sumS l + (x.size + 1) := by simp [sumS]
theorem catS_size (l : List ByteArray) : (catS l).size ≤ sumS l := by
  suffices h : ∀ (l : List ByteArray) (a : ByteArray), (l.foldl (· ++ ·) a).size ≤ a.size + sumS l by
    have := h l bs0; rw [sz0, Nat.zero_add] at this; exact this
  intro l
  induction l with
  | nil => intro a; simp [sumS]
  | cons x l ih => intro a; rw [List.foldl_cons]; have := ih (a ++ x); rw [size_app] at this; simp [sumS] at this ⊢; omega
theorem sumS_take (i : Nat) : ∀ (l : List ByteArray), sumS (l.take i) ≤ sumS l := by
  induction i with
  | zero => intro l; simp [sumS]
  | succ i ih => intro l; cases l with
    | nil => simp
    | cons x l => have := ih l; simp [sumS] at this ⊢; omega
theorem app_assoc (a b c : ByteArray) : (a ++ b) ++ c = a ++ (b ++ c) := ByteArray.append_assoc

/-- a box that has a file's parts: what was firm, what was added since -/
def partM (o : Option (ByteArray × ByteArray)) (l : List ByteArray) : Option (ByteArray × ByteArray) := l.foldl (fun o d => some (oneA d o)) o
theorem partM_snoc (o : Option (ByteArray × ByteArray)) (l : List ByteArray) (x : ByteArray) : partM o (l ++ [x]) = some (oneA x (partM o l)) := by simp [partM]
theorem snocInd {motive : List ByteArray → Prop} (nil : motive []) (snoc : ∀ l y, motive l → motive (l ++ [y])) (l : List ByteArray) : motive l := by
  rw [← List.reverse_reverse l]
  induction l.reverse with
  | nil => exact nil
  | cons x r ih => rw [List.reverse_cons]; exact snoc _ _ ih
theorem partM_none : ∀ {l : List ByteArray}, l ≠ [] → partM none l = some (bs0, catS l) := by
  intro l hl
  obtain ⟨l, x, rfl⟩ : ∃ l' x, l = l' ++ [x] := ⟨_, _, (List.dropLast_concat_getLast hl).symm⟩
  clear hl
  suffices h : ∀ l : List ByteArray, ∀ x, partM none (l ++ [x]) = some (bs0, catS (l ++ [x])) from h l x
  intro l
  induction l using snocInd with
  | nil => intro x; simp [partM, oneA, catS, nil_app]
  | snoc l y ih => intro x; rw [partM_snoc, ih y]; show some (bs0, catS (l ++ [y]) ++ x) = _; rw [← catS_snoc]
theorem partM_some (a s : ByteArray) (l : List ByteArray) : partM (some (a, s)) l = some (a, l.foldl (· ++ ·) s) := by
  induction l generalizing s with
  | nil => rfl
  | cons x l ih => show partM (some (oneA x (some (a, s)))) l = _; exact ih (s ++ x)
theorem partM_sz (o : Option (ByteArray × ByteArray)) (l : List ByteArray) : oneSz (partM o l) ≤ oneSz o + sumS l := by
  induction l generalizing o with
  | nil => simp [partM, sumS]
  | cons x l ih =>
    have := ih (some (oneA x o))
    have h2 : oneSz (some (oneA x o)) ≤ oneSz o + (x.size + 1) := by
      cases o with
      | none => simp [oneA, oneSz, sz0]
      | some y => simp [oneA, oneSz, size_app]; omega
    show oneSz (partM (some (oneA x o)) l) ≤ _
    simp [sumS] at this ⊢
    omega
end Go.Lf.G
