/-
  What the rows list: the table that the numerals are read from; a world that holds what is listed.
-/
import Derived.Test.YtpgiajfbponigaaDoorLfO1
import Derived.Test.YtpgiajfbponigaaDoorLfW2
import Derived.Test.YtpgiajfbponigaaDoorCards
import Derived.Test.YtpgiajfbponigaaDoorTie
import Derived.Deep.DeepHandedRow
import Derived.Lib.LaidTab
import Derived.Stop.LaidErr
set_option maxRecDepth 100000
set_option linter.unusedVariables false
set_option linter.unusedSimpArgs false
namespace Go.Lf.G
open Go Go.ChangeShapes Go.WideShapes Go.ChangeAt Go.RowKit Go.Proofs.YtpgiajfbponigaaDoor

def listed : List (String × DataW Unit) := Rows.ringFewRow.laid
theorem listed_eq : ∃ x y : String × DataW Unit, listed = [x, y, (tabName, Lib.tabData .u64 Lib.pow10Tab)] := ⟨_, _, rfl⟩
theorem g_tab : P.globalNamed tabName = some 0 := by kernel_rfl
theorem g_type : (P.globals[0]?).map (·.type) = some t_20_uint64 := by kernel_rfl
theorem P_tab : P.underlying t_20_uint64 = some (.array 20 t_uint64) := by kernel_rfl
theorem P_u64' : P.underlying t_uint64 = some (.int .u64) := by kernel_rfl
theorem c_u64 : P.cellsOf t_uint64 = 1 := by kernel_rfl
theorem c_tab : P.cellsOf t_20_uint64 = 20 := by kernel_rfl
theorem no_handles : listed.filter (fun x => x.2.handleName?.isSome) = [] := by kernel_rfl

theorem met_of {W : World} (h : laidMetH P listed W) : laidMet P listed W := by
  unfold laidMetH at h
  rw [no_handles] at h
  exact h

theorem tab_met {W : World} (h : laidMetH P listed W) : Lib.TabIs P W tabName .u64 Lib.pow10Tab := by
  have h1 := met_of h
  obtain ⟨x, y, e⟩ := listed_eq
  rw [e] at h1
  exact Lib.tabIs_of_head (rest := []) g_tab g_type P_tab P_u64' c_u64 c_tab (laidMet.tail (laidMet.tail h1))

theorem Tab_of {W : World} (h : laidMetH P listed W) : Tab W.heap := fun A n => by
  have h1 := tab_met h
  unfold Lib.TabIs World.var? at h1 ⊢
  exact h1

theorem sum_mem {l : List ByteArray} {x : ByteArray} (h : x ∈ l) : x.size + 1 ≤ (l.map (·.size + 1)).sum := by
  induction l with
  | nil => cases h
  | cons y l ih =>
    simp only [List.map_cons, List.sum_cons]
    rcases List.mem_cons.1 h with rfl | h
    · omega
    · have := ih h; omega
theorem sum_len (l : List ByteArray) : l.length ≤ (l.map (·.size + 1)).sum := by
  induction l with
  | nil => simp
  | cons y l ih => simp only [List.map_cons, List.sum_cons, List.length_cons]; omega

/-- the integers of a listed table, as cells -/
def cellsOfData : DataW Unit → Array Value
  | .agg ds => (ds.map fun | .lit (.int k z) => Value.int k z | _ => .bool false).toArray
  | _ => #[]

def fill (d : DataW Unit) : Obj → Obj
  | .cells _ t frozen => .cells (cellsOfData d) t frozen
  | o => o
/-- a world that holds what is listed -/
noncomputable def laidWorld (os : Os) : World :=
  { World.holding P os ⟨#[], #[], []⟩ with heap := (((World.holding P os ⟨#[], #[], []⟩).heap.modify 0 (fill Rows.laid_internal_strconv_uint64pow10)).modify 1 (fill Rows.laid_math_bits_deBruijn32tab)).modify 2 (fill Rows.laid_math_bits_deBruijn64tab) }
theorem laid_met_at (os : Os) (args : Array Value) : laidMet P listed ((laidWorld os).forCall (fun _ _ => 0) ⟨#[], args, []⟩).memory :=
  laidMet_of_run' 8 (by kernel_rfl) (by kernel_rfl)
end Go.Lf.G
