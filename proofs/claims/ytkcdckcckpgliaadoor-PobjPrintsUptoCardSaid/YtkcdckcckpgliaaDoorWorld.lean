/- A world for the rows' witnesses: the settled one, with the listed variables as their initialisers lay them. -/
import Derived.Test.YtkcdckcckpgliaaDoorCards
import Derived.Test.YtkcdckcckpgliaaDoorTie
import Derived.WalkKit
import Derived.ProofKit
import Derived.OpenShut
import Derived.ShutString
import Derived.Deep.DeepHandedRow
import Derived.Deep.DeepWitnessRowRef
import Derived.Lib.LaidTab
namespace Go.Proofs.YtkcdckcckpgliaaDoor
open Go.ChangeShapes Go.WideShapes Go.ChangeAt Go.RowKit

theorem own : ownKnob Tryd.prog.godebug = none := by kernel_rfl
def tabCells : DataW Unit → Array Value
  | .agg l => (l.map fun d => match d with | .lit (.int k n) => Value.int k n | _ => undef).toArray
  | _ => #[]
noncomputable def low : Nat := (World.holding Tryd.prog default ⟨#[], #[], []⟩).heap.size
abbrev tooLarge : ByteArray := ⟨#[98, 121, 116, 101, 115, 46, 66, 117, 102, 102, 101, 114, 58, 32, 116, 111, 111, 32, 108, 97, 114, 103, 101]⟩
/-- The variable's cells are these. -/
def setVar (g : Nat) (cs : Array Value) (h : Array Obj) : Array Obj := h.modify g fun
  | .cells _ t frozen => .cells cs t frozen
  | o => o
noncomputable def laidWorld (os : Os) : World :=
  let w0 := World.holding Tryd.prog os ⟨#[.cells #[.string tooLarge] 114], #[], []⟩
  { w0 with heap := setVar 3 (tabCells Rows.laid_math_bits_deBruijn32tab) (setVar 4 (tabCells Rows.laid_math_bits_deBruijn64tab) (setVar 1 (tabCells Rows.laid_internal_strconv_uint64pow10) (setVar 0 #[.iface 100 (.pointer (some ⟨low, 0, none⟩))] w0.heap))) }
end Go.Proofs.YtkcdckcckpgliaaDoor
