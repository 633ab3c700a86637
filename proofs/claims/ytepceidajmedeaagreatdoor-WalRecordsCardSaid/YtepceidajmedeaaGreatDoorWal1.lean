/- Lemmas for a law of this seat, part 1: contracts of the functions that it reaches, and the plain law. No condition but those of each lemma. -/
import Derived.Carry
import Derived.Deep.DeepHandedRow
import Derived.OpenShut
import Derived.ProofKit
import Derived.SevenTiedAt
import Derived.Test.YtepceidajmedeaaGreatDoorCards
import Derived.Test.YtepceidajmedeaaGreatDoorTie
import Derived.WalkKit

namespace Go.Proofs.YtepceidajmedeaaGreatDoor
open Go.ChangeShapes Go.WideShapes Go.ChangeAt Go.RowKit

theorem ownKnob0 : ownKnob Tryz.prog.godebug = none := by kernel_rfl
theorem laidOut0 : laidOutB Tryz.prog = true := by kernel_rfl

/-- A number's cell. -/
def cellOf : DataW Unit → Value
  | .lit (.int k n) => .int k n
  | _ => .int .u8 0
def cellsOf1 : DataW Unit → Array Value
  | .agg l => (l.map cellOf).toArray
  | _ => #[]
def cellsOf2 : DataW Unit → Array Value
  | .agg l => (l.flatMap (fun x => match x with | .agg y => y.map cellOf | _ => [])).toArray
  | _ => #[]

def setTable (h : Array Obj) (g : Nat) (cs : Array Value) : Array Obj := h.modify g fun
  | .cells _ t frozen => .cells cs t frozen
  | o => o

def setTables (h : Array Obj) : Array Obj :=
  setTable (setTable (setTable (setTable (setTable h 4 (cellsOf1 Rows.laid_math_bits_deBruijn32tab)) 5 (cellsOf1 Rows.laid_math_bits_deBruijn64tab)) 0 (cellsOf1 Rows.laid_internal_strconv_uint64pow10)) 3 (cellsOf2 Rows.laid_unicode_utf8_acceptRanges)) 2 (cellsOf1 Rows.laid_unicode_utf8_first)

noncomputable def laidWorld (os : Os) : World :=
  let w0 := World.holding Tryz.prog os ⟨#[], #[], []⟩
  { w0 with heap := setTables w0.heap }

theorem laid_met1 (os : Os) (args : Array Value) : laidMet Tryz.prog Rows.walRecordsRow.laid ((laidWorld os).forCall (fun _ _ => 0) ⟨#[], args, []⟩).memory :=
  laidMet_of_run' 8 (by kernel_rfl) (by kernel_rfl)

end Go.Proofs.YtepceidajmedeaaGreatDoor
