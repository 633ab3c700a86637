/- Lemmas for a law of this seat, part 3: contracts of the functions that it reaches, and the plain law. No condition but those of each lemma. -/
import Derived.Test.YtepceidajmedeaaGreatDoorWal1

namespace Go.Proofs.YtepceidajmedeaaGreatDoor.walRecords
open Go.ChangeShapes Go.WideShapes Go.ChangeAt Go.RowKit

theorem fact_joined : joinedFacts Tryz.pinned.checked.prog 3 Tryz.f3 (OpenSpec.ofChange Rows.walRecordsSpec).bare Rows.walRecordsRow = true := by kernel_rfl

end Go.Proofs.YtepceidajmedeaaGreatDoor.walRecords
