/- Lemmas for a law of this seat, part 2: contracts of the functions that it reaches, and the plain law. No condition but those of each lemma. -/
import Derived.Test.YtepceidajmedeaaGreatDoorWal1

namespace Go.Proofs.YtepceidajmedeaaGreatDoor.walRecords
open Go.ChangeShapes Go.WideShapes Go.ChangeAt Go.RowKit

theorem fact_name : Tryz.pinned.checked.prog.funcNamed Rows.walRecordsRow.func = some 3 := by kernel_rfl
theorem fact_inst : Tryz.f3.isInstance Tryz.pinned.checked.prog Rows.walRecordsRow.origin Rows.walRecordsRow.targs := of_decide_eq_true (by kernel_rfl)
theorem fact_wrap : Tryz.f3.isWrapper Tryz.pinned.checked.prog Rows.walRecordsRow.wrapper Rows.walRecordsRow.mainSum := by
  unfold Func.isWrapper
  first | (rw [if_pos (by decide +kernel)]; kernel_rfl) | (rw [if_neg (by decide +kernel)]; exact ⟨rfl, rfl⟩)

end Go.Proofs.YtepceidajmedeaaGreatDoor.walRecords
