/- Lemmas for a law of this seat, part 35: contracts of the functions that it reaches, and the plain law. No condition but those of each lemma. -/
import Derived.Test.YtepceidajmedeaaGreatDoorWal33
import Derived.Test.YtepceidajmedeaaGreatDoorWal34

namespace Go.Proofs.YtepceidajmedeaaGreatDoor
open Go.RowKit CW

set_option maxRecDepth 100000 in
theorem walrec_many (m : Nat) (v : Value) (rs : List Bytes) (w : World) (hv : SlBB (fun _ => False) w v rs) (hl : rs.length ≤ 8796093022208) (hf : fewB rs = false) :
    Calls Tryz.prog 3 #[.int .u16 (m : Int), v] w fun e w' => e = .returned (.bool true) ∧ Below w.heap.size w w' := by
  have hfw := few6_any v rs w hv hl
  rw [hf] at hfw
  have hal := alive_any w
  obtain ⟨a, cap, rfl, hn, hc, hnone, hcell⟩ := hv.open
  clear hcell hnone
  go_enter Tryz.func3, Tryz.ntmps3
  go_wp2_with (first
    | (go_at_call 14; refine hfw.mono ?_; rintro e w1 ⟨rfl, rfl⟩)
    | (go_at_call 15; refine hal.mono ?_; rintro e w1 ⟨rfl, hb⟩))
  go_ret
  exact ⟨rfl, hb⟩

theorem walrec_any (m : Nat) (v : Value) (rs : List Bytes) (w : World) (hm : m ≤ 65535) (hv : SlBB (fun _ => False) w v rs) (hl : rs.length ≤ 8796093022208) :
    Calls Tryz.prog 3 #[.int .u16 (m : Int), v] w fun e w' => e = .returned (.bool true) ∧ Below w.heap.size w w' := by
  rcases hf : fewB rs with _ | _
  · exact walrec_many m v rs w hv hl hf
  · exact walrec_few m v rs w hm hv hl hf

end Go.Proofs.YtepceidajmedeaaGreatDoor
