/- Lemmas for a law of this seat, part 17: contracts of the functions that it reaches, and the plain law. No condition but those of each lemma. -/
import Derived.Test.YtepceidajmedeaaGreatDoorWal9
import Derived.BigQuiet
import Derived.Deep.QuietTactic
import Derived.Deep.RegionHeld
import Derived.Deep.RegionHeld3

namespace Go.Proofs.YtepceidajmedeaaGreatDoor
open Go.RowKit CW

theorem same1_any (v v' : Value) (bs bs' : Bytes) (w : World) (hv : SlB (fun _ => False) w v bs) (hv' : SlB (fun _ => False) w v' bs') :
    Calls Tryz.prog 71 #[v, v'] w fun e w' => e = .returned (.bool (bs == bs')) ∧ w = w' := by
  have k1 := run_str_of Tryz.underlying30 Tryz.underlying5 Tryz.underlying9 hv
  have k2 := run_str_of Tryz.underlying30 Tryz.underlying5 Tryz.underlying9 hv'
  go_enter Tryz.func71, Tryz.ntmps71
  go_wp2
  go_ret
  exact ⟨rfl, rfl⟩

set_option maxRecDepth 100000 in
theorem open1_any (M : Nat → Prop) (v : Value) (bs : Bytes) (w : World) (hv : SlB M w v bs) :
    Calls Tryz.prog 166 #[v] w fun e w' => ∃ v' ok, e = .returned (.tuple #[v', .bool ok]) ∧ Below w.heap.size w w' ∧
      (openB bs = none ∧ v' = .slice none 0 0 ∧ ok = false ∨ ∃ x, openB bs = some x ∧ ok = true ∧ SlB M w' v' x) := by
  by_cases h4 : bs.length < 4
  · obtain ⟨a, cap, rfl, hn, hcap, _, hcell⟩ := Row.open hv
    have hno : openB bs = none := by unfold openB; rw [if_pos h4]
    have hd : decide ((bs.length : Int) - 4 < 0) = true := by simp; omega
    clear hcell hv
    go_enter Tryz.func166, Tryz.ntmps166
    go_wp2
    go_quiet (fail)
    go_wp2
    go_ret2
    exact ⟨_, _, rfl, ⟨rfl, rfl, rfl, Nat.le_refl _, fun _ _ => rfl⟩, .inl ⟨hno, rfl, rfl⟩⟩
  · obtain ⟨b, off, cap, rfl, hn, hcap, hb, hm, hcell⟩ := hv.open (by omega)
    obtain ⟨n, hnn⟩ : ∃ n, n + 4 = bs.length := ⟨bs.length - 4, by omega⟩
    have hL : Hid (n + 4 = bs.length) := hnn
    have hd : decide ((n : Int) < 0) = false := by simp
    have hsub : (bs.length : Int) - 4 = (n : Int) := by omega
    have hop : openB bs = if le4 (CW.sum (bs.take n)) = bs.drop n then some (bs.take n) else none := by
      unfold openB
      rw [if_neg h4, show bs.length - 4 = n by omega]
    have HO : Hid (openB bs = if le4 (CW.sum (bs.take n)) = bs.drop n then some (bs.take n) else none) := hop
    clear hop
    have htk := hv.take n (by omega)
    have hdr := hv.drop n (by omega)
    have hcv : ∀ W, Below w.heap.size w W → (convert 30 9 (.slice (some ⟨b, off + n, none⟩) (bs.length - n) (cap - n))).run Tryz.prog W = .ok (.string ⟨(bs.drop n).toArray⟩) W :=
      fun W h => run_str_of Tryz.underlying30 Tryz.underlying5 Tryz.underlying9 (hdr.below h)
    have g1 : (n : Int) ≤ (bs.length : Int) := by omega
    have g2 : (n : Int) ≤ (cap : Int) := by omega
    have g3 : ¬ cap = n := by omega
    clear hcell hnn h4
    go_enter Tryz.func166, Tryz.ntmps166
    go_wp2
    go_region_held (fun W => Below w.heap.size w W) (first | assumption | exact (Below.refl _ _).drew)
      (first
        | (go_at_call 163; refine (sum1_any _ _ _ (htk.any.below ‹_›)).mono ?_; rintro e w' ⟨rfl, rfl⟩)
        | (go_at_call 133; refine (little_any _ _ (sum_lt _)).mono ?_; rintro e w2 ⟨v2, rfl, hs2', hb2⟩; have hs2 := SlB.of_owns hs2'; have k2 := run_str_of Tryz.underlying30 Tryz.underlying5 Tryz.underlying9 hs2; have hbb := Below.trans ‹Below w.heap.size w _› (hb2.mono (Below.size ‹Below w.heap.size w _›))))
    go_wp2
    · have h : (!le4 (CW.sum (bs.take n)) == bs.drop n) = true := by assumption
      have hne : ¬ le4 (CW.sum (bs.take n)) = bs.drop n := by simpa using h
      go_ret2
      exact ⟨_, _, rfl, by assumption, .inl ⟨by rw [HO.out, if_neg hne], rfl, rfl⟩⟩
    · have h : (!le4 (CW.sum (bs.take n)) == bs.drop n) = false := by assumption
      have he : le4 (CW.sum (bs.take n)) = bs.drop n := by simpa using h
      go_ret2
      exact ⟨_, _, rfl, by assumption, .inr ⟨_, by rw [HO.out, if_pos he], rfl, htk.below (by assumption)⟩⟩

end Go.Proofs.YtepceidajmedeaaGreatDoor
