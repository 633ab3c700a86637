/- Lemmas for a law of this seat, part 29: contracts of the functions that it reaches, and the plain law. No condition but those of each lemma. -/
import Derived.Test.YtepceidajmedeaaGreatDoorWal28
import Derived.Test.YtepceidajmedeaaGreatDoorWal22

namespace Go.Proofs.YtepceidajmedeaaGreatDoor
open Go.RowKit CW

set_option maxHeartbeats 2000000 in
set_option maxRecDepth 100000 in
theorem new8_any {M : Nat → Prop} (room most : Int) (w : World) (hM : ∀ k, M k → k < w.heap.size) :
    Calls Tryz.prog 18 #[.int .i64 room, .int .i64 most] w fun e w' => ∃ v', e = .returned v' ∧ Ref8 M w' (startL room most) v' ∧ Below w.heap.size w w' := by
  have hA := boxF w (.cells #[.int .i64 0, .slice none 0 0, .int .i64 0, .bool false, .int .i64 0, .int .i64 0, .int .i64 0, .int .i64 0] 37)
  have hdo : ∀ W, Below w.heap.size w W → Calls Tryz.prog 66 #[.agg (dk5 (max room 0) (.slice none 0 0) 0 false), op5 1 (stV (nameB 1)) (.string ⟨#[]⟩) (.slice none 0 0)] W fun e w' => ∃ v', e = .returned (.tuple #[v', .int .i64 (doA (newA room) .create (nameB 1)).2]) ∧ Ref5 (fun k => k < W.heap.size) w' (doA (newA room) .create (nameB 1)).1 v' ∧ Below W.heap.size W w' := fun W hW =>
    do5_any (M := fun k => k < W.heap.size) (newA room) _ W ⟨.slice none 0 0, [], rfl, ⟨.inl ⟨⟨_, rfl⟩, rfl, rfl⟩, fun p hp => by cases hp⟩, rfl⟩ (fun k hk => hk) .create (nameB 1) _ _ trivial (fun m h => by cases h) (by rw [(newA_ok room).1]; omega) (by rw [(newA_ok room).1]; omega) (by rw [nameB_length]; omega) (by rw [(newA_ok room).2]; omega) (by show (0 : Nat) ≤ _; omega)
  have hnb : stV (nameB 1) = .string ⟨#[108, 111, 103, 45, 48, 48, 48, 48, 48, 48, 48, 49]⟩ := by kernel_rfl
  rw [hnb] at hdo
  have HR : Hid (startL room most = ⟨(doA (newA room) .create (nameB 1)).1, most, 1, 0, 0⟩) := rfl
  obtain ⟨R, hR⟩ : ∃ R, doA (newA room) .create (nameB 1) = R := ⟨_, rfl⟩
  rw [hR] at hdo HR
  clear hR hnb
  unfold dk5 op5 at hdo
  go_enter Tryz.func18, Tryz.ntmps18
  go_wp2_with fail
  have hdo1 := hdo _ hA.1
  refine hdo1.mono ?_
  rintro e w2 ⟨v2, rfl, hr2, hb2⟩
  obtain ⟨sv2, ps2, rfl, hs2, hps2⟩ := hr2
  obtain ⟨a2, cap2, rfl, hn2, hc2, _, _⟩ := hs2.open
  unfold dk5
  have k0 := (hb2.block w.heap.size (by rw [hA.2.1]; omega)).trans hA.2.2
  have hz2 := hb2.size
  rw [hA.2.1] at hz2
  have hB2 := hA.1.trans (hb2.mono (by rw [hA.2.1]; omega))
  have hs2' := hs2.fr (M' := fun k => M k ∨ k = w.heap.size) (F := fun _ => False) (Fr.refl _ _) (fun _ h => h.elim) (fun k hk h => by
    rw [hA.2.1]
    rcases h with h | h
    · have := hM k h; omega
    · omega)
  clear hdo hdo1 hb2 hA hs2
  have kA : ∀ C, (w2.alloc C).heap[w.heap.size]? = some (.cells #[.int .i64 0, .slice none 0 0, .int .i64 0, .bool false, .int .i64 0, .int .i64 0, .int .i64 0, .int .i64 0] 37 (0, 0)) := fun C => ((boxF w2 C).1.block w.heap.size (by omega)).trans k0
  have hBA : ∀ C, Below w2.heap.size w2 (w2.alloc C) := fun C => (boxF w2 C).1
  go_wp2_with ((with_reducible refine at_sto ?_); refine wpList_store_in rfl (ty := 37) (x := .tmp 4) (y := .tmp 17) rfl w.heap.size 0 37 (.agg #[.int .i64 R.1.room, .slice a2 ps2.length cap2, .int .i64 R.1.plan, .bool R.1.down, .int .i64 most, .int .i64 1, .int .i64 0, .int .i64 0]) [.int .i64 0, .slice none 0 0, .int .i64 0, .bool false, .int .i64 0, .int .i64 0, .int .i64 0, .int .i64 0] rfl rfl (kA _) (by simp [Value.cells]) size37 (by intro u hu; simp [Value.cells] at hu; rcases hu with rfl | rfl | rfl | rfl | rfl | rfl | rfl | rfl <;> rfl) ?_; intro W9 hE1 hE2 hE3; have hF9 := (Fr.of_below (hBA _) (F := fun k => k = w.heap.size)).trans hE2 (fun _ _ h => h); replace hE1 : W9.heap[w.heap.size]? = some (.cells #[.int .i64 R.1.room, .slice a2 ps2.length cap2, .int .i64 R.1.plan, .bool R.1.down, .int .i64 most, .int .i64 1, .int .i64 0, .int .i64 0] 37 (0, 0)) := hE1)
  refine bodyPost_ret (results_cell_row (fr := (0, 0)) Tryz.results18 _ _ w.heap.size 37 _ _ rfl hE1 Tryz.underlying37 rfl (by kernel_rfl)) rfl ?_
  have hBf : Below w.heap.size w W9 := hB2.trans (hF9.below (by omega) (by intro q h1 h2; omega))
  rw [HR.out]
  exact ⟨_, rfl, ⟨.slice a2 ps2.length cap2, ps2, rfl, hs2'.fr hF9 (fun k hk => .inr hk) (fun _ _ h => .inl h), hps2⟩, hBf⟩

end Go.Proofs.YtepceidajmedeaaGreatDoor
