/- Lemmas for a law of this seat, part 31: contracts of the functions that it reaches, and the plain law. No condition but those of each lemma. -/
import Derived.Test.YtepceidajmedeaaGreatDoorWal28

namespace Go.Proofs.YtepceidajmedeaaGreatDoor
open Go.RowKit CW

/-- The first drawn statement: the change of the disk, laid into a new variable. -/
theorem lg8_eq (room : Int) (sv : Value) (plan : Int) (down : Bool) (most : Int) (n size waiting : Nat) : lg8 room sv plan down most n size waiting = #[.int .i64 room, sv, .int .i64 plan, .bool down, .int .i64 most, .int .i64 (n : Int), .int .i64 (size : Int), .int .i64 (waiting : Int)] := rfl

theorem size134' : (Tryz.prog.info? 3).map (·.size) = some 1 := by kernel_rfl

set_option maxHeartbeats 4000000 in
set_option maxRecDepth 100000 in
theorem rot8_any {M : Nat → Prop} (L : LogA) (v : Value) (w : World) (h : Ref8 M w L v) (hM : ∀ k, M k → k < w.heap.size) (hn1 : 1 ≤ L.n) (hn : L.n + 1 < 100) (hp0 : 0 ≤ L.D.plan) (hp1 : L.D.plan ≤ 4611686018427387904) (hfl : L.D.files.length < 1048576) (hus : usedF L.D.files ≤ 1099511627776)
    (hq0 : 0 ≤ (doA L.D .sync (nameB L.n)).1.plan) (hq1 : (doA L.D .sync (nameB L.n)).1.plan ≤ 4611686018427387904) (hqf : (doA L.D .sync (nameB L.n)).1.files.length < 1048576) (hqu : usedF (doA L.D .sync (nameB L.n)).1.files ≤ 1099511627776) :
    Calls Tryz.prog 68 #[v] w fun e w' => ∃ v', e = .returned (.tuple #[v', .int .i64 (rotA L).2]) ∧ Ref8 M w' (rotA L).1 v' ∧ Below w.heap.size w w' := by
  obtain ⟨sv, ps, rfl, hs, hps⟩ := h
  obtain ⟨a, cap, rfl, hn', hc, hnone, _⟩ := hs.open
  have hrA : rotA L = if (doA L.D .sync (nameB L.n)).2 ≠ 0 then ({ L with D := (doA L.D .sync (nameB L.n)).1 }, (doA L.D .sync (nameB L.n)).2) else if (doA (doA L.D .sync (nameB L.n)).1 .create (nameB (L.n + 1))).2 ≠ 0 then ({ L with D := (doA (doA L.D .sync (nameB L.n)).1 .create (nameB (L.n + 1))).1 }, (doA (doA L.D .sync (nameB L.n)).1 .create (nameB (L.n + 1))).2) else (⟨(doA (doA L.D .sync (nameB L.n)).1 .create (nameB (L.n + 1))).1, L.most, L.n + 1, 0, 0⟩, 0) := rfl
  obtain ⟨⟨room, files, plan, down⟩, most, n, sz, wt⟩ := L
  simp only at hn1 hn hp0 hp1 hfl hus hps
  have hdo : ∀ W, Below w.heap.size w W → Calls Tryz.prog 66 #[.agg (dk5 room (.slice a ps.length cap) plan down), op5 3 (stV (nameB n)) (.string ⟨#[]⟩) (.slice none 0 0)] W fun e w' => ∃ v', e = .returned (.tuple #[v', .int .i64 (doA ⟨room, files, plan, down⟩ .sync (nameB n)).2]) ∧ Ref5 (fun k => M k ∨ (w.heap.size ≤ k ∧ k < W.heap.size)) w' (doA ⟨room, files, plan, down⟩ .sync (nameB n)).1 v' ∧ Below W.heap.size W w' := fun W hW =>
    do5_any (M := (fun k => M k ∨ (w.heap.size ≤ k ∧ k < W.heap.size))) ⟨room, files, plan, down⟩ _ W ⟨_, ps, rfl, hs.fr (F := fun _ => False) (Fr.of_below hW) (fun _ h => h.elim) (fun k hk h => h.elim id (fun h => by omega)), hps⟩ (fun k hk => by have := hW.size; rcases hk with hk | hk; exact Nat.lt_of_lt_of_le (hM k hk) hW.size; exact hk.2) .sync (nameB n) _ _ trivial (fun m h => by cases h) hp0 hp1 (by rw [nameB_length]; omega) hfl hus
  have hnm := fun W (c0 c1 c2 c3 c4 c6 c7 : Value) => name8_any c0 c1 c2 c3 c4 c6 c7 n W hn1 (by omega)
  simp only at hrA hq0 hq1 hqf hqu
  obtain ⟨R1, hR1⟩ : ∃ R, doA ⟨room, files, plan, down⟩ .sync (nameB n) = R := ⟨_, rfl⟩
  rw [hR1] at hrA hq0 hq1 hqf hqu hdo
  have HRA : Hid (rotA ⟨⟨room, files, plan, down⟩, most, n, sz, wt⟩ = if R1.2 ≠ 0 then (⟨R1.1, most, n, sz, wt⟩, R1.2) else if (doA R1.1 .create (nameB (n + 1))).2 ≠ 0 then (⟨(doA R1.1 .create (nameB (n + 1))).1, most, n, sz, wt⟩, (doA R1.1 .create (nameB (n + 1))).2) else (⟨(doA R1.1 .create (nameB (n + 1))).1, most, n + 1, 0, 0⟩, 0)) := hrA
  clear hrA hR1 hus hfl hp0 hp1
  generalize rotA ⟨⟨room, files, plan, down⟩, most, n, sz, wt⟩ = RR at *
  unfold dk5 op5 stV at hdo
  unfold lg8
  generalize nameB n = nb at *
  have hB0 := (boxF w (.cells #[.int .i64 room, .slice a ps.length cap, .int .i64 plan, .bool down, .int .i64 most, .int .i64 (n : Int), .int .i64 (sz : Int), .int .i64 (wt : Int)] 37))
  have hB2 := (boxF (w.alloc (.cells #[.int .i64 room, .slice a ps.length cap, .int .i64 plan, .bool down, .int .i64 most, .int .i64 (n : Int), .int .i64 (sz : Int), .int .i64 (wt : Int)] 37)) (.cells #[.int .i64 0, .slice none 0 0, .int .i64 0, .bool false, .int .i64 0, .int .i64 0, .int .i64 0, .int .i64 0] 37))
  have i1 : ¬ (99999999 : Int) ≤ (n : Int) := by omega
  go_enter Tryz.func68, Tryz.ntmps68
  go_wp2_with fail
  have k0 := (hB2.1.block w.heap.size (by rw [hB0.2.1]; omega)).trans hB0.2.2
  have k1 := hB2.2.2
  rw [hB0.2.1] at k1
  have hz0 := hB2.2.1
  rw [hB0.2.1] at hz0
  have hBW := hB0.1.trans (hB2.1.mono (by rw [hB0.2.1]; omega))
  generalize ((w.alloc (.cells #[.int .i64 room, .slice a ps.length cap, .int .i64 plan, .bool down, .int .i64 most, .int .i64 (n : Int), .int .i64 (sz : Int), .int .i64 (wt : Int)] 37)).alloc (.cells #[.int .i64 0, .slice none 0 0, .int .i64 0, .bool false, .int .i64 0, .int .i64 0, .int .i64 0, .int .i64 0] 37)) = W0 at *
  have hl0 : w.heap.size < W0.heap.size := by omega
  have hSS : ∀ W, Below W0.heap.size W0 W → (Below W0.heap.size W0 W ∧ W.cell? ⟨w.heap.size, 0, none⟩ = some (.int .i64 room) ∧ W.cell? ⟨w.heap.size, 1, none⟩ = some (.slice a ps.length cap) ∧ W.cell? ⟨w.heap.size, 2, none⟩ = some (.int .i64 plan) ∧ W.cell? ⟨w.heap.size, 3, none⟩ = some (.bool down) ∧ W.cell? ⟨w.heap.size, 4, none⟩ = some (.int .i64 most) ∧ W.cell? ⟨w.heap.size, 5, none⟩ = some (.int .i64 (n : Int)) ∧ W.cell? ⟨w.heap.size, 6, none⟩ = some (.int .i64 (sz : Int)) ∧ W.cell? ⟨w.heap.size, 7, none⟩ = some (.int .i64 (wt : Int))) := fun W hW => ⟨hW, cells8 ((hW.block _ hl0).trans k0)⟩
  have hSd : ∀ W, (Below W0.heap.size W0 W ∧ W.cell? ⟨w.heap.size, 0, none⟩ = some (.int .i64 room) ∧ W.cell? ⟨w.heap.size, 1, none⟩ = some (.slice a ps.length cap) ∧ W.cell? ⟨w.heap.size, 2, none⟩ = some (.int .i64 plan) ∧ W.cell? ⟨w.heap.size, 3, none⟩ = some (.bool down) ∧ W.cell? ⟨w.heap.size, 4, none⟩ = some (.int .i64 most) ∧ W.cell? ⟨w.heap.size, 5, none⟩ = some (.int .i64 (n : Int)) ∧ W.cell? ⟨w.heap.size, 6, none⟩ = some (.int .i64 (sz : Int)) ∧ W.cell? ⟨w.heap.size, 7, none⟩ = some (.int .i64 (wt : Int))) → Below w.heap.size w W := fun W h => hBW.trans (h.1.mono (by omega))
  have hAl : ∀ W C, Below W0.heap.size W0 W → Below W0.heap.size W0 (W.alloc C) := fun W C h => h.alloc h.size C
  have hTr : ∀ W W', (Below W0.heap.size W0 W ∧ W.cell? ⟨w.heap.size, 0, none⟩ = some (.int .i64 room) ∧ W.cell? ⟨w.heap.size, 1, none⟩ = some (.slice a ps.length cap) ∧ W.cell? ⟨w.heap.size, 2, none⟩ = some (.int .i64 plan) ∧ W.cell? ⟨w.heap.size, 3, none⟩ = some (.bool down) ∧ W.cell? ⟨w.heap.size, 4, none⟩ = some (.int .i64 most) ∧ W.cell? ⟨w.heap.size, 5, none⟩ = some (.int .i64 (n : Int)) ∧ W.cell? ⟨w.heap.size, 6, none⟩ = some (.int .i64 (sz : Int)) ∧ W.cell? ⟨w.heap.size, 7, none⟩ = some (.int .i64 (wt : Int))) → Below W.heap.size W W' → Below W0.heap.size W0 W' := fun W W' h k => h.1.trans (k.mono h.1.size)
  have hX2 : ∀ W' g c d e f, Below W0.heap.size W0 W' → W0.heap.size ≤ g → Below W0.heap.size W0 ((((W'.setCell ⟨g, 0, none⟩ c).setCell ⟨g, 1, none⟩ d).setCell ⟨g, 2, none⟩ e).setCell ⟨g, 3, none⟩ f) := fun W' g c d e f h hg => (((h.setCell hg c).setCell hg d).setCell hg e).setCell hg f
  have hSf0 := hSS W0.drew (Below.refl _ _).drew
  have hZz : ∀ W : World, (W.alloc (.cells #[.int .i64 0, .slice none 0 0, .int .i64 0, .bool false] 35)).heap[W.heap.size]? = some (.cells #[.int .i64 0, .slice none 0 0, .int .i64 0, .bool false] 35) := fun W => heap_alloc_new W _
  have hZl : ∀ W : World, W.heap.size < (W.alloc (.cells #[.int .i64 0, .slice none 0 0, .int .i64 0, .bool false] 35)).heap.size := fun W => by simp
  have HZ0 : Hid (W0.heap.size = w.heap.size + 1 + 1) := hz0
  clear hB0 hB2 hz0
  go_region_held3 (fun W => Below W0.heap.size W0 W ∧ W.cell? ⟨w.heap.size, 0, none⟩ = some (.int .i64 room) ∧ W.cell? ⟨w.heap.size, 1, none⟩ = some (.slice a ps.length cap) ∧ W.cell? ⟨w.heap.size, 2, none⟩ = some (.int .i64 plan) ∧ W.cell? ⟨w.heap.size, 3, none⟩ = some (.bool down) ∧ W.cell? ⟨w.heap.size, 4, none⟩ = some (.int .i64 most) ∧ W.cell? ⟨w.heap.size, 5, none⟩ = some (.int .i64 (n : Int)) ∧ W.cell? ⟨w.heap.size, 6, none⟩ = some (.int .i64 (sz : Int)) ∧ W.cell? ⟨w.heap.size, 7, none⟩ = some (.int .i64 (wt : Int))) (first | assumption | exact hSS _ (hAl _ _ (And.left (by assumption))) | exact hSS _ (hAl _ _ (Below.refl _ _)) | exact hSS _ (hX2 _ _ _ _ _ _ hS2.1 (by first | exact Nat.le_refl _ | exact hS1.1.size)) | exact hSS _ (hAl _ _ (Below.refl _ _)).drew)
    (first
      | (go_at_call 69; refine (hnm _ _ _ _ _ _ _ _).mono ?_; rintro e W1 ⟨rfl, hb1⟩; have hS1 := hSS W1 (hTr _ _ (by assumption) hb1); (first | (have hk1 := (hb1.block W0.heap.size (hZl W0)).trans (hZz W0); have hlt1 := Nat.lt_of_lt_of_le (hZl W0) hb1.size) | skip))
      | (go_at_call 66; refine (hdo _ (hSd _ (by assumption))).mono ?_; rintro e W2 ⟨v2, rfl, hr2, hb2⟩; obtain ⟨sv2, ps2, rfl, hs2, hps2⟩ := hr2; obtain ⟨a2, cap2, rfl, hn2', hc2, _, _⟩ := hs2.open; unfold dk5; have hS2 := hSS W2 (hTr _ _ (by assumption) hb2); (first | (have hk2 := (hb2.block W0.heap.size hlt1).trans hk1; clear hk1) | have hk2 := (hb2.block W1.heap.size (hZl W1)).trans (hZz W1) | skip); (try (obtain ⟨u0, u1, u2, u3⟩ := cells4 hk2; have hf0 := frozen_of_row _ _ 0 _ _ hk2; have hf1 := frozen_of_row _ _ 1 _ _ hk2; have hf2 := frozen_of_row _ _ 2 _ _ hk2; have hf3 := frozen_of_row _ _ 3 _ _ hk2))))
  all_goals
    have HLT : Hid (w.heap.size < W0.heap.size) := hl0
    first
      | (have hk3 := (set4 (a := .int .i64 R1.1.room) (b := .slice a2 ps2.length cap2) (c := .int .i64 R1.1.plan) (d := .bool R1.1.down) hk2).1
         have hf3' := (set4 (a := .int .i64 R1.1.room) (b := .slice a2 ps2.length cap2) (c := .int .i64 R1.1.plan) (d := .bool R1.1.down) hk2).2
         have hgle : W0.heap.size ≤ W0.heap.size := Nat.le_refl _
         have hB3 := hX2 W2 W0.heap.size (.int .i64 R1.1.room) (.slice a2 ps2.length cap2) (.int .i64 R1.1.plan) (.bool R1.1.down) hS2.1 hgle
         have hgw : w.heap.size + 1 < W0.heap.size := by have := HZ0.out; omega
         generalize ((((W2.setCell ⟨W0.heap.size, 0, none⟩ (.int .i64 R1.1.room)).setCell ⟨W0.heap.size, 1, none⟩ (.slice a2 ps2.length cap2)).setCell ⟨W0.heap.size, 2, none⟩ (.int .i64 R1.1.plan)).setCell ⟨W0.heap.size, 3, none⟩ (.bool R1.1.down)) = Wf at *
         have hs3 : SlF (fun k => M k ∨ (w.heap.size ≤ k ∧ k < w.heap.size + 2) ∨ k = W0.heap.size) Wf (.slice a2 ps2.length cap2) ps2 := hs2.fr hf3' (by intro k hk; have := hS1.1.size; have := HLT.out; exact .inr ⟨by omega, by first | assumption | omega⟩) (by intro k hk h; have := hS1.1.size; have := HZ0.out; rcases h with h | h | h; exact .inl h; exact .inr ⟨by omega, by omega⟩; exact .inr ⟨by omega, by omega⟩)
         have hgWf : W0.heap.size < Wf.heap.size := (Array.getElem?_eq_some_iff.1 hk3).1
         have kk0 := (hB3.block w.heap.size hl0).trans k0
         have kk1 := (hB3.block (w.heap.size + 1) (by have := HZ0.out; omega)).trans k1
         have hBw3 : Below w.heap.size w Wf := hBW.trans (hB3.mono (by have := HLT.out; omega))
         generalize hgg : W0.heap.size = g at hk3 hgw hgWf hs3 ⊢)
      | (have hk3 := (set4 (a := .int .i64 R1.1.room) (b := .slice a2 ps2.length cap2) (c := .int .i64 R1.1.plan) (d := .bool R1.1.down) hk2).1
         have hf3' := (set4 (a := .int .i64 R1.1.room) (b := .slice a2 ps2.length cap2) (c := .int .i64 R1.1.plan) (d := .bool R1.1.down) hk2).2
         have hgle : W0.heap.size ≤ W1.heap.size := hS1.1.size
         have hB3 := hX2 W2 W1.heap.size (.int .i64 R1.1.room) (.slice a2 ps2.length cap2) (.int .i64 R1.1.plan) (.bool R1.1.down) hS2.1 hgle
         have hgw : w.heap.size + 1 < W1.heap.size := by have := HZ0.out; omega
         generalize ((((W2.setCell ⟨W1.heap.size, 0, none⟩ (.int .i64 R1.1.room)).setCell ⟨W1.heap.size, 1, none⟩ (.slice a2 ps2.length cap2)).setCell ⟨W1.heap.size, 2, none⟩ (.int .i64 R1.1.plan)).setCell ⟨W1.heap.size, 3, none⟩ (.bool R1.1.down)) = Wf at *
         have hs3 : SlF (fun k => M k ∨ (w.heap.size ≤ k ∧ k < w.heap.size + 2) ∨ k = W1.heap.size) Wf (.slice a2 ps2.length cap2) ps2 := hs2.fr hf3' (by intro k hk; have := HLT.out; have := hZl W1; exact .inr ⟨by omega, by omega⟩) (by intro k hk h; have := hS1.1.size; have := HZ0.out; have := hZl W1; rcases h with h | h | h; exact .inl h; exact .inr ⟨by omega, by omega⟩; exact .inr ⟨by omega, by omega⟩)
         have hgWf : W1.heap.size < Wf.heap.size := (Array.getElem?_eq_some_iff.1 hk3).1
         have kk0 := (hB3.block w.heap.size hl0).trans k0
         have kk1 := (hB3.block (w.heap.size + 1) (by have := HZ0.out; omega)).trans k1
         have hBw3 : Below w.heap.size w Wf := hBW.trans (hB3.mono (by have := HLT.out; omega))
         generalize hgg : W1.heap.size = g at hk3 hgw hgWf hs3 ⊢)
      | (have hk3 := heap_alloc_new W2 (.cells #[.int .i64 R1.1.room, .slice a2 ps2.length cap2, .int .i64 R1.1.plan, .bool R1.1.down] 35)
         have hgle : W0.heap.size ≤ W2.heap.size := hS2.1.size
         have hB3 := hAl W2 (.cells #[.int .i64 R1.1.room, .slice a2 ps2.length cap2, .int .i64 R1.1.plan, .bool R1.1.down] 35) hS2.1
         have hs3 : SlF (fun k => M k ∨ (w.heap.size ≤ k ∧ k < w.heap.size + 2) ∨ k = W2.heap.size) (W2.alloc (.cells #[.int .i64 R1.1.room, .slice a2 ps2.length cap2, .int .i64 R1.1.plan, .bool R1.1.down] 35)) (.slice a2 ps2.length cap2) ps2 := hs2.fr (F := fun _ => False) (Fr.of_below ((Below.refl _ _).alloc (Nat.le_refl _) _)) (fun _ h => h.elim) (by intro k hk h; have := hS1.1.size; have := HZ0.out; rcases h with h | h | h; exact .inl h; exact .inr ⟨by omega, by omega⟩; exact absurd h (by omega))
         have hgw : w.heap.size + 1 < W2.heap.size := by have := HZ0.out; omega
         generalize (W2.alloc (.cells #[.int .i64 R1.1.room, .slice a2 ps2.length cap2, .int .i64 R1.1.plan, .bool R1.1.down] 35)) = Wf at *
         have hgWf : W2.heap.size < Wf.heap.size := (Array.getElem?_eq_some_iff.1 hk3).1
         have kk0 := (hB3.block w.heap.size hl0).trans k0
         have kk1 := (hB3.block (w.heap.size + 1) (by have := HZ0.out; omega)).trans k1
         have hBw3 : Below w.heap.size w Wf := hBW.trans (hB3.mono (by have := HLT.out; omega))
         generalize hgg : W2.heap.size = g at hk3 hgw hgWf hs3 ⊢)
    clear hgg hSS hSd hAl hTr hX2 hSf0 hZz hZl hS1 hS2 hgle hB3 hs2
    rename_i hh
    clear hh
    have HDO := hdo
    clear hdo hnm hb1 hb2 k0 k1 i1 HDO
    obtain ⟨u0, u1, u2, u3⟩ := cells4 hk3
    by_cases hcz : R1.2 = 0
    · have hcb : (R1.2 != 0) = false := by rw [hcz]; rfl
      have HRB : Hid (RR = if (doA R1.1 .create (nameB (n + 1))).2 ≠ 0 then (⟨(doA R1.1 .create (nameB (n + 1))).1, most, n, sz, wt⟩, (doA R1.1 .create (nameB (n + 1))).2) else (⟨(doA R1.1 .create (nameB (n + 1))).1, most, n + 1, 0, 0⟩, 0)) := by show _ = _; rw [HRA.out, if_neg (by rw [hcz]; decide)]
      have hnl : (nameB (n + 1)).length ≤ 1048576 := by rw [nameB_length]; omega
      have hnm2 := fun W (c0 c1 c2 c3 c4 c6 c7 : Value) => name8_any c0 c1 c2 c3 c4 c6 c7 (n + 1) W (by omega) (by omega)
      rw [show ((n + 1 : Nat) : Int) = (n : Int) + 1 by omega] at hnm2
      have hd5 := fun (M' : Nat → Prop) W (hW : SlF M' W (.slice a2 ps2.length cap2) ps2) (hMW : ∀ k, M' k → k < W.heap.size) => do5_any (M := M') R1.1 _ W ⟨_, ps2, rfl, hW, hps2⟩ hMW .create (nameB (n + 1)) (.string ⟨#[]⟩) (.slice none 0 0) trivial (fun m h => by cases h) hq0 hq1 hnl hqf hqu
      obtain ⟨R2, hR2⟩ : ∃ R, doA R1.1 .create (nameB (n + 1)) = R := ⟨_, rfl⟩
      rw [hR2] at HRB hd5
      clear hR2 HRA hnl
      generalize nameB (n + 1) = nb2 at *
      unfold dk5 op5 stV at hd5
      have HNM : Hid (∀ (W : World) (c0 c1 c2 c3 c4 c6 c7 : Value), Calls Tryz.prog 69 #[.agg #[c0, c1, c2, c3, c4, .int .i64 ((n : Int) + 1), c6, c7]] W fun e w' => e = .returned (.string ⟨nb2.toArray⟩) ∧ Below W.heap.size W w') := hnm2
      clear hnm2
      have hnn : (n : Int) + 1 ≤ 9223372036854775807 := by omega
      go_wp2_with ((with_reducible refine at_sto ?_); refine wpList_store_in rfl (ty := 35) (x := .tmp 21) (y := .tmp 20) rfl w.heap.size 0 37 (.agg #[.int .i64 R1.1.room, .slice a2 ps2.length cap2, .int .i64 R1.1.plan, .bool R1.1.down]) [.int .i64 room, .slice a ps.length cap, .int .i64 plan, .bool down, .int .i64 most, .int .i64 (n : Int), .int .i64 (sz : Int), .int .i64 (wt : Int)] rfl rfl kk0 (by simp [Value.cells]) size35 (by intro u hu; simp [Value.cells] at hu; rcases hu with rfl | rfl | rfl | rfl <;> rfl) ?_; intro W4 hV1 hV2 hV3; replace hV1 : W4.heap[w.heap.size]? = some (.cells #[.int .i64 R1.1.room, .slice a2 ps2.length cap2, .int .i64 R1.1.plan, .bool R1.1.down, .int .i64 most, .int .i64 (n : Int), .int .i64 (sz : Int), .int .i64 (wt : Int)] 37 (0, 0)) := hV1; obtain ⟨y0, y1, y2, y3, y4, y5, y6, y7⟩ := cells8 hV1; have kk1' := (hV2.block (w.heap.size + 1) (by omega) (by intro e; omega)).trans kk1)
      have hA := boxF W4 (.cells #[.int .i64 R1.1.room, .slice a2 ps2.length cap2, .int .i64 R1.1.plan, .bool R1.1.down, .int .i64 most, .int .i64 ((n : Int) + 1), .int .i64 (sz : Int), .int .i64 (wt : Int)] 37)
      generalize W4.alloc (.cells #[.int .i64 R1.1.room, .slice a2 ps2.length cap2, .int .i64 R1.1.plan, .bool R1.1.down, .int .i64 most, .int .i64 ((n : Int) + 1), .int .i64 (sz : Int), .int .i64 (wt : Int)] 37) = W5 at *
      obtain ⟨hA1, hA2, hA3⟩ := hA
      have l0 := (hA1.block w.heap.size (by omega)).trans hV1
      have l1 := (hA1.block (w.heap.size + 1) (by omega)).trans kk1'
      have lg := (hA1.block g (by omega)).trans ((hV2.block g hgWf (by intro e; omega)).trans hk3)
      have hFr5 : Fr (fun k => k = w.heap.size) Wf W5 := hV2.trans (Fr.of_below hA1 (F := fun _ => False)) (fun _ _ h => h.elim)
      have hB5 : Below w.heap.size w W5 := hBw3.trans (hFr5.below (by omega) (by intro q h1 h2; omega))
      rw [hV3] at hA2 hA3
      obtain ⟨b6, hb6⟩ : ∃ b6, Wf.heap.size = b6 := ⟨_, rfl⟩
      rw [hb6] at hA2 hA3
      have hb6w : w.heap.size + 1 < b6 := by omega
      have hb6f : Wf.heap.size ≤ b6 := by omega
      have hgb : g < b6 := by omega
      rw [hb6]
      have hSS : ∀ W, Below W5.heap.size W5 W → (W.cell? ⟨w.heap.size, 0, none⟩ = some (.int .i64 R1.1.room) ∧ W.cell? ⟨w.heap.size, 1, none⟩ = some (.slice a2 ps2.length cap2) ∧ W.cell? ⟨w.heap.size, 2, none⟩ = some (.int .i64 R1.1.plan) ∧ W.cell? ⟨w.heap.size, 3, none⟩ = some (.bool R1.1.down) ∧ W.cell? ⟨b6, 0, none⟩ = some (.int .i64 R1.1.room) ∧ W.cell? ⟨b6, 1, none⟩ = some (.slice a2 ps2.length cap2) ∧ W.cell? ⟨b6, 2, none⟩ = some (.int .i64 R1.1.plan) ∧ W.cell? ⟨b6, 3, none⟩ = some (.bool R1.1.down) ∧ W.cell? ⟨b6, 4, none⟩ = some (.int .i64 most) ∧ W.cell? ⟨b6, 5, none⟩ = some (.int .i64 ((n : Int) + 1)) ∧ W.cell? ⟨b6, 6, none⟩ = some (.int .i64 (sz : Int)) ∧ W.cell? ⟨b6, 7, none⟩ = some (.int .i64 (wt : Int))) := fun W hW => by
        obtain ⟨a0, a1, a2, a3, _⟩ := cells8 ((hW.block w.heap.size (by omega)).trans l0)
        exact ⟨a0, a1, a2, a3, cells8 ((hW.block b6 (by omega)).trans hA3)⟩
      have hSX : ∀ W c d e f, Below W5.heap.size W5 W → (fun W => W.cell? ⟨w.heap.size, 0, none⟩ = some (.int .i64 R1.1.room) ∧ W.cell? ⟨w.heap.size, 1, none⟩ = some (.slice a2 ps2.length cap2) ∧ W.cell? ⟨w.heap.size, 2, none⟩ = some (.int .i64 R1.1.plan) ∧ W.cell? ⟨w.heap.size, 3, none⟩ = some (.bool R1.1.down) ∧ W.cell? ⟨b6, 0, none⟩ = some (.int .i64 R1.1.room) ∧ W.cell? ⟨b6, 1, none⟩ = some (.slice a2 ps2.length cap2) ∧ W.cell? ⟨b6, 2, none⟩ = some (.int .i64 R1.1.plan) ∧ W.cell? ⟨b6, 3, none⟩ = some (.bool R1.1.down) ∧ W.cell? ⟨b6, 4, none⟩ = some (.int .i64 most) ∧ W.cell? ⟨b6, 5, none⟩ = some (.int .i64 ((n : Int) + 1)) ∧ W.cell? ⟨b6, 6, none⟩ = some (.int .i64 (sz : Int)) ∧ W.cell? ⟨b6, 7, none⟩ = some (.int .i64 (wt : Int))) ((((W.setCell ⟨g, 0, none⟩ c).setCell ⟨g, 1, none⟩ d).setCell ⟨g, 2, none⟩ e).setCell ⟨g, 3, none⟩ f) := fun W c d e f hW => by
        have hs := (set4 (a := c) (b := d) (c := e) (d := f) ((hW.block g (by omega)).trans lg)).2
        have hz := hW.size
        obtain ⟨a0, a1, a2, a3, _⟩ := cells8 ((hs.block w.heap.size (by omega) (by intro e; omega)).trans ((hW.block w.heap.size (by omega)).trans l0))
        exact ⟨a0, a1, a2, a3, cells8 ((hs.block b6 (by omega) (by intro e; omega)).trans ((hW.block b6 (by omega)).trans hA3))⟩
      have hdo2 : ∀ W, Below W5.heap.size W5 W → Calls Tryz.prog 66 #[.agg #[.int .i64 R1.1.room, .slice a2 ps2.length cap2, .int .i64 R1.1.plan, .bool R1.1.down], .agg #[.int .i64 1, .string ⟨nb2.toArray⟩, .string ⟨#[]⟩, .slice none 0 0]] W fun e w' => ∃ v', e = .returned (.tuple #[v', .int .i64 R2.2]) ∧ Ref5 (fun k => M k ∨ (w.heap.size ≤ k ∧ k < w.heap.size + 2) ∨ k = g ∨ (Wf.heap.size ≤ k ∧ k < W.heap.size)) w' R2.1 v' ∧ Below W.heap.size W w' := fun W hW =>
        hd5 (fun k => M k ∨ (w.heap.size ≤ k ∧ k < w.heap.size + 2) ∨ k = g ∨ (Wf.heap.size ≤ k ∧ k < W.heap.size)) W ((hs3.fr (M' := (fun k => M k ∨ (w.heap.size ≤ k ∧ k < w.heap.size + 2) ∨ k = g ∨ (Wf.heap.size ≤ k ∧ k < W5.heap.size))) hFr5 (fun k hk => by rw [hk]; exact .inr (.inl ⟨by omega, by omega⟩)) (fun k hk h => by
          rcases h with h | h | h | h
          · exact .inl h
          · exact .inr (.inl h)
          · exact .inr (.inr h)
          · omega)).fr (F := fun _ => False) (Fr.of_below hW) (fun _ h => h.elim) (fun k hk h => by
          rcases h with h | h | h | h
          · exact .inl h
          · exact .inr (.inl h)
          · exact .inr (.inr (.inl h))
          · exact .inr (.inr (.inr ⟨h.1, hk⟩)))) (fun k hk => by
          have h1 := hW.size
          have h2 := hB5.size
          rcases hk with h | h | h | h
          · have := hM k h; omega
          · omega
          · omega
          · exact h.2)
      have hSf := hSS W5.drew (Below.refl _ _).drew
      have HZA : Hid (W5.heap.size = b6 + 1) := hA2
      clear hd5 hV3 hb6 y0 y1 y2 y3 y4 y5 y6 y7 u0 u1 u2 u3 kk0 kk1 kk1' hk3 hFr5 hA2 hV1 hA1
      go_region_held3 (fun W => W.cell? ⟨w.heap.size, 0, none⟩ = some (.int .i64 R1.1.room) ∧ W.cell? ⟨w.heap.size, 1, none⟩ = some (.slice a2 ps2.length cap2) ∧ W.cell? ⟨w.heap.size, 2, none⟩ = some (.int .i64 R1.1.plan) ∧ W.cell? ⟨w.heap.size, 3, none⟩ = some (.bool R1.1.down) ∧ W.cell? ⟨b6, 0, none⟩ = some (.int .i64 R1.1.room) ∧ W.cell? ⟨b6, 1, none⟩ = some (.slice a2 ps2.length cap2) ∧ W.cell? ⟨b6, 2, none⟩ = some (.int .i64 R1.1.plan) ∧ W.cell? ⟨b6, 3, none⟩ = some (.bool R1.1.down) ∧ W.cell? ⟨b6, 4, none⟩ = some (.int .i64 most) ∧ W.cell? ⟨b6, 5, none⟩ = some (.int .i64 ((n : Int) + 1)) ∧ W.cell? ⟨b6, 6, none⟩ = some (.int .i64 (sz : Int)) ∧ W.cell? ⟨b6, 7, none⟩ = some (.int .i64 (wt : Int))) (first | assumption | exact hSX _ _ _ _ _ hB7)
        (first
          | (go_at_call 69; refine (HNM.out _ _ _ _ _ _ _ _).mono ?_; rintro e W6 ⟨rfl, hb1⟩; have hBn : Below W5.heap.size W5 W6 := (Below.refl _ _).drew.trans hb1; have hSn := hSS W6 hBn)
          | (go_at_call 66; refine (hdo2 _ hBn).mono ?_; rintro e W7 ⟨v7, rfl, hr7, hb7⟩; obtain ⟨sv7, ps7, rfl, hs7, hps7⟩ := hr7; obtain ⟨a7, cap7, rfl, hn7, hc7, _, _⟩ := hs7.open; unfold dk5; have hB7 : Below W5.heap.size W5 W7 := hBn.trans (hb7.mono hBn.size); have hS7 := hSS W7 hB7; have hk7 := (hB7.block g (by have := HZA.out; omega)).trans lg; obtain ⟨r0, r1, r2, r3⟩ := cells4 hk7; have hf0 := frozen_of_row _ _ 0 _ _ hk7; have hf1 := frozen_of_row _ _ 1 _ _ hk7; have hf2 := frozen_of_row _ _ 2 _ _ hk7; have hf3 := frozen_of_row _ _ 3 _ _ hk7))
      have HSX := set4 (a := .int .i64 R2.1.room) (b := .slice a7 ps7.length cap7) (c := .int .i64 R2.1.plan) (d := .bool R2.1.down) hk7
      generalize ((((W7.setCell ⟨g, 0, none⟩ (.int .i64 R2.1.room)).setCell ⟨g, 1, none⟩ (.slice a7 ps7.length cap7)).setCell ⟨g, 2, none⟩ (.int .i64 R2.1.plan)).setCell ⟨g, 3, none⟩ (.bool R2.1.down)) = Wx at *
      obtain ⟨hk8, hf8⟩ := HSX
      have z5 := HZA.out
      have z7 := hB7.size
      have z6 := hBn.size
      have m0 := (hf8.block w.heap.size (by omega) (by intro e; omega)).trans ((hB7.block w.heap.size (by omega)).trans l0)
      have m1 := (hf8.block (w.heap.size + 1) (by omega) (by intro e; omega)).trans ((hB7.block (w.heap.size + 1) (by omega)).trans l1)
      have m6 := (hf8.block b6 (by omega) (by intro e; omega)).trans ((hB7.block b6 (by omega)).trans hA3)
      have hs9 := hs7.fr (M' := fun k => M k ∨ (w.heap.size ≤ k ∧ k < w.heap.size + 2) ∨ k = b6) hf8 (fun k hk => .inr (.inr (.inl hk))) (fun k hk h => by
        rcases h with h | h | h
        · exact .inl h
        · exact .inr (.inl h)
        · exact .inr (.inr (.inr ⟨by omega, by omega⟩)))
      have hBx : Below w.heap.size w Wx := (hB5.trans (hB7.mono (by omega))).trans (hf8.below (by omega) (by intro q h1 h2; omega))
      have hzx := hf8.size
      have hlx1 : w.heap.size + 1 < Wx.heap.size := by omega
      have hlx6 : b6 < Wx.heap.size := by omega
      have hlxg : g < Wx.heap.size := by omega
      clear hSS hSX hdo2 hSf hSn hS7 r0 r1 r2 r3 hf0 hf1 hf2 hf3 hk7 l0 l1 lg hA3 hb1 hb7 hBn hB7 z5 z6 z7 hf8 HNM hs7
      rename_i hh2
      clear hh2
      obtain ⟨t0, t1, t2, t3⟩ := cells4 hk8
      by_cases hcz2 : R2.2 = 0
      · have hcb2 : (R2.2 != 0) = false := by rw [hcz2]; rfl
        have HE : Hid (RR = (⟨R2.1, most, n + 1, 0, 0⟩, 0)) := by show _ = _; rw [HRB.out, if_neg (by rw [hcz2]; decide)]
        go_wp2_with (first
          | ((with_reducible refine at_sto ?_); refine wpList_store_in rfl (ty := 35) (x := .tmp 41) (y := .tmp 40) rfl w.heap.size 0 37 (.agg #[.int .i64 R2.1.room, .slice a7 ps7.length cap7, .int .i64 R2.1.plan, .bool R2.1.down]) [.int .i64 R1.1.room, .slice a2 ps2.length cap2, .int .i64 R1.1.plan, .bool R1.1.down, .int .i64 most, .int .i64 (n : Int), .int .i64 (sz : Int), .int .i64 (wt : Int)] rfl rfl m0 (by simp [Value.cells]) size35 (by intro u hu; simp [Value.cells] at hu; rcases hu with rfl | rfl | rfl | rfl <;> rfl) ?_; intro Wa hP1 hP2 hP3; replace hP1 : Wa.heap[w.heap.size]? = some (.cells #[.int .i64 R2.1.room, .slice a7 ps7.length cap7, .int .i64 R2.1.plan, .bool R2.1.down, .int .i64 most, .int .i64 (n : Int), .int .i64 (sz : Int), .int .i64 (wt : Int)] 37 (0, 0)) := hP1; obtain ⟨p0, p1, p2, p3, p4, p5, p6, p7⟩ := cells8 hP1; have n1 := (hP2.block (w.heap.size + 1) (by omega) (by intro e; omega)).trans m1; have n6 := (hP2.block b6 (by omega) (by intro e; omega)).trans m6; have ng := (hP2.block g (by omega) (by intro e; omega)).trans hk8; obtain ⟨t0, t1, t2, t3⟩ := cells4 ng)
          | ((with_reducible refine at_sto ?_); refine wpList_store_in rfl (ty := 35) (x := .tmp 47) (y := .tmp 46) rfl b6 0 37 (.agg #[.int .i64 R2.1.room, .slice a7 ps7.length cap7, .int .i64 R2.1.plan, .bool R2.1.down]) [.int .i64 R1.1.room, .slice a2 ps2.length cap2, .int .i64 R1.1.plan, .bool R1.1.down, .int .i64 most, .int .i64 ((n : Int) + 1), .int .i64 (sz : Int), .int .i64 (wt : Int)] rfl rfl n6 (by simp [Value.cells]) size35 (by intro u hu; simp [Value.cells] at hu; rcases hu with rfl | rfl | rfl | rfl <;> rfl) ?_; intro Wb hQ1 hQ2 hQ3; replace hQ1 : Wb.heap[b6]? = some (.cells #[.int .i64 R2.1.room, .slice a7 ps7.length cap7, .int .i64 R2.1.plan, .bool R2.1.down, .int .i64 most, .int .i64 ((n : Int) + 1), .int .i64 (sz : Int), .int .i64 (wt : Int)] 37 (0, 0)) := hQ1; have n1' := (hQ2.block (w.heap.size + 1) (by omega) (by intro e; omega)).trans n1)
          | ((with_reducible refine at_sto ?_); refine wpList_store_in rfl (ty := 3) (x := .tmp 48)  rfl b6 6 37 (.int .i64 0) [.int .i64 R2.1.room, .slice a7 ps7.length cap7, .int .i64 R2.1.plan, .bool R2.1.down, .int .i64 most, .int .i64 ((n : Int) + 1), .int .i64 (sz : Int), .int .i64 (wt : Int)] rfl rfl hQ1 (by simp [Value.cells]) size134' (by intro u hu; simp [Value.cells] at hu; subst hu; rfl) ?_; intro Wc hR1 hR2 hR3; replace hR1 : Wc.heap[b6]? = some (.cells #[.int .i64 R2.1.room, .slice a7 ps7.length cap7, .int .i64 R2.1.plan, .bool R2.1.down, .int .i64 most, .int .i64 ((n : Int) + 1), .int .i64 0, .int .i64 (wt : Int)] 37 (0, 0)) := hR1; have n1c := (hR2.block (w.heap.size + 1) (by omega) (by intro e; omega)).trans n1')
          | ((with_reducible refine at_sto ?_); refine wpList_store_in rfl (ty := 3) (x := .tmp 49)  rfl b6 7 37 (.int .i64 0) [.int .i64 R2.1.room, .slice a7 ps7.length cap7, .int .i64 R2.1.plan, .bool R2.1.down, .int .i64 most, .int .i64 ((n : Int) + 1), .int .i64 0, .int .i64 (wt : Int)] rfl rfl hR1 (by simp [Value.cells]) size134' (by intro u hu; simp [Value.cells] at hu; subst hu; rfl) ?_; intro Wd hT1 hT2 hT3; replace hT1 : Wd.heap[b6]? = some (.cells #[.int .i64 R2.1.room, .slice a7 ps7.length cap7, .int .i64 R2.1.plan, .bool R2.1.down, .int .i64 most, .int .i64 ((n : Int) + 1), .int .i64 0, .int .i64 0] 37 (0, 0)) := hT1; have n1d := (hT2.block (w.heap.size + 1) (by omega) (by intro e; omega)).trans n1c; obtain ⟨q0, q1, q2, q3, q4, q5, q6, q7⟩ := cells8 hT1)
          | ((with_reducible refine at_sto ?_); refine wpList_store_in rfl (ty := 37) (x := .tmp 2) (y := .tmp 50) rfl (w.heap.size + 1) 0 37 (.agg #[.int .i64 R2.1.room, .slice a7 ps7.length cap7, .int .i64 R2.1.plan, .bool R2.1.down, .int .i64 most, .int .i64 ((n : Int) + 1), .int .i64 0, .int .i64 0]) [.int .i64 0, .slice none 0 0, .int .i64 0, .bool false, .int .i64 0, .int .i64 0, .int .i64 0, .int .i64 0] rfl rfl n1d (by simp [Value.cells]) size37 (by intro u hu; simp [Value.cells] at hu; rcases hu with rfl | rfl | rfl | rfl | rfl | rfl | rfl | rfl <;> rfl) ?_; intro W9 hE1 hE2 hE3; replace hE1 : W9.heap[(w.heap.size + 1)]? = some (.cells #[.int .i64 R2.1.room, .slice a7 ps7.length cap7, .int .i64 R2.1.plan, .bool R2.1.down, .int .i64 most, .int .i64 ((n : Int) + 1), .int .i64 0, .int .i64 0] 37 (0, 0)) := hE1))
        refine bodyPost_ret (results_cell_row_tmp (fr := (0, 0)) Tryz.results68 _ _ (w.heap.size + 1) 37 _ _ rfl hE1 Tryz.underlying37 rfl (by kernel_rfl)) rfl ?_
        have hF : Fr (fun k => k = w.heap.size ∨ k = w.heap.size + 1 ∨ k = b6) Wx W9 := ((((hP2.mono (fun k _ h => .inl h)).trans hQ2 (fun k _ h => .inr (.inr h))).trans hR2 (fun k _ h => .inr (.inr h))).trans hT2 (fun k _ h => .inr (.inr h))).trans hE2 (fun k _ h => .inr (.inl h))
        have hBf : Below w.heap.size w W9 := hBx.trans (hF.below (by omega) (by intro q h1 h2; omega))
        rw [HE.out]
        refine ⟨_, rfl, ⟨.slice a7 ps7.length cap7, ps7, rfl, hs9.fr hF (by intro k hk; rcases hk with rfl | rfl | rfl; exact .inr (.inl ⟨by omega, by omega⟩); exact .inr (.inl ⟨by omega, by omega⟩); exact .inr (.inr rfl)) (fun _ _ h => .inl h), hps7⟩, hBf⟩
      · have hcb2 : (R2.2 != 0) = true := by simpa using hcz2
        have HE : Hid (RR = (⟨R2.1, most, n, sz, wt⟩, R2.2)) := by show _ = _; rw [HRB.out, if_pos hcz2]
        go_wp2_with (first
          | ((with_reducible refine at_sto ?_); refine wpList_store_in rfl (ty := 35) (x := .tmp 41) (y := .tmp 40) rfl w.heap.size 0 37 (.agg #[.int .i64 R2.1.room, .slice a7 ps7.length cap7, .int .i64 R2.1.plan, .bool R2.1.down]) [.int .i64 R1.1.room, .slice a2 ps2.length cap2, .int .i64 R1.1.plan, .bool R1.1.down, .int .i64 most, .int .i64 (n : Int), .int .i64 (sz : Int), .int .i64 (wt : Int)] rfl rfl m0 (by simp [Value.cells]) size35 (by intro u hu; simp [Value.cells] at hu; rcases hu with rfl | rfl | rfl | rfl <;> rfl) ?_; intro Wa hP1 hP2 hP3; replace hP1 : Wa.heap[w.heap.size]? = some (.cells #[.int .i64 R2.1.room, .slice a7 ps7.length cap7, .int .i64 R2.1.plan, .bool R2.1.down, .int .i64 most, .int .i64 (n : Int), .int .i64 (sz : Int), .int .i64 (wt : Int)] 37 (0, 0)) := hP1; obtain ⟨p0, p1, p2, p3, p4, p5, p6, p7⟩ := cells8 hP1; have n1 := (hP2.block (w.heap.size + 1) (by omega) (by intro e; omega)).trans m1; have n6 := (hP2.block b6 (by omega) (by intro e; omega)).trans m6; have ng := (hP2.block g (by omega) (by intro e; omega)).trans hk8; obtain ⟨t0, t1, t2, t3⟩ := cells4 ng)
          | ((with_reducible refine at_sto ?_); refine wpList_store_in rfl (ty := 37) (x := .tmp 2) (y := .tmp 44) rfl (w.heap.size + 1) 0 37 (.agg #[.int .i64 R2.1.room, .slice a7 ps7.length cap7, .int .i64 R2.1.plan, .bool R2.1.down, .int .i64 most, .int .i64 (n : Int), .int .i64 (sz : Int), .int .i64 (wt : Int)]) [.int .i64 0, .slice none 0 0, .int .i64 0, .bool false, .int .i64 0, .int .i64 0, .int .i64 0, .int .i64 0] rfl rfl n1 (by simp [Value.cells]) size37 (by intro u hu; simp [Value.cells] at hu; rcases hu with rfl | rfl | rfl | rfl | rfl | rfl | rfl | rfl <;> rfl) ?_; intro W9 hE1 hE2 hE3; replace hE1 : W9.heap[(w.heap.size + 1)]? = some (.cells #[.int .i64 R2.1.room, .slice a7 ps7.length cap7, .int .i64 R2.1.plan, .bool R2.1.down, .int .i64 most, .int .i64 (n : Int), .int .i64 (sz : Int), .int .i64 (wt : Int)] 37 (0, 0)) := hE1))
        refine bodyPost_ret (results_cell_row_tmp (fr := (0, 0)) Tryz.results68 _ _ (w.heap.size + 1) 37 _ _ rfl hE1 Tryz.underlying37 rfl (by kernel_rfl)) rfl ?_
        have hF : Fr (fun k => k = w.heap.size ∨ k = w.heap.size + 1 ∨ k = b6) Wx W9 := (hP2.mono (fun k _ h => .inl h)).trans hE2 (fun k _ h => .inr (.inl h))
        have hBf : Below w.heap.size w W9 := hBx.trans (hF.below (by omega) (by intro q h1 h2; omega))
        rw [HE.out]
        refine ⟨_, rfl, ⟨.slice a7 ps7.length cap7, ps7, rfl, hs9.fr hF (by intro k hk; rcases hk with rfl | rfl | rfl; exact .inr (.inl ⟨by omega, by omega⟩); exact .inr (.inl ⟨by omega, by omega⟩); exact .inr (.inr rfl)) (fun _ _ h => .inl h), hps7⟩, hBf⟩
    · have hcb : (R1.2 != 0) = true := by simpa using hcz
      have HE : Hid (RR = (⟨R1.1, most, n, sz, wt⟩, R1.2)) := by show _ = _; rw [HRA.out, if_pos hcz]
      go_wp2_with (first
        | ((with_reducible refine at_sto ?_); refine wpList_store_in rfl (ty := 35) (x := .tmp 21) (y := .tmp 20) rfl w.heap.size 0 37 (.agg #[.int .i64 R1.1.room, .slice a2 ps2.length cap2, .int .i64 R1.1.plan, .bool R1.1.down]) [.int .i64 room, .slice a ps.length cap, .int .i64 plan, .bool down, .int .i64 most, .int .i64 (n : Int), .int .i64 (sz : Int), .int .i64 (wt : Int)] rfl rfl kk0 (by simp [Value.cells]) size35 (by intro u hu; simp [Value.cells] at hu; rcases hu with rfl | rfl | rfl | rfl <;> rfl) ?_; intro W4 hV1 hV2 hV3; replace hV1 : W4.heap[w.heap.size]? = some (.cells #[.int .i64 R1.1.room, .slice a2 ps2.length cap2, .int .i64 R1.1.plan, .bool R1.1.down, .int .i64 most, .int .i64 (n : Int), .int .i64 (sz : Int), .int .i64 (wt : Int)] 37 (0, 0)) := hV1; obtain ⟨y0, y1, y2, y3, y4, y5, y6, y7⟩ := cells8 hV1; have kk1' := (hV2.block (w.heap.size + 1) (by omega) (by intro e; omega)).trans kk1)
        | ((with_reducible refine at_sto ?_); refine wpList_store_in rfl (ty := 37) (x := .tmp 2) (y := .tmp 24) rfl (w.heap.size + 1) 0 37 (.agg #[.int .i64 R1.1.room, .slice a2 ps2.length cap2, .int .i64 R1.1.plan, .bool R1.1.down, .int .i64 most, .int .i64 (n : Int), .int .i64 (sz : Int), .int .i64 (wt : Int)]) [.int .i64 0, .slice none 0 0, .int .i64 0, .bool false, .int .i64 0, .int .i64 0, .int .i64 0, .int .i64 0] rfl rfl kk1' (by simp [Value.cells]) size37 (by intro u hu; simp [Value.cells] at hu; rcases hu with rfl | rfl | rfl | rfl | rfl | rfl | rfl | rfl <;> rfl) ?_; intro W9 hE1 hE2 hE3; replace hE1 : W9.heap[w.heap.size + 1]? = some (.cells #[.int .i64 R1.1.room, .slice a2 ps2.length cap2, .int .i64 R1.1.plan, .bool R1.1.down, .int .i64 most, .int .i64 (n : Int), .int .i64 (sz : Int), .int .i64 (wt : Int)] 37 (0, 0)) := hE1))
      refine bodyPost_ret (results_cell_row_tmp (fr := (0, 0)) Tryz.results68 _ _ (w.heap.size + 1) 37 _ _ rfl hE1 Tryz.underlying37 rfl (by kernel_rfl)) rfl ?_
      have hF : Fr (fun k => k = w.heap.size ∨ k = w.heap.size + 1) Wf W9 := (hV2.mono (fun k _ h => .inl h)).trans hE2 (fun k _ h => .inr h)
      have hBf : Below w.heap.size w W9 := hBw3.trans (hF.below (by omega) (by intro q h1 h2; omega))
      rw [HE.out]
      refine ⟨_, rfl, ⟨.slice a2 ps2.length cap2, ps2, rfl, hs3.fr hF (by intro k hk; rcases hk with rfl | rfl; exact .inr (.inl ⟨by omega, by omega⟩); exact .inr (.inl ⟨by omega, by omega⟩)) (fun _ _ h => .inl h), hps2⟩, hBf⟩

end Go.Proofs.YtepceidajmedeaaGreatDoor
