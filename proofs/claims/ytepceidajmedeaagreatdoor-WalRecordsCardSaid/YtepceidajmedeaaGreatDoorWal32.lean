/- Lemmas for a law of this seat, part 32: contracts of the functions that it reaches, and the plain law. No condition but those of each lemma. -/
import Derived.Test.YtepceidajmedeaaGreatDoorWal31
import Derived.Test.YtepceidajmedeaaGreatDoorWal29
import Derived.Test.YtepceidajmedeaaGreatDoorWal21

namespace Go.Proofs.YtepceidajmedeaaGreatDoor
open Go.RowKit CW

theorem Ref8.any {M : Nat → Prop} {w : World} {L : LogA} {v : Value} (h : Ref8 M w L v) : Ref8 (fun _ => False) w L v := by
  obtain ⟨sv, ps, h1, h2, h3⟩ := h
  exact ⟨sv, ps, h1, h2.any, h3⟩

/-- What Put gives, shut. -/
def IsPut (L : LogA) (x : Bytes) (R : LogA × Int) : Prop := putA L x = R

set_option maxHeartbeats 6000000 in
set_option maxRecDepth 100000 in
theorem put8_any {M : Nat → Prop} (L : LogA) (v : Value) (w : World) (h : Ref8 M w L v) (hM : ∀ k, M k → k < w.heap.size) (vx : Value) (x : Bytes) (hx : SlB (fun _ => False) w vx x) (hxl : x.length ≤ 1073741816) (ok1 : OkL L)
    (okr : 0 < L.size → L.n + 1 < 100 ∧ 0 ≤ (doA L.D .sync (nameB L.n)).1.plan ∧ (doA L.D .sync (nameB L.n)).1.plan ≤ 4611686018427387904 ∧ (doA L.D .sync (nameB L.n)).1.files.length < 1048576 ∧ usedF (doA L.D .sync (nameB L.n)).1.files ≤ 1099511627776 ∧ OkL (rotA L).1) :
    Calls Tryz.prog 19 #[v, vx] w fun e w' => ∃ v', e = .returned (.tuple #[v', .int .i64 (putA L x).2]) ∧ Ref8 M w' (putA L x).1 v' ∧ Below w.heap.size w w' := by
  obtain ⟨sv, ps, rfl, hs, hps⟩ := h
  obtain ⟨a, cap, rfl, hn', hc, hnone, _⟩ := hs.open
  obtain ⟨RR, hRR⟩ : ∃ R, putA L x = R := ⟨_, rfl⟩
  have HIP : IsPut L x RR := hRR
  rw [hRR]
  clear hRR
  have hrt := fun (M' : Nat → Prop) (W : World) (v : Value) (h : Ref8 M' W L v) (hM : ∀ k, M' k → k < W.heap.size) (hr : 0 < L.size) => rot8_any L v W h hM ok1.n1 (okr hr).1 ok1.p0 ok1.p1 ok1.files ok1.used (okr hr).2.1 (okr hr).2.2.1 (okr hr).2.2.2.1 (okr hr).2.2.2.2.1
  have hok2 := fun (hr : 0 < L.size) => (okr hr).2.2.2.2.2
  clear okr
  obtain ⟨⟨room, files, plan, down⟩, most, n, sz, wt⟩ := L
  simp only at hps
  unfold lg8
  obtain ⟨ax, capx, rfl, hx1, hx2⟩ := hx.shape
  have hB0 := (boxF w (.cells #[.int .i64 room, .slice a ps.length cap, .int .i64 plan, .bool down, .int .i64 most, .int .i64 (n : Int), .int .i64 (sz : Int), .int .i64 (wt : Int)] 37))
  have hB2 := (boxF (w.alloc (.cells #[.int .i64 room, .slice a ps.length cap, .int .i64 plan, .bool down, .int .i64 most, .int .i64 (n : Int), .int .i64 (sz : Int), .int .i64 (wt : Int)] 37)) (.cells #[.int .i64 0, .slice none 0 0, .int .i64 0, .bool false, .int .i64 0, .int .i64 0, .int .i64 0, .int .i64 0] 37))
  go_enter Tryz.func19, Tryz.ntmps19
  go_wp2_with fail
  have k0 := (hB2.1.block w.heap.size (by rw [hB0.2.1]; omega)).trans hB0.2.2
  have k1 := hB2.2.2
  rw [hB0.2.1] at k1
  have hz0 := hB2.2.1
  rw [hB0.2.1] at hz0
  have hBW := hB0.1.trans (hB2.1.mono (by rw [hB0.2.1]; omega))
  generalize ((w.alloc (.cells #[.int .i64 room, .slice a ps.length cap, .int .i64 plan, .bool down, .int .i64 most, .int .i64 (n : Int), .int .i64 (sz : Int), .int .i64 (wt : Int)] 37)).alloc (.cells #[.int .i64 0, .slice none 0 0, .int .i64 0, .bool false, .int .i64 0, .int .i64 0, .int .i64 0, .int .i64 0] 37)) = W00 at *
  have hmk := make6_any _ x W00 (hx.below hBW) (by omega)
  refine hmk.mono ?_
  rintro e W0 ⟨v', okb, rfl, hB, hcase⟩
  have kq0 := (hB.block w.heap.size (by omega)).trans k0
  have kq1 := (hB.block (w.heap.size + 1) (by omega)).trans k1
  have hBQ : Below w.heap.size w W0 := hBW.trans (hB.mono (by omega))
  have hzB := hB.size
  have hlQ : w.heap.size + 1 < W0.heap.size := by omega
  obtain ⟨c0, c1, c2, c3, c4, c5, c6, c7⟩ := cells8 kq0
  by_cases h0 : x.length = 0
  · have HE : Hid (RR = (⟨⟨room, files, plan, down⟩, most, n, sz, wt⟩, 2)) := by show _ = _; rw [← (HIP : putA _ _ = _)]; exact putA_empty _ _ h0
    obtain ⟨av, cv, hvv⟩ : ∃ av n' cv, v' = .slice av n' cv := by
      rcases hcase with ⟨_, rfl, _⟩ | ⟨_, _, hb⟩
      · exact ⟨_, _, _, rfl⟩
      · obtain ⟨q1, q2, q3, _⟩ := hb.shape; exact ⟨_, _, _, q3⟩
    have hxb : (((x.length : Nat) : Int) == 0) = true := by rw [h0]; rfl
    clear hcase hmk hB0 hB2 k0 k1 hB hzB
    go_wp2_with ((with_reducible refine at_sto ?_); refine wpList_store_in rfl (ty := 37) (x := .tmp 4) (y := .tmp 20) rfl (w.heap.size + 1) 0 37 (.agg #[.int .i64 room, .slice a ps.length cap, .int .i64 plan, .bool down, .int .i64 most, .int .i64 (n : Int), .int .i64 (sz : Int), .int .i64 (wt : Int)]) [.int .i64 0, .slice none 0 0, .int .i64 0, .bool false, .int .i64 0, .int .i64 0, .int .i64 0, .int .i64 0] rfl rfl kq1 (by simp [Value.cells]) size37 (by intro u hu; simp [Value.cells] at hu; rcases hu with rfl | rfl | rfl | rfl | rfl | rfl | rfl | rfl <;> rfl) ?_; intro W9 hE1 hE2 hE3; replace hE1 : W9.heap[(w.heap.size + 1)]? = some (.cells #[.int .i64 room, .slice a ps.length cap, .int .i64 plan, .bool down, .int .i64 most, .int .i64 (n : Int), .int .i64 (sz : Int), .int .i64 (wt : Int)] 37 (0, 0)) := hE1)
    refine bodyPost_ret (results_cell_row_tmp (fr := (0, 0)) Tryz.results19 _ _ (w.heap.size + 1) 37 _ _ rfl hE1 Tryz.underlying37 rfl (by kernel_rfl)) rfl ?_
    have hBf : Below w.heap.size w W9 := hBQ.trans (hE2.below (by omega) (by intro q h1 h2; omega))
    rw [HE.out]
    exact ⟨_, rfl, ⟨.slice a ps.length cap, ps, rfl, hs.below hBf, hps⟩, hBf⟩
  · have hxb : (((x.length : Nat) : Int) == 0) = false := beq_eq_false_iff_ne.2 (by omega)
    rcases hcase with ⟨hm, rfl, rfl⟩ | ⟨hm, rfl, hbs⟩
    · have HE : Hid (RR = (⟨⟨room, files, plan, down⟩, most, n, sz, wt⟩, 4)) := by show _ = _; rw [← (HIP : putA _ _ = _)]; exact putA_long _ _ h0 hm
      clear hmk hB0 hB2 k0 k1 hB hzB
      go_wp2_with ((with_reducible refine at_sto ?_); refine wpList_store_in rfl (ty := 37) (x := .tmp 4) (y := .tmp 30) rfl (w.heap.size + 1) 0 37 (.agg #[.int .i64 room, .slice a ps.length cap, .int .i64 plan, .bool down, .int .i64 most, .int .i64 (n : Int), .int .i64 (sz : Int), .int .i64 (wt : Int)]) [.int .i64 0, .slice none 0 0, .int .i64 0, .bool false, .int .i64 0, .int .i64 0, .int .i64 0, .int .i64 0] rfl rfl kq1 (by simp [Value.cells]) size37 (by intro u hu; simp [Value.cells] at hu; rcases hu with rfl | rfl | rfl | rfl | rfl | rfl | rfl | rfl <;> rfl) ?_; intro W9 hE1 hE2 hE3; replace hE1 : W9.heap[(w.heap.size + 1)]? = some (.cells #[.int .i64 room, .slice a ps.length cap, .int .i64 plan, .bool down, .int .i64 most, .int .i64 (n : Int), .int .i64 (sz : Int), .int .i64 (wt : Int)] 37 (0, 0)) := hE1)
      refine bodyPost_ret (results_cell_row_tmp (fr := (0, 0)) Tryz.results19 _ _ (w.heap.size + 1) 37 _ _ rfl hE1 Tryz.underlying37 rfl (by kernel_rfl)) rfl ?_
      have hBf : Below w.heap.size w W9 := hBQ.trans (hE2.below (by omega) (by intro q h1 h2; omega))
      rw [HE.out]
      exact ⟨_, rfl, ⟨.slice a ps.length cap, ps, rfl, hs.below hBf, hps⟩, hBf⟩
    · have hpB := putA_big ⟨⟨room, files, plan, down⟩, most, n, sz, wt⟩ x h0 hm
      have hpA := putA_app ⟨⟨room, files, plan, down⟩, most, n, sz, wt⟩ x h0 hm
      have hpR := putA_rot ⟨⟨room, files, plan, down⟩, most, n, sz, wt⟩ x h0 hm
      rw [(HIP : putA _ _ = _)] at hpB hpA hpR
      have hfl : (frameB x).length = x.length + 8 := frameB_length x
      obtain ⟨b, hbb⟩ : ∃ b, frameB x = b := ⟨_, rfl⟩
      rw [hbb] at hpB hpA hpR hbs hfl
      have hbl : b.length ≤ 1073741824 := by omega
      clear hbb HIP hfl
      obtain ⟨ab, capb, rfl, hab1, hab2⟩ := hbs.shape
      by_cases hbig : most < (b.length : Int)
      · have HE : Hid (RR = (⟨⟨room, files, plan, down⟩, most, n, sz, wt⟩, 4)) := hpB hbig
        clear hmk hB0 hB2 k0 k1 hB hzB hpB hpA hpR
        go_wp2_with ((with_reducible refine at_sto ?_); refine wpList_store_in rfl (ty := 37) (x := .tmp 4) (y := .tmp 30) rfl (w.heap.size + 1) 0 37 (.agg #[.int .i64 room, .slice a ps.length cap, .int .i64 plan, .bool down, .int .i64 most, .int .i64 (n : Int), .int .i64 (sz : Int), .int .i64 (wt : Int)]) [.int .i64 0, .slice none 0 0, .int .i64 0, .bool false, .int .i64 0, .int .i64 0, .int .i64 0, .int .i64 0] rfl rfl kq1 (by simp [Value.cells]) size37 (by intro u hu; simp [Value.cells] at hu; rcases hu with rfl | rfl | rfl | rfl | rfl | rfl | rfl | rfl <;> rfl) ?_; intro W9 hE1 hE2 hE3; replace hE1 : W9.heap[(w.heap.size + 1)]? = some (.cells #[.int .i64 room, .slice a ps.length cap, .int .i64 plan, .bool down, .int .i64 most, .int .i64 (n : Int), .int .i64 (sz : Int), .int .i64 (wt : Int)] 37 (0, 0)) := hE1)
        refine bodyPost_ret (results_cell_row_tmp (fr := (0, 0)) Tryz.results19 _ _ (w.heap.size + 1) 37 _ _ rfl hE1 Tryz.underlying37 rfl (by kernel_rfl)) rfl ?_
        have hBf : Below w.heap.size w W9 := hBQ.trans (hE2.below (by omega) (by intro q h1 h2; omega))
        rw [HE.out]
        exact ⟨_, rfl, ⟨.slice a ps.length cap, ps, rfl, hs.below hBf, hps⟩, hBf⟩
      · replace hpA := hpA hbig
        replace hpR := hpR hbig
        clear hpB
        have hbQ : SlB (fun k => M k ∨ (w.heap.size ≤ k ∧ k < w.heap.size + 2)) W0 (.slice ab b.length capb) b := hbs.mono (fun k _ hk => by rcases hk with hk | hk; have := hM k hk; omega; omega)
        have hszw : (sz : Int) + (b.length : Int) ≤ 9223372036854775807 := by have := ok1.size; simp only at this; omega
        by_cases hrot : 0 < sz ∧ most < (sz : Int) + (b.length : Int)
        · skip
          have hszp : 0 < sz := hrot.1
          have hMR : ∀ k, (fun k => M k ∨ (w.heap.size ≤ k ∧ k < w.heap.size + 2)) k → k < W0.heap.size := fun k hk => by
            rcases hk with hk | hk
            · have := hM k hk; omega
            · omega
          have hsQ0 : SlF (fun k => M k ∨ (w.heap.size ≤ k ∧ k < w.heap.size + 2)) W0 (.slice a ps.length cap) ps := hs.fr (F := fun _ => False) (Fr.of_below hBQ) (fun _ h => h.elim) (fun k hk h => h.elim id (fun h => by omega))
          have hr := hrt (fun k => M k ∨ (w.heap.size ≤ k ∧ k < w.heap.size + 2)) W0 _ ⟨_, ps, rfl, hsQ0, hps⟩ hMR hszp
          have okQ0 := hok2 hszp
          have hpR1 := hpR hrot
          obtain ⟨RT, hRT⟩ : ∃ R, rotA ⟨⟨room, files, plan, down⟩, most, n, sz, wt⟩ = R := ⟨_, rfl⟩
          rw [hRT] at hr okQ0 hpR1
          clear hRT
          have ir1 : (0 : Int) < (sz : Int) := by omega
          have ir2 : most < (sz : Int) + (b.length : Int) := hrot.2
          unfold lg8 at hr
          clear hmk hB0 hB2 k0 k1 hB hzB hpA hpR hrt hok2 ok1 hbs hrot hsQ0 hMR
          by_cases hrc : RT.2 = 0
          · have hcb0 : (RT.2 != 0) = false := by rw [hrc]; rfl
            have HRES0 : Hid (RR = appA RT.1 b) := by show _ = _; rw [hpR1, if_neg (fun h => h hrc)]
            clear hpR1 hrc
            go_wp2_with (first
              | (go_at_call 68; refine hr.mono ?_; rintro e w1 ⟨v1, rfl, hr1, hb1⟩; obtain ⟨sv1, ps1, rfl, hs1, hps1⟩ := hr1; obtain ⟨a1, cap1, rfl, hn1, hc1, _, _⟩ := hs1.open; unfold lg8; have hb1z := hb1.size; have kr0 := (hb1.block w.heap.size (by omega)).trans kq0; have kr1 := (hb1.block (w.heap.size + 1) (by omega)).trans kq1)
              | ((with_reducible refine at_sto ?_); refine wpList_store_in rfl (ty := 37) (x := .tmp 8) (y := .tmp 47) rfl w1.heap.size 0 37 (.agg #[.int .i64 RT.1.D.room, .slice a1 ps1.length cap1, .int .i64 RT.1.D.plan, .bool RT.1.D.down, .int .i64 RT.1.most, .int .i64 (RT.1.n : Int), .int .i64 (RT.1.size : Int), .int .i64 (RT.1.waiting : Int)]) [.int .i64 0, .slice none 0 0, .int .i64 0, .bool false, .int .i64 0, .int .i64 0, .int .i64 0, .int .i64 0] rfl rfl (heap_alloc_new _ _) (by simp [Value.cells]) size37 (by intro u hu; simp [Value.cells] at hu; rcases hu with rfl | rfl | rfl | rfl | rfl | rfl | rfl | rfl <;> rfl) ?_; intro W3 hV1 hV2 hV3; replace hV1 : W3.heap[w1.heap.size]? = some (.cells #[.int .i64 RT.1.D.room, .slice a1 ps1.length cap1, .int .i64 RT.1.D.plan, .bool RT.1.D.down, .int .i64 RT.1.most, .int .i64 (RT.1.n : Int), .int .i64 (RT.1.size : Int), .int .i64 (RT.1.waiting : Int)] 37 (0, 0)) := hV1; obtain ⟨y0, y1, y2, y3, y4, y5, y6, y7⟩ := cells8 hV1; have hB13 : Below w1.heap.size w1 W3 := (boxF w1 _).1.trans (hV2.below (by have := (boxF w1 (.cells #[.int .i64 0, .slice none 0 0, .int .i64 0, .bool false, .int .i64 0, .int .i64 0, .int .i64 0, .int .i64 0] 37)).2.1; omega) (by intro q h1 h2; omega)); have ks0 := (hB13.block w.heap.size (by omega)).trans kr0; have ks1 := (hB13.block (w.heap.size + 1) (by omega)).trans kr1)
              | ((with_reducible refine at_sto ?_); refine wpList_store_in rfl (ty := 37) (x := .tmp 2) (y := .tmp 53) rfl w.heap.size 0 37 (.agg #[.int .i64 RT.1.D.room, .slice a1 ps1.length cap1, .int .i64 RT.1.D.plan, .bool RT.1.D.down, .int .i64 RT.1.most, .int .i64 (RT.1.n : Int), .int .i64 (RT.1.size : Int), .int .i64 (RT.1.waiting : Int)]) [.int .i64 room, .slice a ps.length cap, .int .i64 plan, .bool down, .int .i64 most, .int .i64 (n : Int), .int .i64 (sz : Int), .int .i64 (wt : Int)] rfl rfl ks0 (by simp [Value.cells]) size37 (by intro u hu; simp [Value.cells] at hu; rcases hu with rfl | rfl | rfl | rfl | rfl | rfl | rfl | rfl <;> rfl) ?_; intro W4 hU1 hU2 hU3; replace hU1 : W4.heap[w.heap.size]? = some (.cells #[.int .i64 RT.1.D.room, .slice a1 ps1.length cap1, .int .i64 RT.1.D.plan, .bool RT.1.D.down, .int .i64 RT.1.most, .int .i64 (RT.1.n : Int), .int .i64 (RT.1.size : Int), .int .i64 (RT.1.waiting : Int)] 37 (0, 0)) := hU1; have kt1 := (hU2.block (w.heap.size + 1) (by have := hB13.size; omega) (by intro e; omega)).trans ks1))
            have hBQ4 : Below w.heap.size w W4 := ((hBQ.trans (hb1.mono (by omega))).trans (hB13.mono (by omega))).trans (hU2.below (by have := hB13.size; omega) (by intro q h1 h2; omega))
            have hlQ4 : w.heap.size + 1 < W4.heap.size := by have := hB13.size; have := hU2.size; omega
            have hsQ4 : SlF (fun k => M k ∨ (w.heap.size ≤ k ∧ k < w.heap.size + 2)) W4 (.slice a1 ps1.length cap1) ps1 := (hs1.below hB13).fr hU2 (by intro k hk; exact .inr (by omega)) (fun _ _ h => h)
            have hbQ4 : SlB (fun k => M k ∨ (w.heap.size ≤ k ∧ k < w.heap.size + 2)) W4 (.slice ab b.length capb) b := ((hbQ.below hb1).below hB13).fr hU2 (by intro k hk; exact .inr (by omega)) (fun _ _ h => h)
            have okQ : OkL ⟨⟨RT.1.D.room, RT.1.D.files, RT.1.D.plan, RT.1.D.down⟩, RT.1.most, RT.1.n, RT.1.size, RT.1.waiting⟩ := okQ0
            have HRES : Hid (RR = appA ⟨⟨RT.1.D.room, RT.1.D.files, RT.1.D.plan, RT.1.D.down⟩, RT.1.most, RT.1.n, RT.1.size, RT.1.waiting⟩ b) := HRES0
            clear hs hn' hc hnone kq0 kq1 hBQ hlQ hbQ c0 c1 c2 c3 c4 c5 c6 c7 hszp hr okQ0 ir1 ir2 hcb0 HRES0 hb1 hs1 hn1 hc1 hb1z kr0 kr1 hV1 hV2 hV3 y0 y1 y2 y3 y4 y5 y6 y7 hB13 ks0 ks1 hU2 hU3 hps hszw
            generalize RT.1.D.room = room at *
            generalize RT.1.D.files = files at *
            generalize RT.1.D.plan = plan at *
            generalize RT.1.D.down = down at *
            generalize RT.1.most = most at *
            generalize RT.1.n = n at *
            generalize RT.1.size = sz at *
            generalize RT.1.waiting = wt at *
            obtain ⟨W0, hW0e⟩ : ∃ x, x = W4 := ⟨_, rfl⟩
            subst hW0e
            obtain ⟨ps, hpe⟩ : ∃ x, x = ps1 := ⟨_, rfl⟩
            subst hpe
            obtain ⟨a, hae⟩ : ∃ x, x = a1 := ⟨_, rfl⟩
            subst hae
            obtain ⟨cap, hce⟩ : ∃ x, x = cap1 := ⟨_, rfl⟩
            subst hce
            have kq0 := hU1
            have kq1 := kt1
            have hBQ := hBQ4
            have hlQ := hlQ4
            have hsQ := hsQ4
            have hbQ := hbQ4
            have hpsQ := hps1
            clear hU1 kt1 hBQ4 hlQ4 hsQ4 hbQ4 hps1
            have hdo : ∀ W, Below W0.heap.size W0 W → Calls Tryz.prog 66 #[.agg (dk5 room (.slice a ps.length cap) plan down), op5 2 (stV (nameB n)) (.string ⟨#[]⟩) (.slice ab b.length capb)] W fun e w' => ∃ v', e = .returned (.tuple #[v', .int .i64 (doA ⟨room, files, plan, down⟩ (.append b) (nameB n)).2]) ∧ Ref5 (fun k => M k ∨ (w.heap.size ≤ k ∧ k < w.heap.size + 2) ∨ (W0.heap.size ≤ k ∧ k < W.heap.size)) w' (doA ⟨room, files, plan, down⟩ (.append b) (nameB n)).1 v' ∧ Below W.heap.size W w' := fun W hW =>
              do5_any (M := (fun k => M k ∨ (w.heap.size ≤ k ∧ k < w.heap.size + 2) ∨ (W0.heap.size ≤ k ∧ k < W.heap.size))) ⟨room, files, plan, down⟩ _ W ⟨_, ps, rfl, hsQ.fr (F := fun _ => False) (Fr.of_below hW) (fun _ h => h.elim) (fun k hk h => by rcases h with h | h | h; exact .inl h; exact .inr h; exact absurd hk (by omega)), hpsQ⟩ (fun k hk => by have := hW.size; rcases hk with hk | hk | hk; have := hM k hk; omega; omega; exact hk.2) (.append b) (nameB n) _ _ ⟨hbQ.fr (F := fun _ => False) (Fr.of_below hW) (fun _ h => h.elim) (fun k hk h => by rcases h with h | h | h; exact .inl h; exact .inr h; exact absurd hk (by omega)), hbl⟩ (fun m h => by cases h) okQ.p0 okQ.p1 (by rw [nameB_length]; omega) okQ.files okQ.used
            have hnm := fun W (c0 c1 c2 c3 c4 c6 c7 : Value) => name8_any c0 c1 c2 c3 c4 c6 c7 n W okQ.n1 (by have h2 : n < 100 := okQ.n2; omega)
            have hszb : (sz : Int) + (b.length : Int) ≤ 9223372036854775807 := by have := okQ.size; simp only at this; omega
            have hwtb : (wt : Int) + 1 ≤ 9223372036854775807 := by have := okQ.wait; simp only at this; omega
            have HAP : Hid (RR = if (doA ⟨room, files, plan, down⟩ (.append b) (nameB n)).2 ≠ 0 then (⟨(doA ⟨room, files, plan, down⟩ (.append b) (nameB n)).1, most, n, sz, wt⟩, (doA ⟨room, files, plan, down⟩ (.append b) (nameB n)).2) else (⟨(doA ⟨room, files, plan, down⟩ (.append b) (nameB n)).1, most, n, sz + b.length, wt + 1⟩, 0)) := HRES.out
            obtain ⟨R1, hR1⟩ : ∃ R, doA ⟨room, files, plan, down⟩ (.append b) (nameB n) = R := ⟨_, rfl⟩
            rw [hR1] at hdo HAP
            clear hR1 HRES okQ
            unfold dk5 op5 stV at hdo
            generalize nameB n = nb at *
            have hl0 : w.heap.size < W0.heap.size := by omega
            have hSS : ∀ W, Below W0.heap.size W0 W → (Below W0.heap.size W0 W ∧ W.cell? ⟨w.heap.size, 0, none⟩ = some (.int .i64 room) ∧ W.cell? ⟨w.heap.size, 1, none⟩ = some (.slice a ps.length cap) ∧ W.cell? ⟨w.heap.size, 2, none⟩ = some (.int .i64 plan) ∧ W.cell? ⟨w.heap.size, 3, none⟩ = some (.bool down) ∧ W.cell? ⟨w.heap.size, 4, none⟩ = some (.int .i64 most) ∧ W.cell? ⟨w.heap.size, 5, none⟩ = some (.int .i64 (n : Int)) ∧ W.cell? ⟨w.heap.size, 6, none⟩ = some (.int .i64 (sz : Int)) ∧ W.cell? ⟨w.heap.size, 7, none⟩ = some (.int .i64 (wt : Int))) := fun W hW => ⟨hW, cells8 ((hW.block _ hl0).trans kq0)⟩
            have hAl : ∀ W C, Below W0.heap.size W0 W → Below W0.heap.size W0 (W.alloc C) := fun W C h => h.alloc h.size C
            have hSd : ∀ W, (Below W0.heap.size W0 W ∧ W.cell? ⟨w.heap.size, 0, none⟩ = some (.int .i64 room) ∧ W.cell? ⟨w.heap.size, 1, none⟩ = some (.slice a ps.length cap) ∧ W.cell? ⟨w.heap.size, 2, none⟩ = some (.int .i64 plan) ∧ W.cell? ⟨w.heap.size, 3, none⟩ = some (.bool down) ∧ W.cell? ⟨w.heap.size, 4, none⟩ = some (.int .i64 most) ∧ W.cell? ⟨w.heap.size, 5, none⟩ = some (.int .i64 (n : Int)) ∧ W.cell? ⟨w.heap.size, 6, none⟩ = some (.int .i64 (sz : Int)) ∧ W.cell? ⟨w.heap.size, 7, none⟩ = some (.int .i64 (wt : Int))) → Below W0.heap.size W0 W := fun W h => h.1
            have hTr : ∀ W W', (Below W0.heap.size W0 W ∧ W.cell? ⟨w.heap.size, 0, none⟩ = some (.int .i64 room) ∧ W.cell? ⟨w.heap.size, 1, none⟩ = some (.slice a ps.length cap) ∧ W.cell? ⟨w.heap.size, 2, none⟩ = some (.int .i64 plan) ∧ W.cell? ⟨w.heap.size, 3, none⟩ = some (.bool down) ∧ W.cell? ⟨w.heap.size, 4, none⟩ = some (.int .i64 most) ∧ W.cell? ⟨w.heap.size, 5, none⟩ = some (.int .i64 (n : Int)) ∧ W.cell? ⟨w.heap.size, 6, none⟩ = some (.int .i64 (sz : Int)) ∧ W.cell? ⟨w.heap.size, 7, none⟩ = some (.int .i64 (wt : Int))) → Below W.heap.size W W' → Below W0.heap.size W0 W' := fun W W' h k => h.1.trans (k.mono h.1.size)
            have hX2 : ∀ W' g c d e f, Below W0.heap.size W0 W' → W0.heap.size ≤ g → Below W0.heap.size W0 ((((W'.setCell ⟨g, 0, none⟩ c).setCell ⟨g, 1, none⟩ d).setCell ⟨g, 2, none⟩ e).setCell ⟨g, 3, none⟩ f) := fun W' g c d e f h hg => (((h.setCell hg c).setCell hg d).setCell hg e).setCell hg f
            have hSf0 := hSS W0.drew (Below.refl _ _).drew
            have hZz : ∀ W : World, (W.alloc (.cells #[.int .i64 0, .slice none 0 0, .int .i64 0, .bool false] 35)).heap[W.heap.size]? = some (.cells #[.int .i64 0, .slice none 0 0, .int .i64 0, .bool false] 35) := fun W => heap_alloc_new W _
            have hZl : ∀ W : World, W.heap.size < (W.alloc (.cells #[.int .i64 0, .slice none 0 0, .int .i64 0, .bool false] 35)).heap.size := fun W => by simp
            have HZ0 : Hid (w.heap.size + 1 < W0.heap.size) := hlQ
            clear hlQ hbQ hsQ hl0
            go_region_held3 (fun W => Below W0.heap.size W0 W ∧ W.cell? ⟨w.heap.size, 0, none⟩ = some (.int .i64 room) ∧ W.cell? ⟨w.heap.size, 1, none⟩ = some (.slice a ps.length cap) ∧ W.cell? ⟨w.heap.size, 2, none⟩ = some (.int .i64 plan) ∧ W.cell? ⟨w.heap.size, 3, none⟩ = some (.bool down) ∧ W.cell? ⟨w.heap.size, 4, none⟩ = some (.int .i64 most) ∧ W.cell? ⟨w.heap.size, 5, none⟩ = some (.int .i64 (n : Int)) ∧ W.cell? ⟨w.heap.size, 6, none⟩ = some (.int .i64 (sz : Int)) ∧ W.cell? ⟨w.heap.size, 7, none⟩ = some (.int .i64 (wt : Int))) (first | assumption | exact hSS _ (hAl _ _ (hSd _ (by assumption))) | exact hSS _ (hAl _ _ (Below.refl _ _)) | exact hSS _ (hX2 _ _ _ _ _ _ hS2.1 (by first | exact Nat.le_refl _ | exact hS1.1.size)) | exact hSS _ (hAl _ _ (Below.refl _ _)).drew)
              (first
                | (go_at_call 69; refine (hnm _ _ _ _ _ _ _ _).mono ?_; rintro e W1 ⟨rfl, hb1⟩; have hS1 := hSS W1 (hTr _ _ (by assumption) hb1); (first | (have hk1 := (hb1.block W0.heap.size (hZl W0)).trans (hZz W0); have hlt1 := Nat.lt_of_lt_of_le (hZl W0) hb1.size) | skip))
                | (go_at_call 66; refine (hdo _ (hSd _ (by assumption))).mono ?_; rintro e W2 ⟨v2, rfl, hr2, hb2⟩; obtain ⟨sv2, ps2, rfl, hs2, hps2⟩ := hr2; obtain ⟨a2, cap2, rfl, hn2', hc2, _, _⟩ := hs2.open; unfold dk5; have hS2 := hSS W2 (hTr _ _ (by assumption) hb2); (first | (have hk2 := (hb2.block W0.heap.size hlt1).trans hk1; clear hk1) | have hk2 := (hb2.block W1.heap.size (hZl W1)).trans (hZz W1) | skip); (try (obtain ⟨u0, u1, u2, u3⟩ := cells4 hk2; have hf0 := frozen_of_row _ _ 0 _ _ hk2; have hf1 := frozen_of_row _ _ 1 _ _ hk2; have hf2 := frozen_of_row _ _ 2 _ _ hk2; have hf3 := frozen_of_row _ _ 3 _ _ hk2))))
            all_goals
              first
                | (have hk3 := (set4 (a := .int .i64 R1.1.room) (b := .slice a2 ps2.length cap2) (c := .int .i64 R1.1.plan) (d := .bool R1.1.down) hk2).1
                   have hf3' := (set4 (a := .int .i64 R1.1.room) (b := .slice a2 ps2.length cap2) (c := .int .i64 R1.1.plan) (d := .bool R1.1.down) hk2).2
                   have hgle : W0.heap.size ≤ W0.heap.size := by first | exact Nat.le_refl _ | exact hS1.1.size
                   have hB3 := hX2 W2 W0.heap.size (.int .i64 R1.1.room) (.slice a2 ps2.length cap2) (.int .i64 R1.1.plan) (.bool R1.1.down) hS2.1 hgle
                   have hgw : w.heap.size + 1 < W0.heap.size := by have := HZ0.out; omega
                   generalize ((((W2.setCell ⟨W0.heap.size, 0, none⟩ (.int .i64 R1.1.room)).setCell ⟨W0.heap.size, 1, none⟩ (.slice a2 ps2.length cap2)).setCell ⟨W0.heap.size, 2, none⟩ (.int .i64 R1.1.plan)).setCell ⟨W0.heap.size, 3, none⟩ (.bool R1.1.down)) = Wf at *
                   have hs3 : SlF (fun k => M k ∨ (w.heap.size ≤ k ∧ k < w.heap.size + 2) ∨ k = W0.heap.size) Wf (.slice a2 ps2.length cap2) ps2 := hs2.fr hf3' (by intro k hk; have := hS1.1.size; have := HZ0.out; exact .inr (.inr ⟨by omega, by first | assumption | omega⟩)) (by intro k hk h; have := hS1.1.size; have := HZ0.out; rcases h with h | h | h; exact .inl h; exact .inr (.inl h); exact .inr (.inr ⟨by omega, by omega⟩))
                   have hgWf : W0.heap.size < Wf.heap.size := (Array.getElem?_eq_some_iff.1 hk3).1
                   have kk0 := (hB3.block w.heap.size (by have := HZ0.out; omega)).trans kq0
                   have kk1 := (hB3.block (w.heap.size + 1) (by have := HZ0.out; omega)).trans kq1
                   have hBw3 : Below w.heap.size w Wf := hBQ.trans (hB3.mono (by have := HZ0.out; omega))
                   generalize hgg : W0.heap.size = g at hk3 hgw hgWf hs3 ⊢)
                | (have hk3 := (set4 (a := .int .i64 R1.1.room) (b := .slice a2 ps2.length cap2) (c := .int .i64 R1.1.plan) (d := .bool R1.1.down) hk2).1
                   have hf3' := (set4 (a := .int .i64 R1.1.room) (b := .slice a2 ps2.length cap2) (c := .int .i64 R1.1.plan) (d := .bool R1.1.down) hk2).2
                   have hgle : W0.heap.size ≤ W1.heap.size := by first | exact Nat.le_refl _ | exact hS1.1.size
                   have hB3 := hX2 W2 W1.heap.size (.int .i64 R1.1.room) (.slice a2 ps2.length cap2) (.int .i64 R1.1.plan) (.bool R1.1.down) hS2.1 hgle
                   have hgw : w.heap.size + 1 < W1.heap.size := by have := HZ0.out; omega
                   generalize ((((W2.setCell ⟨W1.heap.size, 0, none⟩ (.int .i64 R1.1.room)).setCell ⟨W1.heap.size, 1, none⟩ (.slice a2 ps2.length cap2)).setCell ⟨W1.heap.size, 2, none⟩ (.int .i64 R1.1.plan)).setCell ⟨W1.heap.size, 3, none⟩ (.bool R1.1.down)) = Wf at *
                   have hs3 : SlF (fun k => M k ∨ (w.heap.size ≤ k ∧ k < w.heap.size + 2) ∨ k = W1.heap.size) Wf (.slice a2 ps2.length cap2) ps2 := hs2.fr hf3' (by intro k hk; have := hS1.1.size; have := HZ0.out; have := hZl W1; exact .inr (.inr ⟨by omega, by first | assumption | omega⟩)) (by intro k hk h; have := hS1.1.size; have := HZ0.out; have := hZl W1; rcases h with h | h | h; exact .inl h; exact .inr (.inl h); exact .inr (.inr ⟨by omega, by omega⟩))
                   have hgWf : W1.heap.size < Wf.heap.size := (Array.getElem?_eq_some_iff.1 hk3).1
                   have kk0 := (hB3.block w.heap.size (by have := HZ0.out; omega)).trans kq0
                   have kk1 := (hB3.block (w.heap.size + 1) (by have := HZ0.out; omega)).trans kq1
                   have hBw3 : Below w.heap.size w Wf := hBQ.trans (hB3.mono (by have := HZ0.out; omega))
                   generalize hgg : W1.heap.size = g at hk3 hgw hgWf hs3 ⊢)
                | (have hk3 := heap_alloc_new W2 (.cells #[.int .i64 R1.1.room, .slice a2 ps2.length cap2, .int .i64 R1.1.plan, .bool R1.1.down] 35)
                   have hgle : W0.heap.size ≤ W2.heap.size := hS2.1.size
                   have hB3 := hAl W2 (.cells #[.int .i64 R1.1.room, .slice a2 ps2.length cap2, .int .i64 R1.1.plan, .bool R1.1.down] 35) hS2.1
                   have hs3 : SlF (fun k => M k ∨ (w.heap.size ≤ k ∧ k < w.heap.size + 2) ∨ k = W2.heap.size) (W2.alloc (.cells #[.int .i64 R1.1.room, .slice a2 ps2.length cap2, .int .i64 R1.1.plan, .bool R1.1.down] 35)) (.slice a2 ps2.length cap2) ps2 := hs2.fr (F := fun _ => False) (Fr.of_below ((Below.refl _ _).alloc (Nat.le_refl _) _)) (fun _ h => h.elim) (by intro k hk h; rcases h with h | h | h; exact .inl h; exact .inr (.inl h); exact absurd h (by omega))
                   have hgw : w.heap.size + 1 < W2.heap.size := by have := HZ0.out; omega
                   generalize (W2.alloc (.cells #[.int .i64 R1.1.room, .slice a2 ps2.length cap2, .int .i64 R1.1.plan, .bool R1.1.down] 35)) = Wf at *
                   have hgWf : W2.heap.size < Wf.heap.size := (Array.getElem?_eq_some_iff.1 hk3).1
                   have kk0 := (hB3.block w.heap.size (by have := HZ0.out; omega)).trans kq0
                   have kk1 := (hB3.block (w.heap.size + 1) (by have := HZ0.out; omega)).trans kq1
                   have hBw3 : Below w.heap.size w Wf := hBQ.trans (hB3.mono (by have := HZ0.out; omega))
                   generalize hgg : W2.heap.size = g at hk3 hgw hgWf hs3 ⊢)
              clear hgg hSS hSd hAl hTr hX2 hSf0 hZz hZl hS1 hS2 hgle hB3 hs2
              rename_i hh
              clear hh
              clear hdo hnm hb1 hb2 kq0 kq1
              obtain ⟨u0, u1, u2, u3⟩ := cells4 hk3
              by_cases hcz : R1.2 = 0
              · have hcb : (R1.2 == 0) = true := by rw [hcz]; rfl
                have HE : Hid (RR = (⟨R1.1, most, n, sz + b.length, wt + 1⟩, 0)) := by show _ = _; rw [HAP.out, if_neg (by rw [hcz]; decide)]
                go_wp2_with (first
                  | ((with_reducible refine at_sto ?_); refine wpList_store_in rfl (ty := 35) (x := .tmp 65) (y := .tmp 64) rfl w.heap.size 0 37 (.agg #[.int .i64 R1.1.room, .slice a2 ps2.length cap2, .int .i64 R1.1.plan, .bool R1.1.down]) [.int .i64 room, .slice a ps.length cap, .int .i64 plan, .bool down, .int .i64 most, .int .i64 (n : Int), .int .i64 (sz : Int), .int .i64 (wt : Int)] rfl rfl kk0 (by simp [Value.cells]) size35 (by intro u hu; simp [Value.cells] at hu; rcases hu with rfl | rfl | rfl | rfl <;> rfl) ?_; intro W4 hV1 hV2 hV3; replace hV1 : W4.heap[w.heap.size]? = some (.cells #[.int .i64 R1.1.room, .slice a2 ps2.length cap2, .int .i64 R1.1.plan, .bool R1.1.down, .int .i64 most, .int .i64 (n : Int), .int .i64 (sz : Int), .int .i64 (wt : Int)] 37 (0, 0)) := hV1; obtain ⟨y0, y1, y2, y3, y4, y5, y6, y7⟩ := cells8 hV1; have kk1' := (hV2.block (w.heap.size + 1) (by omega) (by intro e; omega)).trans kk1)
                  | ((with_reducible refine at_sto ?_); refine wpList_store_in rfl (ty := 3) (x := .tmp 73)  rfl w.heap.size 6 37 (.int .i64 ((sz : Int) + (b.length : Int))) [.int .i64 R1.1.room, .slice a2 ps2.length cap2, .int .i64 R1.1.plan, .bool R1.1.down, .int .i64 most, .int .i64 (n : Int), .int .i64 (sz : Int), .int .i64 (wt : Int)] rfl rfl hV1 (by simp [Value.cells]) size134' (by intro u hu; simp [Value.cells] at hu; subst hu; rfl) ?_; intro W5 hQ1 hQ2 hQ3; replace hQ1 : W5.heap[w.heap.size]? = some (.cells #[.int .i64 R1.1.room, .slice a2 ps2.length cap2, .int .i64 R1.1.plan, .bool R1.1.down, .int .i64 most, .int .i64 (n : Int), .int .i64 ((sz : Int) + (b.length : Int)), .int .i64 (wt : Int)] 37 (0, 0)) := hQ1; obtain ⟨q0, q1, q2, q3, q4, q5, q6, q7⟩ := cells8 hQ1; have n1 := (hQ2.block (w.heap.size + 1) (by omega) (by intro e; omega)).trans kk1')
                  | ((with_reducible refine at_sto ?_); refine wpList_store_in rfl (ty := 3) (x := .tmp 77)  rfl w.heap.size 7 37 (.int .i64 ((wt : Int) + 1)) [.int .i64 R1.1.room, .slice a2 ps2.length cap2, .int .i64 R1.1.plan, .bool R1.1.down, .int .i64 most, .int .i64 (n : Int), .int .i64 ((sz : Int) + (b.length : Int)), .int .i64 (wt : Int)] rfl rfl hQ1 (by simp [Value.cells]) size134' (by intro u hu; simp [Value.cells] at hu; subst hu; rfl) ?_; intro W6 hR1 hR2 hR3; replace hR1 : W6.heap[w.heap.size]? = some (.cells #[.int .i64 R1.1.room, .slice a2 ps2.length cap2, .int .i64 R1.1.plan, .bool R1.1.down, .int .i64 most, .int .i64 (n : Int), .int .i64 ((sz : Int) + (b.length : Int)), .int .i64 ((wt : Int) + 1)] 37 (0, 0)) := hR1; obtain ⟨r0, r1, r2, r3, r4, r5, r6, r7⟩ := cells8 hR1; have n2 := (hR2.block (w.heap.size + 1) (by omega) (by intro e; omega)).trans n1)
                  | ((with_reducible refine at_sto ?_); refine wpList_store_in rfl (ty := 37) (x := .tmp 4) (y := .tmp 78) rfl (w.heap.size + 1) 0 37 (.agg #[.int .i64 R1.1.room, .slice a2 ps2.length cap2, .int .i64 R1.1.plan, .bool R1.1.down, .int .i64 most, .int .i64 (n : Int), .int .i64 ((sz : Int) + (b.length : Int)), .int .i64 ((wt : Int) + 1)]) [.int .i64 0, .slice none 0 0, .int .i64 0, .bool false, .int .i64 0, .int .i64 0, .int .i64 0, .int .i64 0] rfl rfl n2 (by simp [Value.cells]) size37 (by intro u hu; simp [Value.cells] at hu; rcases hu with rfl | rfl | rfl | rfl | rfl | rfl | rfl | rfl <;> rfl) ?_; intro W9 hE1 hE2 hE3; replace hE1 : W9.heap[(w.heap.size + 1)]? = some (.cells #[.int .i64 R1.1.room, .slice a2 ps2.length cap2, .int .i64 R1.1.plan, .bool R1.1.down, .int .i64 most, .int .i64 (n : Int), .int .i64 ((sz : Int) + (b.length : Int)), .int .i64 ((wt : Int) + 1)] 37 (0, 0)) := hE1))
                refine bodyPost_ret (results_cell_row_tmp (fr := (0, 0)) Tryz.results19 _ _ (w.heap.size + 1) 37 _ _ rfl hE1 Tryz.underlying37 rfl (by kernel_rfl)) rfl ?_
                have hF : Fr (fun k => k = w.heap.size ∨ k = w.heap.size + 1) Wf W9 := (((hV2.mono (fun k _ h => .inl h)).trans hQ2 (fun k _ h => .inl h)).trans hR2 (fun k _ h => .inl h)).trans hE2 (fun k _ h => .inr h)
                have hBf : Below w.heap.size w W9 := hBw3.trans (hF.below (by omega) (by intro q h1 h2; omega))
                rw [HE.out]
                refine ⟨_, rfl, ⟨.slice a2 ps2.length cap2, ps2, by show _ = Value.agg (lg8 _ _ _ _ _ _ ((sz + b.length : Nat)) ((wt + 1 : Nat))); unfold lg8; rw [show ((sz + b.length : Nat) : Int) = (sz : Int) + (b.length : Int) by omega, show ((wt + 1 : Nat) : Int) = (wt : Int) + 1 by omega], hs3.fr hF (by intro k hk; rcases hk with rfl | rfl; exact .inr (.inl ⟨by omega, by omega⟩); exact .inr (.inl ⟨by omega, by omega⟩)) (fun _ _ h => .inl h), hps2⟩, hBf⟩
              · have hcb : (R1.2 == 0) = false := by simpa using hcz
                have HE : Hid (RR = (⟨R1.1, most, n, sz, wt⟩, R1.2)) := by show _ = _; rw [HAP.out, if_pos hcz]
                go_wp2_with (first
                  | ((with_reducible refine at_sto ?_); refine wpList_store_in rfl (ty := 35) (x := .tmp 65) (y := .tmp 64) rfl w.heap.size 0 37 (.agg #[.int .i64 R1.1.room, .slice a2 ps2.length cap2, .int .i64 R1.1.plan, .bool R1.1.down]) [.int .i64 room, .slice a ps.length cap, .int .i64 plan, .bool down, .int .i64 most, .int .i64 (n : Int), .int .i64 (sz : Int), .int .i64 (wt : Int)] rfl rfl kk0 (by simp [Value.cells]) size35 (by intro u hu; simp [Value.cells] at hu; rcases hu with rfl | rfl | rfl | rfl <;> rfl) ?_; intro W4 hV1 hV2 hV3; replace hV1 : W4.heap[w.heap.size]? = some (.cells #[.int .i64 R1.1.room, .slice a2 ps2.length cap2, .int .i64 R1.1.plan, .bool R1.1.down, .int .i64 most, .int .i64 (n : Int), .int .i64 (sz : Int), .int .i64 (wt : Int)] 37 (0, 0)) := hV1; obtain ⟨y0, y1, y2, y3, y4, y5, y6, y7⟩ := cells8 hV1; have kk1' := (hV2.block (w.heap.size + 1) (by omega) (by intro e; omega)).trans kk1)
                  | ((with_reducible refine at_sto ?_); refine wpList_store_in rfl (ty := 37) (x := .tmp 4) (y := .tmp 78) rfl (w.heap.size + 1) 0 37 (.agg #[.int .i64 R1.1.room, .slice a2 ps2.length cap2, .int .i64 R1.1.plan, .bool R1.1.down, .int .i64 most, .int .i64 (n : Int), .int .i64 (sz : Int), .int .i64 (wt : Int)]) [.int .i64 0, .slice none 0 0, .int .i64 0, .bool false, .int .i64 0, .int .i64 0, .int .i64 0, .int .i64 0] rfl rfl kk1' (by simp [Value.cells]) size37 (by intro u hu; simp [Value.cells] at hu; rcases hu with rfl | rfl | rfl | rfl | rfl | rfl | rfl | rfl <;> rfl) ?_; intro W9 hE1 hE2 hE3; replace hE1 : W9.heap[(w.heap.size + 1)]? = some (.cells #[.int .i64 R1.1.room, .slice a2 ps2.length cap2, .int .i64 R1.1.plan, .bool R1.1.down, .int .i64 most, .int .i64 (n : Int), .int .i64 (sz : Int), .int .i64 (wt : Int)] 37 (0, 0)) := hE1))
                refine bodyPost_ret (results_cell_row_tmp (fr := (0, 0)) Tryz.results19 _ _ (w.heap.size + 1) 37 _ _ rfl hE1 Tryz.underlying37 rfl (by kernel_rfl)) rfl ?_
                have hF : Fr (fun k => k = w.heap.size ∨ k = w.heap.size + 1) Wf W9 := (hV2.mono (fun k _ h => .inl h)).trans hE2 (fun k _ h => .inr h)
                have hBf : Below w.heap.size w W9 := hBw3.trans (hF.below (by omega) (by intro q h1 h2; omega))
                rw [HE.out]
                refine ⟨_, rfl, ⟨.slice a2 ps2.length cap2, ps2, rfl, hs3.fr hF (by intro k hk; rcases hk with rfl | rfl; exact .inr (.inl ⟨by omega, by omega⟩); exact .inr (.inl ⟨by omega, by omega⟩)) (fun _ _ h => .inl h), hps2⟩, hBf⟩
          · have hcb0 : (RT.2 != 0) = true := by simpa using hrc
            have HE : Hid (RR = RT) := by show _ = _; rw [hpR1, if_pos hrc]
            clear hpR1 hrc
            go_wp2_with (first
              | (go_at_call 68; refine hr.mono ?_; rintro e w1 ⟨v1, rfl, hr1, hb1⟩; obtain ⟨sv1, ps1, rfl, hs1, hps1⟩ := hr1; obtain ⟨a1, cap1, rfl, hn1, hc1, _, _⟩ := hs1.open; unfold lg8; have hb1z := hb1.size; have kr0 := (hb1.block w.heap.size (by omega)).trans kq0; have kr1 := (hb1.block (w.heap.size + 1) (by omega)).trans kq1)
              | ((with_reducible refine at_sto ?_); refine wpList_store_in rfl (ty := 37) (x := .tmp 8) (y := .tmp 47) rfl w1.heap.size 0 37 (.agg #[.int .i64 RT.1.D.room, .slice a1 ps1.length cap1, .int .i64 RT.1.D.plan, .bool RT.1.D.down, .int .i64 RT.1.most, .int .i64 (RT.1.n : Int), .int .i64 (RT.1.size : Int), .int .i64 (RT.1.waiting : Int)]) [.int .i64 0, .slice none 0 0, .int .i64 0, .bool false, .int .i64 0, .int .i64 0, .int .i64 0, .int .i64 0] rfl rfl (heap_alloc_new _ _) (by simp [Value.cells]) size37 (by intro u hu; simp [Value.cells] at hu; rcases hu with rfl | rfl | rfl | rfl | rfl | rfl | rfl | rfl <;> rfl) ?_; intro W3 hV1 hV2 hV3; replace hV1 : W3.heap[w1.heap.size]? = some (.cells #[.int .i64 RT.1.D.room, .slice a1 ps1.length cap1, .int .i64 RT.1.D.plan, .bool RT.1.D.down, .int .i64 RT.1.most, .int .i64 (RT.1.n : Int), .int .i64 (RT.1.size : Int), .int .i64 (RT.1.waiting : Int)] 37 (0, 0)) := hV1; obtain ⟨y0, y1, y2, y3, y4, y5, y6, y7⟩ := cells8 hV1; have hB13 : Below w1.heap.size w1 W3 := (boxF w1 _).1.trans (hV2.below (by have := (boxF w1 (.cells #[.int .i64 0, .slice none 0 0, .int .i64 0, .bool false, .int .i64 0, .int .i64 0, .int .i64 0, .int .i64 0] 37)).2.1; omega) (by intro q h1 h2; omega)); have ks0 := (hB13.block w.heap.size (by omega)).trans kr0; have ks1 := (hB13.block (w.heap.size + 1) (by omega)).trans kr1)
              | ((with_reducible refine at_sto ?_); refine wpList_store_in rfl (ty := 37) (x := .tmp 4) (y := .tmp 51) rfl (w.heap.size + 1) 0 37 (.agg #[.int .i64 RT.1.D.room, .slice a1 ps1.length cap1, .int .i64 RT.1.D.plan, .bool RT.1.D.down, .int .i64 RT.1.most, .int .i64 (RT.1.n : Int), .int .i64 (RT.1.size : Int), .int .i64 (RT.1.waiting : Int)]) [.int .i64 0, .slice none 0 0, .int .i64 0, .bool false, .int .i64 0, .int .i64 0, .int .i64 0, .int .i64 0] rfl rfl ks1 (by simp [Value.cells]) size37 (by intro u hu; simp [Value.cells] at hu; rcases hu with rfl | rfl | rfl | rfl | rfl | rfl | rfl | rfl <;> rfl) ?_; intro W9 hE1 hE2 hE3; replace hE1 : W9.heap[(w.heap.size + 1)]? = some (.cells #[.int .i64 RT.1.D.room, .slice a1 ps1.length cap1, .int .i64 RT.1.D.plan, .bool RT.1.D.down, .int .i64 RT.1.most, .int .i64 (RT.1.n : Int), .int .i64 (RT.1.size : Int), .int .i64 (RT.1.waiting : Int)] 37 (0, 0)) := hE1))
            refine bodyPost_ret (results_cell_row_tmp (fr := (0, 0)) Tryz.results19 _ _ (w.heap.size + 1) 37 _ _ rfl hE1 Tryz.underlying37 rfl (by kernel_rfl)) rfl ?_
            have hBf : Below w.heap.size w W9 := ((hBQ.trans (hb1.mono (by omega))).trans (hB13.mono (by omega))).trans (hE2.below (by have := hB13.size; omega) (by intro q h1 h2; omega))
            rw [HE.out]
            exact ⟨_, rfl, ⟨.slice a1 ps1.length cap1, ps1, rfl, (hs1.below hB13).fr hE2 (by intro k hk; exact .inr (by omega)) (fun _ _ h => .inl h), hps1⟩, hBf⟩
        · have HRES : Hid (RR = appA ⟨⟨room, files, plan, down⟩, most, n, sz, wt⟩ b) := hpA hrot
          have okQ := ok1
          have hsQ : SlF (fun k => M k ∨ (w.heap.size ≤ k ∧ k < w.heap.size + 2)) W0 (.slice a ps.length cap) ps := hs.fr (F := fun _ => False) (Fr.of_below hBQ) (fun _ h => h.elim) (fun k hk h => h.elim id (fun h => by omega))
          have hpsQ := hps
          by_cases hs0 : 0 < sz
          · have ir1 : (0 : Int) < (sz : Int) := by omega
            have ir2 : ¬ most < (sz : Int) + (b.length : Int) := fun h => hrot ⟨hs0, h⟩
            clear hmk hB0 hB2 k0 k1 hB hzB hpA hpR hrt hok2 ok1 hbs hrot
            go_wp2_with fail
            clear c0 c1 c2 c3 c4 c5 c6 c7
            have hdo : ∀ W, Below W0.heap.size W0 W → Calls Tryz.prog 66 #[.agg (dk5 room (.slice a ps.length cap) plan down), op5 2 (stV (nameB n)) (.string ⟨#[]⟩) (.slice ab b.length capb)] W fun e w' => ∃ v', e = .returned (.tuple #[v', .int .i64 (doA ⟨room, files, plan, down⟩ (.append b) (nameB n)).2]) ∧ Ref5 (fun k => M k ∨ (w.heap.size ≤ k ∧ k < w.heap.size + 2) ∨ (W0.heap.size ≤ k ∧ k < W.heap.size)) w' (doA ⟨room, files, plan, down⟩ (.append b) (nameB n)).1 v' ∧ Below W.heap.size W w' := fun W hW =>
              do5_any (M := (fun k => M k ∨ (w.heap.size ≤ k ∧ k < w.heap.size + 2) ∨ (W0.heap.size ≤ k ∧ k < W.heap.size))) ⟨room, files, plan, down⟩ _ W ⟨_, ps, rfl, hsQ.fr (F := fun _ => False) (Fr.of_below hW) (fun _ h => h.elim) (fun k hk h => by rcases h with h | h | h; exact .inl h; exact .inr h; exact absurd hk (by omega)), hpsQ⟩ (fun k hk => by have := hW.size; rcases hk with hk | hk | hk; have := hM k hk; omega; omega; exact hk.2) (.append b) (nameB n) _ _ ⟨hbQ.fr (F := fun _ => False) (Fr.of_below hW) (fun _ h => h.elim) (fun k hk h => by rcases h with h | h | h; exact .inl h; exact .inr h; exact absurd hk (by omega)), hbl⟩ (fun m h => by cases h) okQ.p0 okQ.p1 (by rw [nameB_length]; omega) okQ.files okQ.used
            have hnm := fun W (c0 c1 c2 c3 c4 c6 c7 : Value) => name8_any c0 c1 c2 c3 c4 c6 c7 n W okQ.n1 (by have h2 : n < 100 := okQ.n2; omega)
            have hszb : (sz : Int) + (b.length : Int) ≤ 9223372036854775807 := by have := okQ.size; simp only at this; omega
            have hwtb : (wt : Int) + 1 ≤ 9223372036854775807 := by have := okQ.wait; simp only at this; omega
            have HAP : Hid (RR = if (doA ⟨room, files, plan, down⟩ (.append b) (nameB n)).2 ≠ 0 then (⟨(doA ⟨room, files, plan, down⟩ (.append b) (nameB n)).1, most, n, sz, wt⟩, (doA ⟨room, files, plan, down⟩ (.append b) (nameB n)).2) else (⟨(doA ⟨room, files, plan, down⟩ (.append b) (nameB n)).1, most, n, sz + b.length, wt + 1⟩, 0)) := HRES.out
            obtain ⟨R1, hR1⟩ : ∃ R, doA ⟨room, files, plan, down⟩ (.append b) (nameB n) = R := ⟨_, rfl⟩
            rw [hR1] at hdo HAP
            clear hR1 HRES okQ
            unfold dk5 op5 stV at hdo
            generalize nameB n = nb at *
            have hl0 : w.heap.size < W0.heap.size := by omega
            have hSS : ∀ W, Below W0.heap.size W0 W → (Below W0.heap.size W0 W ∧ W.cell? ⟨w.heap.size, 0, none⟩ = some (.int .i64 room) ∧ W.cell? ⟨w.heap.size, 1, none⟩ = some (.slice a ps.length cap) ∧ W.cell? ⟨w.heap.size, 2, none⟩ = some (.int .i64 plan) ∧ W.cell? ⟨w.heap.size, 3, none⟩ = some (.bool down) ∧ W.cell? ⟨w.heap.size, 4, none⟩ = some (.int .i64 most) ∧ W.cell? ⟨w.heap.size, 5, none⟩ = some (.int .i64 (n : Int)) ∧ W.cell? ⟨w.heap.size, 6, none⟩ = some (.int .i64 (sz : Int)) ∧ W.cell? ⟨w.heap.size, 7, none⟩ = some (.int .i64 (wt : Int))) := fun W hW => ⟨hW, cells8 ((hW.block _ hl0).trans kq0)⟩
            have hAl : ∀ W C, Below W0.heap.size W0 W → Below W0.heap.size W0 (W.alloc C) := fun W C h => h.alloc h.size C
            have hSd : ∀ W, (Below W0.heap.size W0 W ∧ W.cell? ⟨w.heap.size, 0, none⟩ = some (.int .i64 room) ∧ W.cell? ⟨w.heap.size, 1, none⟩ = some (.slice a ps.length cap) ∧ W.cell? ⟨w.heap.size, 2, none⟩ = some (.int .i64 plan) ∧ W.cell? ⟨w.heap.size, 3, none⟩ = some (.bool down) ∧ W.cell? ⟨w.heap.size, 4, none⟩ = some (.int .i64 most) ∧ W.cell? ⟨w.heap.size, 5, none⟩ = some (.int .i64 (n : Int)) ∧ W.cell? ⟨w.heap.size, 6, none⟩ = some (.int .i64 (sz : Int)) ∧ W.cell? ⟨w.heap.size, 7, none⟩ = some (.int .i64 (wt : Int))) → Below W0.heap.size W0 W := fun W h => h.1
            have hTr : ∀ W W', (Below W0.heap.size W0 W ∧ W.cell? ⟨w.heap.size, 0, none⟩ = some (.int .i64 room) ∧ W.cell? ⟨w.heap.size, 1, none⟩ = some (.slice a ps.length cap) ∧ W.cell? ⟨w.heap.size, 2, none⟩ = some (.int .i64 plan) ∧ W.cell? ⟨w.heap.size, 3, none⟩ = some (.bool down) ∧ W.cell? ⟨w.heap.size, 4, none⟩ = some (.int .i64 most) ∧ W.cell? ⟨w.heap.size, 5, none⟩ = some (.int .i64 (n : Int)) ∧ W.cell? ⟨w.heap.size, 6, none⟩ = some (.int .i64 (sz : Int)) ∧ W.cell? ⟨w.heap.size, 7, none⟩ = some (.int .i64 (wt : Int))) → Below W.heap.size W W' → Below W0.heap.size W0 W' := fun W W' h k => h.1.trans (k.mono h.1.size)
            have hX2 : ∀ W' g c d e f, Below W0.heap.size W0 W' → W0.heap.size ≤ g → Below W0.heap.size W0 ((((W'.setCell ⟨g, 0, none⟩ c).setCell ⟨g, 1, none⟩ d).setCell ⟨g, 2, none⟩ e).setCell ⟨g, 3, none⟩ f) := fun W' g c d e f h hg => (((h.setCell hg c).setCell hg d).setCell hg e).setCell hg f
            have hSf0 := hSS W0.drew (Below.refl _ _).drew
            have hZz : ∀ W : World, (W.alloc (.cells #[.int .i64 0, .slice none 0 0, .int .i64 0, .bool false] 35)).heap[W.heap.size]? = some (.cells #[.int .i64 0, .slice none 0 0, .int .i64 0, .bool false] 35) := fun W => heap_alloc_new W _
            have hZl : ∀ W : World, W.heap.size < (W.alloc (.cells #[.int .i64 0, .slice none 0 0, .int .i64 0, .bool false] 35)).heap.size := fun W => by simp
            have HZ0 : Hid (w.heap.size + 1 < W0.heap.size) := hlQ
            clear hlQ hbQ hsQ hl0
            go_region_held3 (fun W => Below W0.heap.size W0 W ∧ W.cell? ⟨w.heap.size, 0, none⟩ = some (.int .i64 room) ∧ W.cell? ⟨w.heap.size, 1, none⟩ = some (.slice a ps.length cap) ∧ W.cell? ⟨w.heap.size, 2, none⟩ = some (.int .i64 plan) ∧ W.cell? ⟨w.heap.size, 3, none⟩ = some (.bool down) ∧ W.cell? ⟨w.heap.size, 4, none⟩ = some (.int .i64 most) ∧ W.cell? ⟨w.heap.size, 5, none⟩ = some (.int .i64 (n : Int)) ∧ W.cell? ⟨w.heap.size, 6, none⟩ = some (.int .i64 (sz : Int)) ∧ W.cell? ⟨w.heap.size, 7, none⟩ = some (.int .i64 (wt : Int))) (first | assumption | exact hSS _ (hAl _ _ (hSd _ (by assumption))) | exact hSS _ (hAl _ _ (Below.refl _ _)) | exact hSS _ (hX2 _ _ _ _ _ _ hS2.1 (by first | exact Nat.le_refl _ | exact hS1.1.size)) | exact hSS _ (hAl _ _ (Below.refl _ _)).drew)
              (first
                | (go_at_call 69; refine (hnm _ _ _ _ _ _ _ _).mono ?_; rintro e W1 ⟨rfl, hb1⟩; have hS1 := hSS W1 (hTr _ _ (by assumption) hb1); (first | (have hk1 := (hb1.block W0.heap.size (hZl W0)).trans (hZz W0); have hlt1 := Nat.lt_of_lt_of_le (hZl W0) hb1.size) | skip))
                | (go_at_call 66; refine (hdo _ (hSd _ (by assumption))).mono ?_; rintro e W2 ⟨v2, rfl, hr2, hb2⟩; obtain ⟨sv2, ps2, rfl, hs2, hps2⟩ := hr2; obtain ⟨a2, cap2, rfl, hn2', hc2, _, _⟩ := hs2.open; unfold dk5; have hS2 := hSS W2 (hTr _ _ (by assumption) hb2); (first | (have hk2 := (hb2.block W0.heap.size hlt1).trans hk1; clear hk1) | have hk2 := (hb2.block W1.heap.size (hZl W1)).trans (hZz W1) | skip); (try (obtain ⟨u0, u1, u2, u3⟩ := cells4 hk2; have hf0 := frozen_of_row _ _ 0 _ _ hk2; have hf1 := frozen_of_row _ _ 1 _ _ hk2; have hf2 := frozen_of_row _ _ 2 _ _ hk2; have hf3 := frozen_of_row _ _ 3 _ _ hk2))))
            all_goals
              first
                | (have hk3 := (set4 (a := .int .i64 R1.1.room) (b := .slice a2 ps2.length cap2) (c := .int .i64 R1.1.plan) (d := .bool R1.1.down) hk2).1
                   have hf3' := (set4 (a := .int .i64 R1.1.room) (b := .slice a2 ps2.length cap2) (c := .int .i64 R1.1.plan) (d := .bool R1.1.down) hk2).2
                   have hgle : W0.heap.size ≤ W0.heap.size := by first | exact Nat.le_refl _ | exact hS1.1.size
                   have hB3 := hX2 W2 W0.heap.size (.int .i64 R1.1.room) (.slice a2 ps2.length cap2) (.int .i64 R1.1.plan) (.bool R1.1.down) hS2.1 hgle
                   have hgw : w.heap.size + 1 < W0.heap.size := by have := HZ0.out; omega
                   generalize ((((W2.setCell ⟨W0.heap.size, 0, none⟩ (.int .i64 R1.1.room)).setCell ⟨W0.heap.size, 1, none⟩ (.slice a2 ps2.length cap2)).setCell ⟨W0.heap.size, 2, none⟩ (.int .i64 R1.1.plan)).setCell ⟨W0.heap.size, 3, none⟩ (.bool R1.1.down)) = Wf at *
                   have hs3 : SlF (fun k => M k ∨ (w.heap.size ≤ k ∧ k < w.heap.size + 2) ∨ k = W0.heap.size) Wf (.slice a2 ps2.length cap2) ps2 := hs2.fr hf3' (by intro k hk; have := hS1.1.size; have := HZ0.out; exact .inr (.inr ⟨by omega, by first | assumption | omega⟩)) (by intro k hk h; have := hS1.1.size; have := HZ0.out; rcases h with h | h | h; exact .inl h; exact .inr (.inl h); exact .inr (.inr ⟨by omega, by omega⟩))
                   have hgWf : W0.heap.size < Wf.heap.size := (Array.getElem?_eq_some_iff.1 hk3).1
                   have kk0 := (hB3.block w.heap.size (by have := HZ0.out; omega)).trans kq0
                   have kk1 := (hB3.block (w.heap.size + 1) (by have := HZ0.out; omega)).trans kq1
                   have hBw3 : Below w.heap.size w Wf := hBQ.trans (hB3.mono (by have := HZ0.out; omega))
                   generalize hgg : W0.heap.size = g at hk3 hgw hgWf hs3 ⊢)
                | (have hk3 := (set4 (a := .int .i64 R1.1.room) (b := .slice a2 ps2.length cap2) (c := .int .i64 R1.1.plan) (d := .bool R1.1.down) hk2).1
                   have hf3' := (set4 (a := .int .i64 R1.1.room) (b := .slice a2 ps2.length cap2) (c := .int .i64 R1.1.plan) (d := .bool R1.1.down) hk2).2
                   have hgle : W0.heap.size ≤ W1.heap.size := by first | exact Nat.le_refl _ | exact hS1.1.size
                   have hB3 := hX2 W2 W1.heap.size (.int .i64 R1.1.room) (.slice a2 ps2.length cap2) (.int .i64 R1.1.plan) (.bool R1.1.down) hS2.1 hgle
                   have hgw : w.heap.size + 1 < W1.heap.size := by have := HZ0.out; omega
                   generalize ((((W2.setCell ⟨W1.heap.size, 0, none⟩ (.int .i64 R1.1.room)).setCell ⟨W1.heap.size, 1, none⟩ (.slice a2 ps2.length cap2)).setCell ⟨W1.heap.size, 2, none⟩ (.int .i64 R1.1.plan)).setCell ⟨W1.heap.size, 3, none⟩ (.bool R1.1.down)) = Wf at *
                   have hs3 : SlF (fun k => M k ∨ (w.heap.size ≤ k ∧ k < w.heap.size + 2) ∨ k = W1.heap.size) Wf (.slice a2 ps2.length cap2) ps2 := hs2.fr hf3' (by intro k hk; have := hS1.1.size; have := HZ0.out; have := hZl W1; exact .inr (.inr ⟨by omega, by first | assumption | omega⟩)) (by intro k hk h; have := hS1.1.size; have := HZ0.out; have := hZl W1; rcases h with h | h | h; exact .inl h; exact .inr (.inl h); exact .inr (.inr ⟨by omega, by omega⟩))
                   have hgWf : W1.heap.size < Wf.heap.size := (Array.getElem?_eq_some_iff.1 hk3).1
                   have kk0 := (hB3.block w.heap.size (by have := HZ0.out; omega)).trans kq0
                   have kk1 := (hB3.block (w.heap.size + 1) (by have := HZ0.out; omega)).trans kq1
                   have hBw3 : Below w.heap.size w Wf := hBQ.trans (hB3.mono (by have := HZ0.out; omega))
                   generalize hgg : W1.heap.size = g at hk3 hgw hgWf hs3 ⊢)
                | (have hk3 := heap_alloc_new W2 (.cells #[.int .i64 R1.1.room, .slice a2 ps2.length cap2, .int .i64 R1.1.plan, .bool R1.1.down] 35)
                   have hgle : W0.heap.size ≤ W2.heap.size := hS2.1.size
                   have hB3 := hAl W2 (.cells #[.int .i64 R1.1.room, .slice a2 ps2.length cap2, .int .i64 R1.1.plan, .bool R1.1.down] 35) hS2.1
                   have hs3 : SlF (fun k => M k ∨ (w.heap.size ≤ k ∧ k < w.heap.size + 2) ∨ k = W2.heap.size) (W2.alloc (.cells #[.int .i64 R1.1.room, .slice a2 ps2.length cap2, .int .i64 R1.1.plan, .bool R1.1.down] 35)) (.slice a2 ps2.length cap2) ps2 := hs2.fr (F := fun _ => False) (Fr.of_below ((Below.refl _ _).alloc (Nat.le_refl _) _)) (fun _ h => h.elim) (by intro k hk h; rcases h with h | h | h; exact .inl h; exact .inr (.inl h); exact absurd h (by omega))
                   have hgw : w.heap.size + 1 < W2.heap.size := by have := HZ0.out; omega
                   generalize (W2.alloc (.cells #[.int .i64 R1.1.room, .slice a2 ps2.length cap2, .int .i64 R1.1.plan, .bool R1.1.down] 35)) = Wf at *
                   have hgWf : W2.heap.size < Wf.heap.size := (Array.getElem?_eq_some_iff.1 hk3).1
                   have kk0 := (hB3.block w.heap.size (by have := HZ0.out; omega)).trans kq0
                   have kk1 := (hB3.block (w.heap.size + 1) (by have := HZ0.out; omega)).trans kq1
                   have hBw3 : Below w.heap.size w Wf := hBQ.trans (hB3.mono (by have := HZ0.out; omega))
                   generalize hgg : W2.heap.size = g at hk3 hgw hgWf hs3 ⊢)
              clear hgg hSS hSd hAl hTr hX2 hSf0 hZz hZl hS1 hS2 hgle hB3 hs2
              rename_i hh
              clear hh
              clear hdo hnm hb1 hb2 kq0 kq1
              obtain ⟨u0, u1, u2, u3⟩ := cells4 hk3
              by_cases hcz : R1.2 = 0
              · have hcb : (R1.2 == 0) = true := by rw [hcz]; rfl
                have HE : Hid (RR = (⟨R1.1, most, n, sz + b.length, wt + 1⟩, 0)) := by show _ = _; rw [HAP.out, if_neg (by rw [hcz]; decide)]
                go_wp2_with (first
                  | ((with_reducible refine at_sto ?_); refine wpList_store_in rfl (ty := 35) (x := .tmp 65) (y := .tmp 64) rfl w.heap.size 0 37 (.agg #[.int .i64 R1.1.room, .slice a2 ps2.length cap2, .int .i64 R1.1.plan, .bool R1.1.down]) [.int .i64 room, .slice a ps.length cap, .int .i64 plan, .bool down, .int .i64 most, .int .i64 (n : Int), .int .i64 (sz : Int), .int .i64 (wt : Int)] rfl rfl kk0 (by simp [Value.cells]) size35 (by intro u hu; simp [Value.cells] at hu; rcases hu with rfl | rfl | rfl | rfl <;> rfl) ?_; intro W4 hV1 hV2 hV3; replace hV1 : W4.heap[w.heap.size]? = some (.cells #[.int .i64 R1.1.room, .slice a2 ps2.length cap2, .int .i64 R1.1.plan, .bool R1.1.down, .int .i64 most, .int .i64 (n : Int), .int .i64 (sz : Int), .int .i64 (wt : Int)] 37 (0, 0)) := hV1; obtain ⟨y0, y1, y2, y3, y4, y5, y6, y7⟩ := cells8 hV1; have kk1' := (hV2.block (w.heap.size + 1) (by omega) (by intro e; omega)).trans kk1)
                  | ((with_reducible refine at_sto ?_); refine wpList_store_in rfl (ty := 3) (x := .tmp 73)  rfl w.heap.size 6 37 (.int .i64 ((sz : Int) + (b.length : Int))) [.int .i64 R1.1.room, .slice a2 ps2.length cap2, .int .i64 R1.1.plan, .bool R1.1.down, .int .i64 most, .int .i64 (n : Int), .int .i64 (sz : Int), .int .i64 (wt : Int)] rfl rfl hV1 (by simp [Value.cells]) size134' (by intro u hu; simp [Value.cells] at hu; subst hu; rfl) ?_; intro W5 hQ1 hQ2 hQ3; replace hQ1 : W5.heap[w.heap.size]? = some (.cells #[.int .i64 R1.1.room, .slice a2 ps2.length cap2, .int .i64 R1.1.plan, .bool R1.1.down, .int .i64 most, .int .i64 (n : Int), .int .i64 ((sz : Int) + (b.length : Int)), .int .i64 (wt : Int)] 37 (0, 0)) := hQ1; obtain ⟨q0, q1, q2, q3, q4, q5, q6, q7⟩ := cells8 hQ1; have n1 := (hQ2.block (w.heap.size + 1) (by omega) (by intro e; omega)).trans kk1')
                  | ((with_reducible refine at_sto ?_); refine wpList_store_in rfl (ty := 3) (x := .tmp 77)  rfl w.heap.size 7 37 (.int .i64 ((wt : Int) + 1)) [.int .i64 R1.1.room, .slice a2 ps2.length cap2, .int .i64 R1.1.plan, .bool R1.1.down, .int .i64 most, .int .i64 (n : Int), .int .i64 ((sz : Int) + (b.length : Int)), .int .i64 (wt : Int)] rfl rfl hQ1 (by simp [Value.cells]) size134' (by intro u hu; simp [Value.cells] at hu; subst hu; rfl) ?_; intro W6 hR1 hR2 hR3; replace hR1 : W6.heap[w.heap.size]? = some (.cells #[.int .i64 R1.1.room, .slice a2 ps2.length cap2, .int .i64 R1.1.plan, .bool R1.1.down, .int .i64 most, .int .i64 (n : Int), .int .i64 ((sz : Int) + (b.length : Int)), .int .i64 ((wt : Int) + 1)] 37 (0, 0)) := hR1; obtain ⟨r0, r1, r2, r3, r4, r5, r6, r7⟩ := cells8 hR1; have n2 := (hR2.block (w.heap.size + 1) (by omega) (by intro e; omega)).trans n1)
                  | ((with_reducible refine at_sto ?_); refine wpList_store_in rfl (ty := 37) (x := .tmp 4) (y := .tmp 78) rfl (w.heap.size + 1) 0 37 (.agg #[.int .i64 R1.1.room, .slice a2 ps2.length cap2, .int .i64 R1.1.plan, .bool R1.1.down, .int .i64 most, .int .i64 (n : Int), .int .i64 ((sz : Int) + (b.length : Int)), .int .i64 ((wt : Int) + 1)]) [.int .i64 0, .slice none 0 0, .int .i64 0, .bool false, .int .i64 0, .int .i64 0, .int .i64 0, .int .i64 0] rfl rfl n2 (by simp [Value.cells]) size37 (by intro u hu; simp [Value.cells] at hu; rcases hu with rfl | rfl | rfl | rfl | rfl | rfl | rfl | rfl <;> rfl) ?_; intro W9 hE1 hE2 hE3; replace hE1 : W9.heap[(w.heap.size + 1)]? = some (.cells #[.int .i64 R1.1.room, .slice a2 ps2.length cap2, .int .i64 R1.1.plan, .bool R1.1.down, .int .i64 most, .int .i64 (n : Int), .int .i64 ((sz : Int) + (b.length : Int)), .int .i64 ((wt : Int) + 1)] 37 (0, 0)) := hE1))
                refine bodyPost_ret (results_cell_row_tmp (fr := (0, 0)) Tryz.results19 _ _ (w.heap.size + 1) 37 _ _ rfl hE1 Tryz.underlying37 rfl (by kernel_rfl)) rfl ?_
                have hF : Fr (fun k => k = w.heap.size ∨ k = w.heap.size + 1) Wf W9 := (((hV2.mono (fun k _ h => .inl h)).trans hQ2 (fun k _ h => .inl h)).trans hR2 (fun k _ h => .inl h)).trans hE2 (fun k _ h => .inr h)
                have hBf : Below w.heap.size w W9 := hBw3.trans (hF.below (by omega) (by intro q h1 h2; omega))
                rw [HE.out]
                refine ⟨_, rfl, ⟨.slice a2 ps2.length cap2, ps2, by show _ = Value.agg (lg8 _ _ _ _ _ _ ((sz + b.length : Nat)) ((wt + 1 : Nat))); unfold lg8; rw [show ((sz + b.length : Nat) : Int) = (sz : Int) + (b.length : Int) by omega, show ((wt + 1 : Nat) : Int) = (wt : Int) + 1 by omega], hs3.fr hF (by intro k hk; rcases hk with rfl | rfl; exact .inr (.inl ⟨by omega, by omega⟩); exact .inr (.inl ⟨by omega, by omega⟩)) (fun _ _ h => .inl h), hps2⟩, hBf⟩
              · have hcb : (R1.2 == 0) = false := by simpa using hcz
                have HE : Hid (RR = (⟨R1.1, most, n, sz, wt⟩, R1.2)) := by show _ = _; rw [HAP.out, if_pos hcz]
                go_wp2_with (first
                  | ((with_reducible refine at_sto ?_); refine wpList_store_in rfl (ty := 35) (x := .tmp 65) (y := .tmp 64) rfl w.heap.size 0 37 (.agg #[.int .i64 R1.1.room, .slice a2 ps2.length cap2, .int .i64 R1.1.plan, .bool R1.1.down]) [.int .i64 room, .slice a ps.length cap, .int .i64 plan, .bool down, .int .i64 most, .int .i64 (n : Int), .int .i64 (sz : Int), .int .i64 (wt : Int)] rfl rfl kk0 (by simp [Value.cells]) size35 (by intro u hu; simp [Value.cells] at hu; rcases hu with rfl | rfl | rfl | rfl <;> rfl) ?_; intro W4 hV1 hV2 hV3; replace hV1 : W4.heap[w.heap.size]? = some (.cells #[.int .i64 R1.1.room, .slice a2 ps2.length cap2, .int .i64 R1.1.plan, .bool R1.1.down, .int .i64 most, .int .i64 (n : Int), .int .i64 (sz : Int), .int .i64 (wt : Int)] 37 (0, 0)) := hV1; obtain ⟨y0, y1, y2, y3, y4, y5, y6, y7⟩ := cells8 hV1; have kk1' := (hV2.block (w.heap.size + 1) (by omega) (by intro e; omega)).trans kk1)
                  | ((with_reducible refine at_sto ?_); refine wpList_store_in rfl (ty := 37) (x := .tmp 4) (y := .tmp 78) rfl (w.heap.size + 1) 0 37 (.agg #[.int .i64 R1.1.room, .slice a2 ps2.length cap2, .int .i64 R1.1.plan, .bool R1.1.down, .int .i64 most, .int .i64 (n : Int), .int .i64 (sz : Int), .int .i64 (wt : Int)]) [.int .i64 0, .slice none 0 0, .int .i64 0, .bool false, .int .i64 0, .int .i64 0, .int .i64 0, .int .i64 0] rfl rfl kk1' (by simp [Value.cells]) size37 (by intro u hu; simp [Value.cells] at hu; rcases hu with rfl | rfl | rfl | rfl | rfl | rfl | rfl | rfl <;> rfl) ?_; intro W9 hE1 hE2 hE3; replace hE1 : W9.heap[(w.heap.size + 1)]? = some (.cells #[.int .i64 R1.1.room, .slice a2 ps2.length cap2, .int .i64 R1.1.plan, .bool R1.1.down, .int .i64 most, .int .i64 (n : Int), .int .i64 (sz : Int), .int .i64 (wt : Int)] 37 (0, 0)) := hE1))
                refine bodyPost_ret (results_cell_row_tmp (fr := (0, 0)) Tryz.results19 _ _ (w.heap.size + 1) 37 _ _ rfl hE1 Tryz.underlying37 rfl (by kernel_rfl)) rfl ?_
                have hF : Fr (fun k => k = w.heap.size ∨ k = w.heap.size + 1) Wf W9 := (hV2.mono (fun k _ h => .inl h)).trans hE2 (fun k _ h => .inr h)
                have hBf : Below w.heap.size w W9 := hBw3.trans (hF.below (by omega) (by intro q h1 h2; omega))
                rw [HE.out]
                refine ⟨_, rfl, ⟨.slice a2 ps2.length cap2, ps2, rfl, hs3.fr hF (by intro k hk; rcases hk with rfl | rfl; exact .inr (.inl ⟨by omega, by omega⟩); exact .inr (.inl ⟨by omega, by omega⟩)) (fun _ _ h => .inl h), hps2⟩, hBf⟩
          · have ir1 : ¬ (0 : Int) < (sz : Int) := by omega
            clear hmk hB0 hB2 k0 k1 hB hzB hpA hpR hrt hok2 ok1 hbs hrot
            go_wp2_with fail
            clear c0 c1 c2 c3 c4 c5 c6 c7
            have hdo : ∀ W, Below W0.heap.size W0 W → Calls Tryz.prog 66 #[.agg (dk5 room (.slice a ps.length cap) plan down), op5 2 (stV (nameB n)) (.string ⟨#[]⟩) (.slice ab b.length capb)] W fun e w' => ∃ v', e = .returned (.tuple #[v', .int .i64 (doA ⟨room, files, plan, down⟩ (.append b) (nameB n)).2]) ∧ Ref5 (fun k => M k ∨ (w.heap.size ≤ k ∧ k < w.heap.size + 2) ∨ (W0.heap.size ≤ k ∧ k < W.heap.size)) w' (doA ⟨room, files, plan, down⟩ (.append b) (nameB n)).1 v' ∧ Below W.heap.size W w' := fun W hW =>
              do5_any (M := (fun k => M k ∨ (w.heap.size ≤ k ∧ k < w.heap.size + 2) ∨ (W0.heap.size ≤ k ∧ k < W.heap.size))) ⟨room, files, plan, down⟩ _ W ⟨_, ps, rfl, hsQ.fr (F := fun _ => False) (Fr.of_below hW) (fun _ h => h.elim) (fun k hk h => by rcases h with h | h | h; exact .inl h; exact .inr h; exact absurd hk (by omega)), hpsQ⟩ (fun k hk => by have := hW.size; rcases hk with hk | hk | hk; have := hM k hk; omega; omega; exact hk.2) (.append b) (nameB n) _ _ ⟨hbQ.fr (F := fun _ => False) (Fr.of_below hW) (fun _ h => h.elim) (fun k hk h => by rcases h with h | h | h; exact .inl h; exact .inr h; exact absurd hk (by omega)), hbl⟩ (fun m h => by cases h) okQ.p0 okQ.p1 (by rw [nameB_length]; omega) okQ.files okQ.used
            have hnm := fun W (c0 c1 c2 c3 c4 c6 c7 : Value) => name8_any c0 c1 c2 c3 c4 c6 c7 n W okQ.n1 (by have h2 : n < 100 := okQ.n2; omega)
            have hszb : (sz : Int) + (b.length : Int) ≤ 9223372036854775807 := by have := okQ.size; simp only at this; omega
            have hwtb : (wt : Int) + 1 ≤ 9223372036854775807 := by have := okQ.wait; simp only at this; omega
            have HAP : Hid (RR = if (doA ⟨room, files, plan, down⟩ (.append b) (nameB n)).2 ≠ 0 then (⟨(doA ⟨room, files, plan, down⟩ (.append b) (nameB n)).1, most, n, sz, wt⟩, (doA ⟨room, files, plan, down⟩ (.append b) (nameB n)).2) else (⟨(doA ⟨room, files, plan, down⟩ (.append b) (nameB n)).1, most, n, sz + b.length, wt + 1⟩, 0)) := HRES.out
            obtain ⟨R1, hR1⟩ : ∃ R, doA ⟨room, files, plan, down⟩ (.append b) (nameB n) = R := ⟨_, rfl⟩
            rw [hR1] at hdo HAP
            clear hR1 HRES okQ
            unfold dk5 op5 stV at hdo
            generalize nameB n = nb at *
            have hl0 : w.heap.size < W0.heap.size := by omega
            have hSS : ∀ W, Below W0.heap.size W0 W → (Below W0.heap.size W0 W ∧ W.cell? ⟨w.heap.size, 0, none⟩ = some (.int .i64 room) ∧ W.cell? ⟨w.heap.size, 1, none⟩ = some (.slice a ps.length cap) ∧ W.cell? ⟨w.heap.size, 2, none⟩ = some (.int .i64 plan) ∧ W.cell? ⟨w.heap.size, 3, none⟩ = some (.bool down) ∧ W.cell? ⟨w.heap.size, 4, none⟩ = some (.int .i64 most) ∧ W.cell? ⟨w.heap.size, 5, none⟩ = some (.int .i64 (n : Int)) ∧ W.cell? ⟨w.heap.size, 6, none⟩ = some (.int .i64 (sz : Int)) ∧ W.cell? ⟨w.heap.size, 7, none⟩ = some (.int .i64 (wt : Int))) := fun W hW => ⟨hW, cells8 ((hW.block _ hl0).trans kq0)⟩
            have hAl : ∀ W C, Below W0.heap.size W0 W → Below W0.heap.size W0 (W.alloc C) := fun W C h => h.alloc h.size C
            have hSd : ∀ W, (Below W0.heap.size W0 W ∧ W.cell? ⟨w.heap.size, 0, none⟩ = some (.int .i64 room) ∧ W.cell? ⟨w.heap.size, 1, none⟩ = some (.slice a ps.length cap) ∧ W.cell? ⟨w.heap.size, 2, none⟩ = some (.int .i64 plan) ∧ W.cell? ⟨w.heap.size, 3, none⟩ = some (.bool down) ∧ W.cell? ⟨w.heap.size, 4, none⟩ = some (.int .i64 most) ∧ W.cell? ⟨w.heap.size, 5, none⟩ = some (.int .i64 (n : Int)) ∧ W.cell? ⟨w.heap.size, 6, none⟩ = some (.int .i64 (sz : Int)) ∧ W.cell? ⟨w.heap.size, 7, none⟩ = some (.int .i64 (wt : Int))) → Below W0.heap.size W0 W := fun W h => h.1
            have hTr : ∀ W W', (Below W0.heap.size W0 W ∧ W.cell? ⟨w.heap.size, 0, none⟩ = some (.int .i64 room) ∧ W.cell? ⟨w.heap.size, 1, none⟩ = some (.slice a ps.length cap) ∧ W.cell? ⟨w.heap.size, 2, none⟩ = some (.int .i64 plan) ∧ W.cell? ⟨w.heap.size, 3, none⟩ = some (.bool down) ∧ W.cell? ⟨w.heap.size, 4, none⟩ = some (.int .i64 most) ∧ W.cell? ⟨w.heap.size, 5, none⟩ = some (.int .i64 (n : Int)) ∧ W.cell? ⟨w.heap.size, 6, none⟩ = some (.int .i64 (sz : Int)) ∧ W.cell? ⟨w.heap.size, 7, none⟩ = some (.int .i64 (wt : Int))) → Below W.heap.size W W' → Below W0.heap.size W0 W' := fun W W' h k => h.1.trans (k.mono h.1.size)
            have hX2 : ∀ W' g c d e f, Below W0.heap.size W0 W' → W0.heap.size ≤ g → Below W0.heap.size W0 ((((W'.setCell ⟨g, 0, none⟩ c).setCell ⟨g, 1, none⟩ d).setCell ⟨g, 2, none⟩ e).setCell ⟨g, 3, none⟩ f) := fun W' g c d e f h hg => (((h.setCell hg c).setCell hg d).setCell hg e).setCell hg f
            have hSf0 := hSS W0.drew (Below.refl _ _).drew
            have hZz : ∀ W : World, (W.alloc (.cells #[.int .i64 0, .slice none 0 0, .int .i64 0, .bool false] 35)).heap[W.heap.size]? = some (.cells #[.int .i64 0, .slice none 0 0, .int .i64 0, .bool false] 35) := fun W => heap_alloc_new W _
            have hZl : ∀ W : World, W.heap.size < (W.alloc (.cells #[.int .i64 0, .slice none 0 0, .int .i64 0, .bool false] 35)).heap.size := fun W => by simp
            have HZ0 : Hid (w.heap.size + 1 < W0.heap.size) := hlQ
            clear hlQ hbQ hsQ hl0
            go_region_held3 (fun W => Below W0.heap.size W0 W ∧ W.cell? ⟨w.heap.size, 0, none⟩ = some (.int .i64 room) ∧ W.cell? ⟨w.heap.size, 1, none⟩ = some (.slice a ps.length cap) ∧ W.cell? ⟨w.heap.size, 2, none⟩ = some (.int .i64 plan) ∧ W.cell? ⟨w.heap.size, 3, none⟩ = some (.bool down) ∧ W.cell? ⟨w.heap.size, 4, none⟩ = some (.int .i64 most) ∧ W.cell? ⟨w.heap.size, 5, none⟩ = some (.int .i64 (n : Int)) ∧ W.cell? ⟨w.heap.size, 6, none⟩ = some (.int .i64 (sz : Int)) ∧ W.cell? ⟨w.heap.size, 7, none⟩ = some (.int .i64 (wt : Int))) (first | assumption | exact hSS _ (hAl _ _ (hSd _ (by assumption))) | exact hSS _ (hAl _ _ (Below.refl _ _)) | exact hSS _ (hX2 _ _ _ _ _ _ hS2.1 (by first | exact Nat.le_refl _ | exact hS1.1.size)) | exact hSS _ (hAl _ _ (Below.refl _ _)).drew)
              (first
                | (go_at_call 69; refine (hnm _ _ _ _ _ _ _ _).mono ?_; rintro e W1 ⟨rfl, hb1⟩; have hS1 := hSS W1 (hTr _ _ (by assumption) hb1); (first | (have hk1 := (hb1.block W0.heap.size (hZl W0)).trans (hZz W0); have hlt1 := Nat.lt_of_lt_of_le (hZl W0) hb1.size) | skip))
                | (go_at_call 66; refine (hdo _ (hSd _ (by assumption))).mono ?_; rintro e W2 ⟨v2, rfl, hr2, hb2⟩; obtain ⟨sv2, ps2, rfl, hs2, hps2⟩ := hr2; obtain ⟨a2, cap2, rfl, hn2', hc2, _, _⟩ := hs2.open; unfold dk5; have hS2 := hSS W2 (hTr _ _ (by assumption) hb2); (first | (have hk2 := (hb2.block W0.heap.size hlt1).trans hk1; clear hk1) | have hk2 := (hb2.block W1.heap.size (hZl W1)).trans (hZz W1) | skip); (try (obtain ⟨u0, u1, u2, u3⟩ := cells4 hk2; have hf0 := frozen_of_row _ _ 0 _ _ hk2; have hf1 := frozen_of_row _ _ 1 _ _ hk2; have hf2 := frozen_of_row _ _ 2 _ _ hk2; have hf3 := frozen_of_row _ _ 3 _ _ hk2))))
            all_goals
              first
                | (have hk3 := (set4 (a := .int .i64 R1.1.room) (b := .slice a2 ps2.length cap2) (c := .int .i64 R1.1.plan) (d := .bool R1.1.down) hk2).1
                   have hf3' := (set4 (a := .int .i64 R1.1.room) (b := .slice a2 ps2.length cap2) (c := .int .i64 R1.1.plan) (d := .bool R1.1.down) hk2).2
                   have hgle : W0.heap.size ≤ W0.heap.size := by first | exact Nat.le_refl _ | exact hS1.1.size
                   have hB3 := hX2 W2 W0.heap.size (.int .i64 R1.1.room) (.slice a2 ps2.length cap2) (.int .i64 R1.1.plan) (.bool R1.1.down) hS2.1 hgle
                   have hgw : w.heap.size + 1 < W0.heap.size := by have := HZ0.out; omega
                   generalize ((((W2.setCell ⟨W0.heap.size, 0, none⟩ (.int .i64 R1.1.room)).setCell ⟨W0.heap.size, 1, none⟩ (.slice a2 ps2.length cap2)).setCell ⟨W0.heap.size, 2, none⟩ (.int .i64 R1.1.plan)).setCell ⟨W0.heap.size, 3, none⟩ (.bool R1.1.down)) = Wf at *
                   have hs3 : SlF (fun k => M k ∨ (w.heap.size ≤ k ∧ k < w.heap.size + 2) ∨ k = W0.heap.size) Wf (.slice a2 ps2.length cap2) ps2 := hs2.fr hf3' (by intro k hk; have := hS1.1.size; have := HZ0.out; exact .inr (.inr ⟨by omega, by first | assumption | omega⟩)) (by intro k hk h; have := hS1.1.size; have := HZ0.out; rcases h with h | h | h; exact .inl h; exact .inr (.inl h); exact .inr (.inr ⟨by omega, by omega⟩))
                   have hgWf : W0.heap.size < Wf.heap.size := (Array.getElem?_eq_some_iff.1 hk3).1
                   have kk0 := (hB3.block w.heap.size (by have := HZ0.out; omega)).trans kq0
                   have kk1 := (hB3.block (w.heap.size + 1) (by have := HZ0.out; omega)).trans kq1
                   have hBw3 : Below w.heap.size w Wf := hBQ.trans (hB3.mono (by have := HZ0.out; omega))
                   generalize hgg : W0.heap.size = g at hk3 hgw hgWf hs3 ⊢)
                | (have hk3 := (set4 (a := .int .i64 R1.1.room) (b := .slice a2 ps2.length cap2) (c := .int .i64 R1.1.plan) (d := .bool R1.1.down) hk2).1
                   have hf3' := (set4 (a := .int .i64 R1.1.room) (b := .slice a2 ps2.length cap2) (c := .int .i64 R1.1.plan) (d := .bool R1.1.down) hk2).2
                   have hgle : W0.heap.size ≤ W1.heap.size := by first | exact Nat.le_refl _ | exact hS1.1.size
                   have hB3 := hX2 W2 W1.heap.size (.int .i64 R1.1.room) (.slice a2 ps2.length cap2) (.int .i64 R1.1.plan) (.bool R1.1.down) hS2.1 hgle
                   have hgw : w.heap.size + 1 < W1.heap.size := by have := HZ0.out; omega
                   generalize ((((W2.setCell ⟨W1.heap.size, 0, none⟩ (.int .i64 R1.1.room)).setCell ⟨W1.heap.size, 1, none⟩ (.slice a2 ps2.length cap2)).setCell ⟨W1.heap.size, 2, none⟩ (.int .i64 R1.1.plan)).setCell ⟨W1.heap.size, 3, none⟩ (.bool R1.1.down)) = Wf at *
                   have hs3 : SlF (fun k => M k ∨ (w.heap.size ≤ k ∧ k < w.heap.size + 2) ∨ k = W1.heap.size) Wf (.slice a2 ps2.length cap2) ps2 := hs2.fr hf3' (by intro k hk; have := hS1.1.size; have := HZ0.out; have := hZl W1; exact .inr (.inr ⟨by omega, by first | assumption | omega⟩)) (by intro k hk h; have := hS1.1.size; have := HZ0.out; have := hZl W1; rcases h with h | h | h; exact .inl h; exact .inr (.inl h); exact .inr (.inr ⟨by omega, by omega⟩))
                   have hgWf : W1.heap.size < Wf.heap.size := (Array.getElem?_eq_some_iff.1 hk3).1
                   have kk0 := (hB3.block w.heap.size (by have := HZ0.out; omega)).trans kq0
                   have kk1 := (hB3.block (w.heap.size + 1) (by have := HZ0.out; omega)).trans kq1
                   have hBw3 : Below w.heap.size w Wf := hBQ.trans (hB3.mono (by have := HZ0.out; omega))
                   generalize hgg : W1.heap.size = g at hk3 hgw hgWf hs3 ⊢)
                | (have hk3 := heap_alloc_new W2 (.cells #[.int .i64 R1.1.room, .slice a2 ps2.length cap2, .int .i64 R1.1.plan, .bool R1.1.down] 35)
                   have hgle : W0.heap.size ≤ W2.heap.size := hS2.1.size
                   have hB3 := hAl W2 (.cells #[.int .i64 R1.1.room, .slice a2 ps2.length cap2, .int .i64 R1.1.plan, .bool R1.1.down] 35) hS2.1
                   have hs3 : SlF (fun k => M k ∨ (w.heap.size ≤ k ∧ k < w.heap.size + 2) ∨ k = W2.heap.size) (W2.alloc (.cells #[.int .i64 R1.1.room, .slice a2 ps2.length cap2, .int .i64 R1.1.plan, .bool R1.1.down] 35)) (.slice a2 ps2.length cap2) ps2 := hs2.fr (F := fun _ => False) (Fr.of_below ((Below.refl _ _).alloc (Nat.le_refl _) _)) (fun _ h => h.elim) (by intro k hk h; rcases h with h | h | h; exact .inl h; exact .inr (.inl h); exact absurd h (by omega))
                   have hgw : w.heap.size + 1 < W2.heap.size := by have := HZ0.out; omega
                   generalize (W2.alloc (.cells #[.int .i64 R1.1.room, .slice a2 ps2.length cap2, .int .i64 R1.1.plan, .bool R1.1.down] 35)) = Wf at *
                   have hgWf : W2.heap.size < Wf.heap.size := (Array.getElem?_eq_some_iff.1 hk3).1
                   have kk0 := (hB3.block w.heap.size (by have := HZ0.out; omega)).trans kq0
                   have kk1 := (hB3.block (w.heap.size + 1) (by have := HZ0.out; omega)).trans kq1
                   have hBw3 : Below w.heap.size w Wf := hBQ.trans (hB3.mono (by have := HZ0.out; omega))
                   generalize hgg : W2.heap.size = g at hk3 hgw hgWf hs3 ⊢)
              clear hgg hSS hSd hAl hTr hX2 hSf0 hZz hZl hS1 hS2 hgle hB3 hs2
              rename_i hh
              clear hh
              clear hdo hnm hb1 hb2 kq0 kq1
              obtain ⟨u0, u1, u2, u3⟩ := cells4 hk3
              by_cases hcz : R1.2 = 0
              · have hcb : (R1.2 == 0) = true := by rw [hcz]; rfl
                have HE : Hid (RR = (⟨R1.1, most, n, sz + b.length, wt + 1⟩, 0)) := by show _ = _; rw [HAP.out, if_neg (by rw [hcz]; decide)]
                go_wp2_with (first
                  | ((with_reducible refine at_sto ?_); refine wpList_store_in rfl (ty := 35) (x := .tmp 65) (y := .tmp 64) rfl w.heap.size 0 37 (.agg #[.int .i64 R1.1.room, .slice a2 ps2.length cap2, .int .i64 R1.1.plan, .bool R1.1.down]) [.int .i64 room, .slice a ps.length cap, .int .i64 plan, .bool down, .int .i64 most, .int .i64 (n : Int), .int .i64 (sz : Int), .int .i64 (wt : Int)] rfl rfl kk0 (by simp [Value.cells]) size35 (by intro u hu; simp [Value.cells] at hu; rcases hu with rfl | rfl | rfl | rfl <;> rfl) ?_; intro W4 hV1 hV2 hV3; replace hV1 : W4.heap[w.heap.size]? = some (.cells #[.int .i64 R1.1.room, .slice a2 ps2.length cap2, .int .i64 R1.1.plan, .bool R1.1.down, .int .i64 most, .int .i64 (n : Int), .int .i64 (sz : Int), .int .i64 (wt : Int)] 37 (0, 0)) := hV1; obtain ⟨y0, y1, y2, y3, y4, y5, y6, y7⟩ := cells8 hV1; have kk1' := (hV2.block (w.heap.size + 1) (by omega) (by intro e; omega)).trans kk1)
                  | ((with_reducible refine at_sto ?_); refine wpList_store_in rfl (ty := 3) (x := .tmp 73)  rfl w.heap.size 6 37 (.int .i64 ((sz : Int) + (b.length : Int))) [.int .i64 R1.1.room, .slice a2 ps2.length cap2, .int .i64 R1.1.plan, .bool R1.1.down, .int .i64 most, .int .i64 (n : Int), .int .i64 (sz : Int), .int .i64 (wt : Int)] rfl rfl hV1 (by simp [Value.cells]) size134' (by intro u hu; simp [Value.cells] at hu; subst hu; rfl) ?_; intro W5 hQ1 hQ2 hQ3; replace hQ1 : W5.heap[w.heap.size]? = some (.cells #[.int .i64 R1.1.room, .slice a2 ps2.length cap2, .int .i64 R1.1.plan, .bool R1.1.down, .int .i64 most, .int .i64 (n : Int), .int .i64 ((sz : Int) + (b.length : Int)), .int .i64 (wt : Int)] 37 (0, 0)) := hQ1; obtain ⟨q0, q1, q2, q3, q4, q5, q6, q7⟩ := cells8 hQ1; have n1 := (hQ2.block (w.heap.size + 1) (by omega) (by intro e; omega)).trans kk1')
                  | ((with_reducible refine at_sto ?_); refine wpList_store_in rfl (ty := 3) (x := .tmp 77)  rfl w.heap.size 7 37 (.int .i64 ((wt : Int) + 1)) [.int .i64 R1.1.room, .slice a2 ps2.length cap2, .int .i64 R1.1.plan, .bool R1.1.down, .int .i64 most, .int .i64 (n : Int), .int .i64 ((sz : Int) + (b.length : Int)), .int .i64 (wt : Int)] rfl rfl hQ1 (by simp [Value.cells]) size134' (by intro u hu; simp [Value.cells] at hu; subst hu; rfl) ?_; intro W6 hR1 hR2 hR3; replace hR1 : W6.heap[w.heap.size]? = some (.cells #[.int .i64 R1.1.room, .slice a2 ps2.length cap2, .int .i64 R1.1.plan, .bool R1.1.down, .int .i64 most, .int .i64 (n : Int), .int .i64 ((sz : Int) + (b.length : Int)), .int .i64 ((wt : Int) + 1)] 37 (0, 0)) := hR1; obtain ⟨r0, r1, r2, r3, r4, r5, r6, r7⟩ := cells8 hR1; have n2 := (hR2.block (w.heap.size + 1) (by omega) (by intro e; omega)).trans n1)
                  | ((with_reducible refine at_sto ?_); refine wpList_store_in rfl (ty := 37) (x := .tmp 4) (y := .tmp 78) rfl (w.heap.size + 1) 0 37 (.agg #[.int .i64 R1.1.room, .slice a2 ps2.length cap2, .int .i64 R1.1.plan, .bool R1.1.down, .int .i64 most, .int .i64 (n : Int), .int .i64 ((sz : Int) + (b.length : Int)), .int .i64 ((wt : Int) + 1)]) [.int .i64 0, .slice none 0 0, .int .i64 0, .bool false, .int .i64 0, .int .i64 0, .int .i64 0, .int .i64 0] rfl rfl n2 (by simp [Value.cells]) size37 (by intro u hu; simp [Value.cells] at hu; rcases hu with rfl | rfl | rfl | rfl | rfl | rfl | rfl | rfl <;> rfl) ?_; intro W9 hE1 hE2 hE3; replace hE1 : W9.heap[(w.heap.size + 1)]? = some (.cells #[.int .i64 R1.1.room, .slice a2 ps2.length cap2, .int .i64 R1.1.plan, .bool R1.1.down, .int .i64 most, .int .i64 (n : Int), .int .i64 ((sz : Int) + (b.length : Int)), .int .i64 ((wt : Int) + 1)] 37 (0, 0)) := hE1))
                refine bodyPost_ret (results_cell_row_tmp (fr := (0, 0)) Tryz.results19 _ _ (w.heap.size + 1) 37 _ _ rfl hE1 Tryz.underlying37 rfl (by kernel_rfl)) rfl ?_
                have hF : Fr (fun k => k = w.heap.size ∨ k = w.heap.size + 1) Wf W9 := (((hV2.mono (fun k _ h => .inl h)).trans hQ2 (fun k _ h => .inl h)).trans hR2 (fun k _ h => .inl h)).trans hE2 (fun k _ h => .inr h)
                have hBf : Below w.heap.size w W9 := hBw3.trans (hF.below (by omega) (by intro q h1 h2; omega))
                rw [HE.out]
                refine ⟨_, rfl, ⟨.slice a2 ps2.length cap2, ps2, by show _ = Value.agg (lg8 _ _ _ _ _ _ ((sz + b.length : Nat)) ((wt + 1 : Nat))); unfold lg8; rw [show ((sz + b.length : Nat) : Int) = (sz : Int) + (b.length : Int) by omega, show ((wt + 1 : Nat) : Int) = (wt : Int) + 1 by omega], hs3.fr hF (by intro k hk; rcases hk with rfl | rfl; exact .inr (.inl ⟨by omega, by omega⟩); exact .inr (.inl ⟨by omega, by omega⟩)) (fun _ _ h => .inl h), hps2⟩, hBf⟩
              · have hcb : (R1.2 == 0) = false := by simpa using hcz
                have HE : Hid (RR = (⟨R1.1, most, n, sz, wt⟩, R1.2)) := by show _ = _; rw [HAP.out, if_pos hcz]
                go_wp2_with (first
                  | ((with_reducible refine at_sto ?_); refine wpList_store_in rfl (ty := 35) (x := .tmp 65) (y := .tmp 64) rfl w.heap.size 0 37 (.agg #[.int .i64 R1.1.room, .slice a2 ps2.length cap2, .int .i64 R1.1.plan, .bool R1.1.down]) [.int .i64 room, .slice a ps.length cap, .int .i64 plan, .bool down, .int .i64 most, .int .i64 (n : Int), .int .i64 (sz : Int), .int .i64 (wt : Int)] rfl rfl kk0 (by simp [Value.cells]) size35 (by intro u hu; simp [Value.cells] at hu; rcases hu with rfl | rfl | rfl | rfl <;> rfl) ?_; intro W4 hV1 hV2 hV3; replace hV1 : W4.heap[w.heap.size]? = some (.cells #[.int .i64 R1.1.room, .slice a2 ps2.length cap2, .int .i64 R1.1.plan, .bool R1.1.down, .int .i64 most, .int .i64 (n : Int), .int .i64 (sz : Int), .int .i64 (wt : Int)] 37 (0, 0)) := hV1; obtain ⟨y0, y1, y2, y3, y4, y5, y6, y7⟩ := cells8 hV1; have kk1' := (hV2.block (w.heap.size + 1) (by omega) (by intro e; omega)).trans kk1)
                  | ((with_reducible refine at_sto ?_); refine wpList_store_in rfl (ty := 37) (x := .tmp 4) (y := .tmp 78) rfl (w.heap.size + 1) 0 37 (.agg #[.int .i64 R1.1.room, .slice a2 ps2.length cap2, .int .i64 R1.1.plan, .bool R1.1.down, .int .i64 most, .int .i64 (n : Int), .int .i64 (sz : Int), .int .i64 (wt : Int)]) [.int .i64 0, .slice none 0 0, .int .i64 0, .bool false, .int .i64 0, .int .i64 0, .int .i64 0, .int .i64 0] rfl rfl kk1' (by simp [Value.cells]) size37 (by intro u hu; simp [Value.cells] at hu; rcases hu with rfl | rfl | rfl | rfl | rfl | rfl | rfl | rfl <;> rfl) ?_; intro W9 hE1 hE2 hE3; replace hE1 : W9.heap[(w.heap.size + 1)]? = some (.cells #[.int .i64 R1.1.room, .slice a2 ps2.length cap2, .int .i64 R1.1.plan, .bool R1.1.down, .int .i64 most, .int .i64 (n : Int), .int .i64 (sz : Int), .int .i64 (wt : Int)] 37 (0, 0)) := hE1))
                refine bodyPost_ret (results_cell_row_tmp (fr := (0, 0)) Tryz.results19 _ _ (w.heap.size + 1) 37 _ _ rfl hE1 Tryz.underlying37 rfl (by kernel_rfl)) rfl ?_
                have hF : Fr (fun k => k = w.heap.size ∨ k = w.heap.size + 1) Wf W9 := (hV2.mono (fun k _ h => .inl h)).trans hE2 (fun k _ h => .inr h)
                have hBf : Below w.heap.size w W9 := hBw3.trans (hF.below (by omega) (by intro q h1 h2; omega))
                rw [HE.out]
                refine ⟨_, rfl, ⟨.slice a2 ps2.length cap2, ps2, rfl, hs3.fr hF (by intro k hk; rcases hk with rfl | rfl; exact .inr (.inl ⟨by omega, by omega⟩); exact .inr (.inl ⟨by omega, by omega⟩)) (fun _ _ h => .inl h), hps2⟩, hBf⟩

end Go.Proofs.YtepceidajmedeaaGreatDoor
