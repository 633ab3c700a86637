/- Lemmas for a law of this seat, part 22: contracts of the functions that it reaches, and the plain law. No condition but those of each lemma. -/
import Derived.Test.YtepceidajmedeaaGreatDoorWal20
import Derived.Test.YtepceidajmedeaaGreatDoorWal21

namespace Go.Proofs.YtepceidajmedeaaGreatDoor
open Go.RowKit CW

theorem LogPost.trans {S S2 : Nat → Prop} {w WQ W : World} {l d : Nat} {R : LogA × Int} {c : Int} (h : LogPost S2 WQ l d R c W) (hf : Fr S w WQ) (hS : ∀ k, k < w.heap.size → S2 k → S k) : LogPost S w l d R c W := by
  obtain ⟨S', h1, h2, h3, h4⟩ := h
  exact ⟨S', h1, h2, hf.trans h3 (fun i hi hs => hS i hi hs), fun k hk hs => hS k hk (h4 k (Nat.lt_of_lt_of_le hk hf.size) hs)⟩

theorem frameB_length (x : Bytes) : (frameB x).length = x.length + 8 := by unfold frameB; rw [sealB_length, List.length_append, le4_length]; omega

theorem putA_empty (L : LogA) (x : Bytes) (h : x.length = 0) : putA L x = (L, 2) := by unfold putA; rw [if_pos h]
theorem putA_long (L : LogA) (x : Bytes) (h : ¬ x.length = 0) (hm : makeB x = none) : putA L x = (L, 4) := by unfold putA; rw [if_neg h, hm]
theorem putA_big (L : LogA) (x : Bytes) (h : ¬ x.length = 0) (hm : makeB x = some (frameB x)) (hb : L.most < ((frameB x).length : Int)) : putA L x = (L, 4) := by unfold putA; rw [if_neg h, hm]; simp only; rw [if_pos hb]
theorem putA_app (L : LogA) (x : Bytes) (h : ¬ x.length = 0) (hm : makeB x = some (frameB x)) (hb : ¬ L.most < ((frameB x).length : Int)) (hr : ¬ (0 < L.size ∧ L.most < (L.size : Int) + ((frameB x).length : Int))) : putA L x = appA L (frameB x) := by
  unfold putA; rw [if_neg h, hm]; simp only; rw [if_neg hb, if_neg hr]
theorem putA_rot (L : LogA) (x : Bytes) (h : ¬ x.length = 0) (hm : makeB x = some (frameB x)) (hb : ¬ L.most < ((frameB x).length : Int)) (hr : 0 < L.size ∧ L.most < (L.size : Int) + ((frameB x).length : Int)) : putA L x = if (rotA L).2 ≠ 0 then rotA L else appA (rotA L).1 (frameB x) := by
  unfold putA; rw [if_neg h, hm]; simp only; rw [if_neg hb, if_pos hr]

/-- What a log's own numbers must be for a Put. -/
structure OkL (L : LogA) : Prop where
  n1 : 1 ≤ L.n
  n2 : L.n < 100
  p0 : 0 ≤ L.D.plan
  p1 : L.D.plan ≤ 4611686018427387904
  files : L.D.files.length < 1048576
  used : usedF L.D.files ≤ 1099511627776
  size : L.size ≤ 1099511627776
  wait : L.waiting ≤ 1099511627776

set_option maxHeartbeats 4000000 in
set_option maxRecDepth 100000 in
theorem put_any {S : Nat → Prop} (L : LogA) (l d : Nat) (w : World) (hL : LogAt S w l d L) (v : Value) (x : Bytes) (hv : SlB (fun _ => False) w v x) (hx : x.length ≤ 1073741816) (ok1 : OkL L)
    (okr : 0 < L.size → L.n + 1 < 100 ∧ 0 ≤ (doA L.D .sync (nameB L.n)).1.plan ∧ (doA L.D .sync (nameB L.n)).1.plan ≤ 4611686018427387904 ∧ (doA L.D .sync (nameB L.n)).1.files.length < 1048576 ∧ OkL (rotA L).1) :
    Calls Tryz.prog 17 #[.pointer (some ⟨l, 0, none⟩), v] w fun e w' => ∃ c, e = .returned (.int .i64 c) ∧ LogPost S w l d (putA L x) c w' := by
  obtain ⟨P, hP⟩ : ∃ P : Int → World → Prop, P = fun c w' => LogPost S w l d (putA L x) c w' := ⟨_, rfl⟩
  have HPP : Hid (P = fun c w' => LogPost S w l d (putA L x) c w') := hP
  show Calls _ _ _ _ (fun e w' => ∃ c, e = .returned (.int .i64 c) ∧ (fun c w' => LogPost S w l d (putA L x) c w') c w')
  rw [← hP]
  clear hP
  have hP : ∀ c w', LogPost S w l d (putA L x) c w' → Hid (P c w') := fun c w' h => by show P c w'; rw [HPP.out]; exact h
  have hself : ∀ W, Below w.heap.size w W → ∀ c, LogPost S w l d (L, c) c W := fun W hW c => ⟨S, rfl, hL.below hW, Fr.of_below hW, fun _ _ h => h⟩
  have hmk := make_any v x w hv (by omega)
  obtain ⟨ax, capx, rfl, hx1, hx2⟩ := hv.shape
  have HMK : Hid (Calls Tryz.prog 62 #[.slice ax x.length capx] w fun e w' => ∃ v' ok, e = .returned (.tuple #[v', .bool ok]) ∧ Below w.heap.size w w' ∧
      (makeB x = none ∧ v' = .slice none 0 0 ∧ ok = false ∨ makeB x = some (frameB x) ∧ ok = true ∧ w'.ownsRow w.heap.size 5 1 v' (frameB x).length ((frameB x).map encB))) := hmk
  clear hmk
  by_cases h0 : x.length = 0
  · have hres := fun W hW => hP 2 W (by rw [putA_empty L x h0]; exact hself W hW 2)
    rw [h0]
    clear hP hself
    go_enter Tryz.func17, Tryz.ntmps17
    go_wp2
    go_ret
    exact ⟨2, rfl, (hres _ (Below.refl _ _)).out⟩
  · have hxb : (((x.length : Nat) : Int) == 0) = false := beq_eq_false_iff_ne.2 (by omega)
    go_enter Tryz.func17, Tryz.ntmps17
    go_wp2_with fail
    refine HMK.out.mono ?_
    rintro e W0 ⟨v', ok, rfl, hB0, ⟨hm, rfl, rfl⟩ | ⟨hm, rfl, ho⟩⟩
    · have hres := hP 4 W0 (by rw [putA_long L x h0 hm]; exact hself W0 hB0 4)
      clear hP hself
      go_wp2
      go_ret
      exact ⟨4, rfl, hres.out⟩
    · have hbl : (frameB x).length ≤ 1073741824 := by rw [frameB_length]; omega
      have hpA := putA_app L x h0 hm
      have hpR := putA_rot L x h0 hm
      have hpB := putA_big L x h0 hm
      obtain ⟨ab, capb, rfl, hab1, hab2, _⟩ := (Row.of_owns ho).open
      obtain ⟨T0, hlog0, hD0, hTl0, hSl0, hTS0, hSlt0⟩ := hL.below hB0
      have hLB := hL.below hB0
      have hbS : SlB S W0 (.slice ab (frameB x).length capb) (frameB x) := (Row.of_owns ho).mono (fun k _ hk => by obtain ⟨_, _, _, _, _, _, h6⟩ := hL; exact h6 k hk)
      obtain ⟨y0, y1, y2, y3, y4⟩ := cells5 hlog0
      obtain ⟨b, hb⟩ : ∃ b, frameB x = b := ⟨_, rfl⟩
      rw [hb] at hbl hpA hpR hpB hab1 hbS
      have HB : Hid (frameB x = b) := hb
      rw [hb]
      clear hb ho HMK
      by_cases hbig : L.most < (b.length : Int)
      · have hres := hP 4 W0 (by rw [hpB hbig]; exact hself W0 hB0 4)
        clear hP hself hpA hpR hpB
        go_wp2
        go_ret
        exact ⟨4, rfl, hres.out⟩
      · have hbig' : ¬ L.most < (b.length : Int) := hbig
        replace hpA := hpA hbig
        replace hpR := hpR hbig
        clear hpB
        by_cases hrot : 0 < L.size ∧ L.most < (L.size : Int) + (b.length : Int)
        · obtain ⟨hr1, hr2⟩ := hrot
          have hpR := hpR ⟨hr1, hr2⟩
          have ir1 : (0 : Int) < (L.size : Int) := by omega
          obtain ⟨k1, k2, k3, k4, k5⟩ := okr hr1
          have hwrap : IntKind.i64.wrap ((L.size : Int) + (b.length : Int)) = (L.size : Int) + (b.length : Int) := IntWalk.i64_in _ (by have := ok1.size; omega)
          clear hpA hTl0 hTS0 hD0
          go_wp2
          go_quiet (fail)
          clear hwrap
          have hBq : Below W0.heap.size W0 (W0.drewN nq) := below_drewN' (Below.refl _ _) nq
          have hBwq : Below w.heap.size w (W0.drewN nq) := hB0.trans (hBq.mono hB0.size)
          have hLq := hLB.below hBq
          have hbQ := hbS.below hBq
          generalize W0.drewN nq = Wq at *
          have hrt := rotate_any L l d Wq hLq ok1.n1 k1 ok1.p0 ok1.p1 ok1.files k2 k3 k4
          clear y0 y1 y2 y3 y4 hlog0 hLB hbS hBq
          go_wp2_with fail
          refine hrt.mono ?_
          rintro e WQ ⟨c, rfl, hPR⟩
          obtain ⟨S2, rfl, hL, hFr, hG⟩ := hPR
          have hFw : Fr S w WQ := (Fr.of_below hBwq (F := S)).trans hFr (fun _ _ h => h)
          have hGw : ∀ k, k < w.heap.size → S2 k → S k := fun k hk h => hG k (Nat.lt_of_lt_of_le hk hBwq.size) h
          by_cases hrc : (rotA L).2 = 0
          · rw [if_neg (by rw [hrc]; decide)] at hpR
            rw [hrc]
            have hbv : SlB S2 WQ (.slice ab b.length capb) b := hbQ.fr hFr (fun _ h => h) (fun k hk h => hG k hk h)
            generalize (rotA L).1 = L2 at *
            clear hrt hbQ hLq ok1 okr k1 k2 k3 k4 hrc hG hFr
            have hq0 := k5.p0
            have hq1 := k5.p1
            have hqu := k5.used
            have hn1' := k5.n1
            have hn' := k5.n2
            have hqs := k5.size
            have hqw := k5.wait
            go_wp2_with fail
            obtain ⟨T, hlog, hD, hTl, hSl, hTS, hSlt⟩ := hL
            obtain ⟨y0, y1, y2, y3, y4⟩ := cells5 hlog
            have hll := (Array.getElem?_eq_some_iff.1 hlog).1
            have hbT : SlB T WQ (.slice ab b.length capb) b := hbv.mono (fun k _ hk => hTS k hk)
            have hSS : ∀ W, Below WQ.heap.size WQ W → (W.cell? ⟨l, 3, none⟩ = some (.pointer (some ⟨d, 0, none⟩)) ∧ W.cell? ⟨l, 0, none⟩ = some (.int .i64 (L2.n : Int))) := fun W hW => ⟨(hW.cell (p := ⟨l, 3, none⟩) hll).trans y3, (hW.cell (p := ⟨l, 0, none⟩) hll).trans y0⟩
            have hSF : ∀ W, Fr T WQ W → (W.cell? ⟨l, 3, none⟩ = some (.pointer (some ⟨d, 0, none⟩)) ∧ W.cell? ⟨l, 0, none⟩ = some (.int .i64 (L2.n : Int))) := fun W hW => by
              have a2 := (hW.block l hll hTl).trans hlog
              exact ⟨(cells5 a2).2.2.2.1, (cells5 a2).1⟩
            have hS0 := hSS WQ.drew (Below.refl _ _).drew
            have hap := fun W (hW : Below WQ.heap.size WQ W) => append_any L2.D d W (hD.below hW) (nameB L2.n) (by rw [nameB_length]; omega) hq0 hq1 hqu (.slice ab b.length capb) b (hbT.below hW) hbl
            have hnm := fun W (hW : W.cell? ⟨l, 0, none⟩ = some (.int .i64 (L2.n : Int))) => walname_any l L2.n W hW hn1' hn'
            obtain ⟨R, hR⟩ : ∃ R, doA L2.D (.append b) (nameB L2.n) = R := ⟨_, rfl⟩
            have HRR : Hid (doA L2.D (.append b) (nameB L2.n) = R) := hR
            rw [hR] at hap
            clear hR
            obtain ⟨nb, hnb⟩ : ∃ nb, nameB L2.n = nb := ⟨_, rfl⟩
            have HNB : Hid (nameB L2.n = nb) := hnb
            rw [hnb] at hap hnm HRR
            clear hnb
            go_region_held3 (fun W => W.cell? ⟨l, 3, none⟩ = some (.pointer (some ⟨d, 0, none⟩)) ∧ W.cell? ⟨l, 0, none⟩ = some (.int .i64 (L2.n : Int))) (first | assumption)
              (first
                | (go_at_call 65; refine (hnm _ hS0.2).mono ?_; rintro e W1 ⟨rfl, hb⟩; have hB1 : Below WQ.heap.size WQ W1 := (Below.refl _ _).drew.trans hb; have hS1 := hSS W1 hB1)
                | (go_at_call 64; refine (hap _ hB1).mono ?_; intro e W2 hP; replace hP := hP.trans (Fr.of_below hB1); obtain ⟨T', rfl, hP2, hP3, hP4⟩ := hP; have hS2 := hSF W2 hP3))
            have hlog2 := (hP3.block l hll hTl).trans hlog
            have hTl2 : ¬ T' l := fun ht => hTl (hP4 l hll ht)
            have hpost : ∀ W3, (∃ sz wt : Nat, W3.heap[l]? = some (.cells #[.int .i64 (L2.n : Int), .int .i64 (sz : Int), .int .i64 (wt : Int), .pointer (some ⟨d, 0, none⟩), .int .i64 L2.most] 108 (0, 0)) ∧ Fr (fun k => k = l) W2 W3 ∧ ((⟨⟨R.1, L2.most, L2.n, sz, wt⟩, R.2⟩ : LogA × Int) = appA L2 b)) → LogPost S2 WQ l d (appA L2 b) R.2 W3 := fun W3 h => by
              obtain ⟨sz, wt, h1, h2, h3⟩ := h
              rw [← h3]
              refine ⟨fun k => S2 k ∨ T' k, rfl, ⟨T', h1, hP2.fr h2 (fun k hk e => hTl2 (by rw [← e]; exact hk)), hTl2, .inl hSl, fun k hk => .inr hk, fun k hk => ?_⟩, ?_, fun k hk hs => ?_⟩
              · rcases hk with hk | hk
                · exact Nat.lt_of_lt_of_le (hSlt k hk) (Nat.le_trans hP3.size h2.size)
                · exact Nat.lt_of_lt_of_le (hP2.lt k hk) h2.size
              · exact (hP3.mono (fun k _ hk => hTS k hk)).trans h2 (fun k _ e => by rw [e]; exact hSl)
              · rcases hs with hs | hs
                · exact hs
                · exact hTS k (hP4 k hk hs)
            have hapA : appA L2 b = if R.2 ≠ 0 then ({ L2 with D := R.1 }, R.2) else (⟨R.1, L2.most, L2.n, L2.size + b.length, L2.waiting + 1⟩, 0) := by
              show (if (doA L2.D (.append b) (nameB L2.n)).2 ≠ 0 then _ else _) = _
              rw [HNB.out, HRR.out]
            clear hSS hSF hS0 hap hnm hS1 hS2 y0 y1 y2 y3 y4
            by_cases hcz : R.2 = 0
            · have hapA2 : (⟨⟨R.1, L2.most, L2.n, L2.size + b.length, L2.waiting + 1⟩, R.2⟩ : LogA × Int) = appA L2 b := by rw [hapA, if_neg (by rw [hcz]; decide), hcz]
              have HPO := hpost
              have HAPP : Hid ((⟨⟨R.1, L2.most, L2.n, L2.size + b.length, L2.waiting + 1⟩, R.2⟩ : LogA × Int) = appA L2 b) := hapA2
              have HCZ : Hid (R.2 = 0) := hcz
              rw [hcz]
              clear hpost hapA2 hapA hcz
              obtain ⟨y0, y1, y2, y3, y4⟩ := cells5 hlog2
              go_wp2_with (first
                | ((with_reducible refine at_sto ?_); refine wpList_store_fld rfl (ty := 3) (x := .tmp 81) rfl l 1 108 (.int .i64 ((L2.size : Int) + (b.length : Int))) [.int .i64 (L2.n : Int), .int .i64 (L2.size : Int), .int .i64 (L2.waiting : Int), .pointer (some ⟨d, 0, none⟩), .int .i64 L2.most] rfl rfl hlog2 (by simp) size134 rfl rfl ?_; intro W3 hV1 hV2 hV3; replace hV1 : W3.heap[l]? = some (.cells #[.int .i64 (L2.n : Int), .int .i64 ((L2.size : Int) + (b.length : Int)), .int .i64 (L2.waiting : Int), .pointer (some ⟨d, 0, none⟩), .int .i64 L2.most] 108 (0, 0)) := hV1; obtain ⟨z0, z1, z2, z3, z4⟩ := cells5 hV1)
                | ((with_reducible refine at_sto ?_); refine wpList_store_fld rfl (ty := 3) (x := .tmp 90) rfl l 2 108 (.int .i64 ((L2.waiting : Int) + 1)) [.int .i64 (L2.n : Int), .int .i64 ((L2.size : Int) + (b.length : Int)), .int .i64 (L2.waiting : Int), .pointer (some ⟨d, 0, none⟩), .int .i64 L2.most] rfl rfl hV1 (by simp) size134 rfl rfl ?_; intro W4 hU1 hU2 hU3; replace hU1 : W4.heap[l]? = some (.cells #[.int .i64 (L2.n : Int), .int .i64 ((L2.size : Int) + (b.length : Int)), .int .i64 ((L2.waiting : Int) + 1), .pointer (some ⟨d, 0, none⟩), .int .i64 L2.most] 108 (0, 0)) := hU1))
              go_ret
              have hfin := HPO W4 ⟨L2.size + b.length, L2.waiting + 1, by rw [hU1]; norm_cast, hV2.trans hU2 (fun _ _ h => h), HAPP.out⟩
              rw [HCZ.out] at hfin
              have hres := hP 0 W4 (by rw [hpR]; exact hfin.trans hFw hGw)
              exact ⟨0, rfl, hres.out⟩
            · have hcb : (R.2 != 0) = true := by simpa using hcz
              have hfin := hpost W2 ⟨L2.size, L2.waiting, hlog2, Fr.refl _ _, by rw [hapA, if_pos hcz]⟩
              clear hpost hapA
              go_wp2
              go_ret
              have hres := hP R.2 W2 (by rw [hpR]; exact hfin.trans hFw hGw)
              exact ⟨R.2, rfl, hres.out⟩
          · rw [if_pos hrc] at hpR
            have hcb : ((rotA L).2 != 0) = true := by simpa using hrc
            have hres := hP (rotA L).2 WQ (by rw [hpR]; exact LogPost.trans ⟨S2, rfl, hL, Fr.refl _ _, fun _ _ h => h⟩ hFw hGw)
            generalize (rotA L).2 = rc at *
            clear hP hself hrt hpR hG hFr hFw hGw hL
            go_wp2
            go_ret
            exact ⟨rc, rfl, hres.out⟩
        · have hpR := hpA hrot
          clear hpA okr hTl0 hTS0 hD0
          by_cases hs0 : 0 < L.size
          · have ir1 : (0 : Int) < (L.size : Int) := by omega
            have ir2 : ¬ L.most < (L.size : Int) + (b.length : Int) := fun h => hrot ⟨hs0, h⟩
            have hwrap : IntKind.i64.wrap ((L.size : Int) + (b.length : Int)) = (L.size : Int) + (b.length : Int) := IntWalk.i64_in _ (by have := ok1.size; omega)
            clear hrot
            go_wp2
            go_quiet (fail)
            clear hwrap
            have hBq : Below W0.heap.size W0 (W0.drewN nq) := below_drewN' (Below.refl _ _) nq
            have hBwq : Below w.heap.size w (W0.drewN nq) := hB0.trans (hBq.mono hB0.size)
            have hL := hLB.below hBq
            have hbv : SlB S (W0.drewN nq) (.slice ab b.length capb) b := hbS.below hBq
            generalize W0.drewN nq = WQ at *
            have hFw : Fr S w WQ := Fr.of_below hBwq
            have hGw : ∀ k, k < w.heap.size → S k → S k := fun _ _ h => h
            clear y0 y1 y2 y3 y4 hlog0 hLB hbS hBq
            have hq0 := ok1.p0
            have hq1 := ok1.p1
            have hqu := ok1.used
            have hn1' := ok1.n1
            have hn' := ok1.n2
            have hqs := ok1.size
            have hqw := ok1.wait
            go_wp2_with fail
            obtain ⟨T, hlog, hD, hTl, hSl, hTS, hSlt⟩ := hL
            obtain ⟨y0, y1, y2, y3, y4⟩ := cells5 hlog
            have hll := (Array.getElem?_eq_some_iff.1 hlog).1
            have hbT : SlB T WQ (.slice ab b.length capb) b := hbv.mono (fun k _ hk => hTS k hk)
            have hSS : ∀ W, Below WQ.heap.size WQ W → (W.cell? ⟨l, 3, none⟩ = some (.pointer (some ⟨d, 0, none⟩)) ∧ W.cell? ⟨l, 0, none⟩ = some (.int .i64 (L.n : Int))) := fun W hW => ⟨(hW.cell (p := ⟨l, 3, none⟩) hll).trans y3, (hW.cell (p := ⟨l, 0, none⟩) hll).trans y0⟩
            have hSF : ∀ W, Fr T WQ W → (W.cell? ⟨l, 3, none⟩ = some (.pointer (some ⟨d, 0, none⟩)) ∧ W.cell? ⟨l, 0, none⟩ = some (.int .i64 (L.n : Int))) := fun W hW => by
              have a2 := (hW.block l hll hTl).trans hlog
              exact ⟨(cells5 a2).2.2.2.1, (cells5 a2).1⟩
            have hS0 := hSS WQ.drew (Below.refl _ _).drew
            have hap := fun W (hW : Below WQ.heap.size WQ W) => append_any L.D d W (hD.below hW) (nameB L.n) (by rw [nameB_length]; omega) hq0 hq1 hqu (.slice ab b.length capb) b (hbT.below hW) hbl
            have hnm := fun W (hW : W.cell? ⟨l, 0, none⟩ = some (.int .i64 (L.n : Int))) => walname_any l L.n W hW hn1' hn'
            obtain ⟨R, hR⟩ : ∃ R, doA L.D (.append b) (nameB L.n) = R := ⟨_, rfl⟩
            have HRR : Hid (doA L.D (.append b) (nameB L.n) = R) := hR
            rw [hR] at hap
            clear hR
            obtain ⟨nb, hnb⟩ : ∃ nb, nameB L.n = nb := ⟨_, rfl⟩
            have HNB : Hid (nameB L.n = nb) := hnb
            rw [hnb] at hap hnm HRR
            clear hnb
            go_region_held3 (fun W => W.cell? ⟨l, 3, none⟩ = some (.pointer (some ⟨d, 0, none⟩)) ∧ W.cell? ⟨l, 0, none⟩ = some (.int .i64 (L.n : Int))) (first | assumption)
              (first
                | (go_at_call 65; refine (hnm _ hS0.2).mono ?_; rintro e W1 ⟨rfl, hb⟩; have hB1 : Below WQ.heap.size WQ W1 := (Below.refl _ _).drew.trans hb; have hS1 := hSS W1 hB1)
                | (go_at_call 64; refine (hap _ hB1).mono ?_; intro e W2 hP; replace hP := hP.trans (Fr.of_below hB1); obtain ⟨T', rfl, hP2, hP3, hP4⟩ := hP; have hS := hSF W2 hP3))
            have hlog2 := (hP3.block l hll hTl).trans hlog
            have hTl2 : ¬ T' l := fun ht => hTl (hP4 l hll ht)
            have hpost : ∀ W3, (∃ sz wt : Nat, W3.heap[l]? = some (.cells #[.int .i64 (L.n : Int), .int .i64 (sz : Int), .int .i64 (wt : Int), .pointer (some ⟨d, 0, none⟩), .int .i64 L.most] 108 (0, 0)) ∧ Fr (fun k => k = l) W2 W3 ∧ ((⟨⟨R.1, L.most, L.n, sz, wt⟩, R.2⟩ : LogA × Int) = appA L b)) → LogPost S WQ l d (appA L b) R.2 W3 := fun W3 h => by
              obtain ⟨sz, wt, h1, h2, h3⟩ := h
              rw [← h3]
              refine ⟨fun k => S k ∨ T' k, rfl, ⟨T', h1, hP2.fr h2 (fun k hk e => hTl2 (by rw [← e]; exact hk)), hTl2, .inl hSl, fun k hk => .inr hk, fun k hk => ?_⟩, ?_, fun k hk hs => ?_⟩
              · rcases hk with hk | hk
                · exact Nat.lt_of_lt_of_le (hSlt k hk) (Nat.le_trans hP3.size h2.size)
                · exact Nat.lt_of_lt_of_le (hP2.lt k hk) h2.size
              · exact (hP3.mono (fun k _ hk => hTS k hk)).trans h2 (fun k _ e => by rw [e]; exact hSl)
              · rcases hs with hs | hs
                · exact hs
                · exact hTS k (hP4 k hk hs)
            have hapA : appA L b = if R.2 ≠ 0 then ({ L with D := R.1 }, R.2) else (⟨R.1, L.most, L.n, L.size + b.length, L.waiting + 1⟩, 0) := by
              show (if (doA L.D (.append b) (nameB L.n)).2 ≠ 0 then _ else _) = _
              rw [HNB.out, HRR.out]
            clear hSS hSF hS0 hap hnm hS1 hS y0 y1 y2 y3 y4
            by_cases hcz : R.2 = 0
            · have hapA2 : (⟨⟨R.1, L.most, L.n, L.size + b.length, L.waiting + 1⟩, R.2⟩ : LogA × Int) = appA L b := by rw [hapA, if_neg (by rw [hcz]; decide), hcz]
              have HPO := hpost
              have HAPP : Hid ((⟨⟨R.1, L.most, L.n, L.size + b.length, L.waiting + 1⟩, R.2⟩ : LogA × Int) = appA L b) := hapA2
              have HCZ : Hid (R.2 = 0) := hcz
              rw [hcz]
              clear hpost hapA2 hapA hcz
              obtain ⟨y0, y1, y2, y3, y4⟩ := cells5 hlog2
              go_wp2_with (first
                | ((with_reducible refine at_sto ?_); refine wpList_store_fld rfl (ty := 3) (x := .tmp 81) rfl l 1 108 (.int .i64 ((L.size : Int) + (b.length : Int))) [.int .i64 (L.n : Int), .int .i64 (L.size : Int), .int .i64 (L.waiting : Int), .pointer (some ⟨d, 0, none⟩), .int .i64 L.most] rfl rfl hlog2 (by simp) size134 rfl rfl ?_; intro W3 hV1 hV2 hV3; replace hV1 : W3.heap[l]? = some (.cells #[.int .i64 (L.n : Int), .int .i64 ((L.size : Int) + (b.length : Int)), .int .i64 (L.waiting : Int), .pointer (some ⟨d, 0, none⟩), .int .i64 L.most] 108 (0, 0)) := hV1; obtain ⟨z0, z1, z2, z3, z4⟩ := cells5 hV1)
                | ((with_reducible refine at_sto ?_); refine wpList_store_fld rfl (ty := 3) (x := .tmp 90) rfl l 2 108 (.int .i64 ((L.waiting : Int) + 1)) [.int .i64 (L.n : Int), .int .i64 ((L.size : Int) + (b.length : Int)), .int .i64 (L.waiting : Int), .pointer (some ⟨d, 0, none⟩), .int .i64 L.most] rfl rfl hV1 (by simp) size134 rfl rfl ?_; intro W4 hU1 hU2 hU3; replace hU1 : W4.heap[l]? = some (.cells #[.int .i64 (L.n : Int), .int .i64 ((L.size : Int) + (b.length : Int)), .int .i64 ((L.waiting : Int) + 1), .pointer (some ⟨d, 0, none⟩), .int .i64 L.most] 108 (0, 0)) := hU1))
              go_ret
              have hfin := HPO W4 ⟨L.size + b.length, L.waiting + 1, by rw [hU1]; norm_cast, hV2.trans hU2 (fun _ _ h => h), HAPP.out⟩
              rw [HCZ.out] at hfin
              have hres := hP 0 W4 (by rw [hpR]; exact hfin.trans hFw hGw)
              exact ⟨0, rfl, hres.out⟩
            · have hcb : (R.2 != 0) = true := by simpa using hcz
              have hfin := hpost W2 ⟨L.size, L.waiting, hlog2, Fr.refl _ _, by rw [hapA, if_pos hcz]⟩
              clear hpost hapA
              go_wp2
              go_ret
              have hres := hP R.2 W2 (by rw [hpR]; exact hfin.trans hFw hGw)
              exact ⟨R.2, rfl, hres.out⟩
          · have ir1 : ¬ (0 : Int) < (L.size : Int) := by omega
            clear hrot
            go_wp2
            go_quiet (fail)
            have hBq : Below W0.heap.size W0 (W0.drewN nq) := below_drewN' (Below.refl _ _) nq
            have hBwq : Below w.heap.size w (W0.drewN nq) := hB0.trans (hBq.mono hB0.size)
            have hL := hLB.below hBq
            have hbv : SlB S (W0.drewN nq) (.slice ab b.length capb) b := hbS.below hBq
            generalize W0.drewN nq = WQ at *
            have hFw : Fr S w WQ := Fr.of_below hBwq
            have hGw : ∀ k, k < w.heap.size → S k → S k := fun _ _ h => h
            clear y0 y1 y2 y3 y4 hlog0 hLB hbS hBq
            have hq0 := ok1.p0
            have hq1 := ok1.p1
            have hqu := ok1.used
            have hn1' := ok1.n1
            have hn' := ok1.n2
            have hqs := ok1.size
            have hqw := ok1.wait
            go_wp2_with fail
            obtain ⟨T, hlog, hD, hTl, hSl, hTS, hSlt⟩ := hL
            obtain ⟨y0, y1, y2, y3, y4⟩ := cells5 hlog
            have hll := (Array.getElem?_eq_some_iff.1 hlog).1
            have hbT : SlB T WQ (.slice ab b.length capb) b := hbv.mono (fun k _ hk => hTS k hk)
            have hSS : ∀ W, Below WQ.heap.size WQ W → (W.cell? ⟨l, 3, none⟩ = some (.pointer (some ⟨d, 0, none⟩)) ∧ W.cell? ⟨l, 0, none⟩ = some (.int .i64 (L.n : Int))) := fun W hW => ⟨(hW.cell (p := ⟨l, 3, none⟩) hll).trans y3, (hW.cell (p := ⟨l, 0, none⟩) hll).trans y0⟩
            have hSF : ∀ W, Fr T WQ W → (W.cell? ⟨l, 3, none⟩ = some (.pointer (some ⟨d, 0, none⟩)) ∧ W.cell? ⟨l, 0, none⟩ = some (.int .i64 (L.n : Int))) := fun W hW => by
              have a2 := (hW.block l hll hTl).trans hlog
              exact ⟨(cells5 a2).2.2.2.1, (cells5 a2).1⟩
            have hS0 := hSS WQ.drew (Below.refl _ _).drew
            have hap := fun W (hW : Below WQ.heap.size WQ W) => append_any L.D d W (hD.below hW) (nameB L.n) (by rw [nameB_length]; omega) hq0 hq1 hqu (.slice ab b.length capb) b (hbT.below hW) hbl
            have hnm := fun W (hW : W.cell? ⟨l, 0, none⟩ = some (.int .i64 (L.n : Int))) => walname_any l L.n W hW hn1' hn'
            obtain ⟨R, hR⟩ : ∃ R, doA L.D (.append b) (nameB L.n) = R := ⟨_, rfl⟩
            have HRR : Hid (doA L.D (.append b) (nameB L.n) = R) := hR
            rw [hR] at hap
            clear hR
            obtain ⟨nb, hnb⟩ : ∃ nb, nameB L.n = nb := ⟨_, rfl⟩
            have HNB : Hid (nameB L.n = nb) := hnb
            rw [hnb] at hap hnm HRR
            clear hnb
            go_region_held3 (fun W => W.cell? ⟨l, 3, none⟩ = some (.pointer (some ⟨d, 0, none⟩)) ∧ W.cell? ⟨l, 0, none⟩ = some (.int .i64 (L.n : Int))) (first | assumption)
              (first
                | (go_at_call 65; refine (hnm _ hS0.2).mono ?_; rintro e W1 ⟨rfl, hb⟩; have hB1 : Below WQ.heap.size WQ W1 := (Below.refl _ _).drew.trans hb; have hS1 := hSS W1 hB1)
                | (go_at_call 64; refine (hap _ hB1).mono ?_; intro e W2 hP; replace hP := hP.trans (Fr.of_below hB1); obtain ⟨T', rfl, hP2, hP3, hP4⟩ := hP; have hS := hSF W2 hP3))
            have hlog2 := (hP3.block l hll hTl).trans hlog
            have hTl2 : ¬ T' l := fun ht => hTl (hP4 l hll ht)
            have hpost : ∀ W3, (∃ sz wt : Nat, W3.heap[l]? = some (.cells #[.int .i64 (L.n : Int), .int .i64 (sz : Int), .int .i64 (wt : Int), .pointer (some ⟨d, 0, none⟩), .int .i64 L.most] 108 (0, 0)) ∧ Fr (fun k => k = l) W2 W3 ∧ ((⟨⟨R.1, L.most, L.n, sz, wt⟩, R.2⟩ : LogA × Int) = appA L b)) → LogPost S WQ l d (appA L b) R.2 W3 := fun W3 h => by
              obtain ⟨sz, wt, h1, h2, h3⟩ := h
              rw [← h3]
              refine ⟨fun k => S k ∨ T' k, rfl, ⟨T', h1, hP2.fr h2 (fun k hk e => hTl2 (by rw [← e]; exact hk)), hTl2, .inl hSl, fun k hk => .inr hk, fun k hk => ?_⟩, ?_, fun k hk hs => ?_⟩
              · rcases hk with hk | hk
                · exact Nat.lt_of_lt_of_le (hSlt k hk) (Nat.le_trans hP3.size h2.size)
                · exact Nat.lt_of_lt_of_le (hP2.lt k hk) h2.size
              · exact (hP3.mono (fun k _ hk => hTS k hk)).trans h2 (fun k _ e => by rw [e]; exact hSl)
              · rcases hs with hs | hs
                · exact hs
                · exact hTS k (hP4 k hk hs)
            have hapA : appA L b = if R.2 ≠ 0 then ({ L with D := R.1 }, R.2) else (⟨R.1, L.most, L.n, L.size + b.length, L.waiting + 1⟩, 0) := by
              show (if (doA L.D (.append b) (nameB L.n)).2 ≠ 0 then _ else _) = _
              rw [HNB.out, HRR.out]
            clear hSS hSF hS0 hap hnm hS1 hS y0 y1 y2 y3 y4
            by_cases hcz : R.2 = 0
            · have hapA2 : (⟨⟨R.1, L.most, L.n, L.size + b.length, L.waiting + 1⟩, R.2⟩ : LogA × Int) = appA L b := by rw [hapA, if_neg (by rw [hcz]; decide), hcz]
              have HPO := hpost
              have HAPP : Hid ((⟨⟨R.1, L.most, L.n, L.size + b.length, L.waiting + 1⟩, R.2⟩ : LogA × Int) = appA L b) := hapA2
              have HCZ : Hid (R.2 = 0) := hcz
              rw [hcz]
              clear hpost hapA2 hapA hcz
              obtain ⟨y0, y1, y2, y3, y4⟩ := cells5 hlog2
              go_wp2_with (first
                | ((with_reducible refine at_sto ?_); refine wpList_store_fld rfl (ty := 3) (x := .tmp 81) rfl l 1 108 (.int .i64 ((L.size : Int) + (b.length : Int))) [.int .i64 (L.n : Int), .int .i64 (L.size : Int), .int .i64 (L.waiting : Int), .pointer (some ⟨d, 0, none⟩), .int .i64 L.most] rfl rfl hlog2 (by simp) size134 rfl rfl ?_; intro W3 hV1 hV2 hV3; replace hV1 : W3.heap[l]? = some (.cells #[.int .i64 (L.n : Int), .int .i64 ((L.size : Int) + (b.length : Int)), .int .i64 (L.waiting : Int), .pointer (some ⟨d, 0, none⟩), .int .i64 L.most] 108 (0, 0)) := hV1; obtain ⟨z0, z1, z2, z3, z4⟩ := cells5 hV1)
                | ((with_reducible refine at_sto ?_); refine wpList_store_fld rfl (ty := 3) (x := .tmp 90) rfl l 2 108 (.int .i64 ((L.waiting : Int) + 1)) [.int .i64 (L.n : Int), .int .i64 ((L.size : Int) + (b.length : Int)), .int .i64 (L.waiting : Int), .pointer (some ⟨d, 0, none⟩), .int .i64 L.most] rfl rfl hV1 (by simp) size134 rfl rfl ?_; intro W4 hU1 hU2 hU3; replace hU1 : W4.heap[l]? = some (.cells #[.int .i64 (L.n : Int), .int .i64 ((L.size : Int) + (b.length : Int)), .int .i64 ((L.waiting : Int) + 1), .pointer (some ⟨d, 0, none⟩), .int .i64 L.most] 108 (0, 0)) := hU1))
              go_ret
              have hfin := HPO W4 ⟨L.size + b.length, L.waiting + 1, by rw [hU1]; norm_cast, hV2.trans hU2 (fun _ _ h => h), HAPP.out⟩
              rw [HCZ.out] at hfin
              have hres := hP 0 W4 (by rw [hpR]; exact hfin.trans hFw hGw)
              exact ⟨0, rfl, hres.out⟩
            · have hcb : (R.2 != 0) = true := by simpa using hcz
              have hfin := hpost W2 ⟨L.size, L.waiting, hlog2, Fr.refl _ _, by rw [hapA, if_pos hcz]⟩
              clear hpost hapA
              go_wp2
              go_ret
              have hres := hP R.2 W2 (by rw [hpR]; exact hfin.trans hFw hGw)
              exact ⟨R.2, rfl, hres.out⟩

end Go.Proofs.YtepceidajmedeaaGreatDoor

namespace Go.Proofs.YtepceidajmedeaaGreatDoor
open Go.RowKit CW

def startL (room most : Int) : LogA := ⟨(doA (newA room) .create (nameB 1)).1, most, 1, 0, 0⟩
def z5 : Bytes := [0, 0, 0, 0, 0]
def numsL (L : LogA) : Nat × Nat × Nat × Int × Nat × Nat := (L.n, L.size, L.waiting, L.D.plan, L.D.files.length, usedF L.D.files)

theorem start_nums : numsL (startL 1000 20) = (1, 0, 0, 0, 1, 0) := by kernel_rfl
theorem put1_nums : numsL (putA (startL 1000 20) z5).1 = (1, 13, 1, 0, 1, 13) ∧ (putA (startL 1000 20) z5).2 = 0 := ⟨by kernel_rfl, by kernel_rfl⟩
theorem sync_nums : numsL ⟨(doA (putA (startL 1000 20) z5).1.D .sync (nameB (putA (startL 1000 20) z5).1.n)).1, 20, 1, 0, 0⟩ = (1, 0, 0, 0, 1, 13) := by kernel_rfl
theorem rot_nums : numsL (rotA (putA (startL 1000 20) z5).1).1 = (2, 0, 0, 0, 2, 13) := by kernel_rfl
theorem put2_nums : numsL (putA (putA (startL 1000 20) z5).1 z5).1 = (2, 13, 1, 0, 2, 26) ∧ (putA (putA (startL 1000 20) z5).1 z5).2 = 0 := ⟨by kernel_rfl, by kernel_rfl⟩

theorem OkL.of_nums {L : LogA} {n sz wt f u : Nat} {p : Int} (h : numsL L = (n, sz, wt, p, f, u)) (h1 : 1 ≤ n) (h2 : n < 100) (h3 : 0 ≤ p) (h4 : p ≤ 4611686018427387904) (h5 : f < 1048576) (h6 : u ≤ 1099511627776) (h7 : sz ≤ 1099511627776) (h8 : wt ≤ 1099511627776) : OkL L := by
  unfold numsL at h
  simp only [Prod.mk.injEq] at h
  obtain ⟨rfl, rfl, rfl, rfl, rfl, rfl⟩ := h
  exact ⟨h1, h2, h3, h4, h5, h6, h7, h8⟩

theorem seg_any (l d : Nat) (L : LogA) (w : World) (h : w.heap[l]? = some (.cells (logC L d) 108 (0, 0))) :
    Calls Tryz.prog 38 #[.pointer (some ⟨l, 0, none⟩)] w fun e w' => e = .returned (.int .i64 (L.n : Int)) ∧ w' = w := by
  obtain ⟨y0, y1, y2, y3, y4⟩ := cells5 h
  go_enter Tryz.func38, Tryz.ntmps38
  go_wp2
  go_ret
  exact ⟨rfl, rfl⟩
theorem size_any (l d : Nat) (L : LogA) (w : World) (h : w.heap[l]? = some (.cells (logC L d) 108 (0, 0))) :
    Calls Tryz.prog 39 #[.pointer (some ⟨l, 0, none⟩)] w fun e w' => e = .returned (.int .i64 (L.size : Int)) ∧ w' = w := by
  obtain ⟨y0, y1, y2, y3, y4⟩ := cells5 h
  go_enter Tryz.func39, Tryz.ntmps39
  go_wp2
  go_ret
  exact ⟨rfl, rfl⟩
theorem wait_any (l d : Nat) (L : LogA) (w : World) (h : w.heap[l]? = some (.cells (logC L d) 108 (0, 0))) :
    Calls Tryz.prog 53 #[.pointer (some ⟨l, 0, none⟩)] w fun e w' => e = .returned (.int .i64 (L.waiting : Int)) ∧ w' = w := by
  obtain ⟨y0, y1, y2, y3, y4⟩ := cells5 h
  go_enter Tryz.func53, Tryz.ntmps53
  go_wp2
  go_ret
  exact ⟨rfl, rfl⟩

theorem walnew_any (d : Nat) (most : Int) (n sz : Nat) (w : World) :
    Calls Tryz.prog 61 #[.pointer (some ⟨d, 0, none⟩), .int .i64 most, .int .i64 (n : Int), .int .i64 (sz : Int)] w fun e w' => e = .returned (.pointer (some ⟨w.heap.size, 0, none⟩)) ∧ w' = w.alloc (.cells #[.int .i64 (n : Int), .int .i64 (sz : Int), .int .i64 0, .pointer (some ⟨d, 0, none⟩), .int .i64 most] 108) := by
  go_enter Tryz.func61, Tryz.ntmps61
  go_wp2
  go_ret
  exact ⟨rfl, rfl⟩

theorem newA_ok (room : Int) : (newA room).plan = 0 ∧ (newA room).files.length = 0 := ⟨rfl, rfl⟩

set_option maxHeartbeats 1000000 in
theorem start_any (room most : Int) (w : World) :
    Calls Tryz.prog 16 #[.int .i64 room, .int .i64 most] w fun e w' => ∃ S d l, e = .returned (.tuple #[.pointer (some ⟨d, 0, none⟩), .pointer (some ⟨l, 0, none⟩)]) ∧ LogAt S w' l d (startL room most) ∧ Below w.heap.size w w' ∧ (∀ k, S k → w.heap.size ≤ k) := by
  have hn := new_any room w
  go_enter Tryz.func16, Tryz.ntmps16
  go_wp2_with (go_at_call 40; refine hn.mono ?_; rintro e w1 ⟨T0, d, rfl, hD, hB1, hT0⟩)
  have hc := create_any (newA room) d w1 hD (nameB 1) (by rw [nameB_length]; omega) (by rw [(newA_ok room).1]; omega) (by rw [(newA_ok room).1]; omega) (by rw [(newA_ok room).2]; omega)
  have hnb : (nameB 1).toArray = #[108, 111, 103, 45, 48, 48, 48, 48, 48, 48, 48, 49] := by kernel_rfl
  rw [hnb] at hc
  have HR : Hid ((startL room most).D = (doA (newA room) .create (nameB 1)).1) := rfl
  obtain ⟨R, hR⟩ : ∃ R, doA (newA room) .create (nameB 1) = R := ⟨_, rfl⟩
  rw [hR] at hc HR
  clear hR
  go_wp2_with fail
  refine hc.mono ?_
  intro e w2 hP
  obtain ⟨T, rfl, hD2, hF2, hG2⟩ := hP
  have hwn := walnew_any d most 1 0 w2
  have hlt := hD2.lt
  have hBz := hB1.size
  have hFz := hF2.size
  go_wp2_with (go_at_call 61; refine hwn.mono ?_; rintro e w3 ⟨rfl, rfl⟩)
  go_ret2
  have hA := boxF w2 (.cells #[.int .i64 ((1 : Nat) : Int), .int .i64 ((0 : Nat) : Int), .int .i64 0, .pointer (some ⟨d, 0, none⟩), .int .i64 most] 108)
  have hge : ∀ k, T k → w.heap.size ≤ k := fun k hk => by
    rcases Nat.lt_or_ge k w1.heap.size with h | h
    · exact hT0 k (hG2 k h hk)
    · omega
  refine ⟨fun k => T k ∨ k = w2.heap.size, d, w2.heap.size, rfl, ⟨T, hA.2.2, ?_, fun ht => by have := hlt _ ht; omega, .inr rfl, fun k hk => .inl hk, fun k hk => ?_⟩, ?_, fun k hk => ?_⟩
  · rw [HR.out]; exact hD2.below hA.1
  · have hsz : ∀ C, (w2.alloc C).heap.size = w2.heap.size + 1 := fun C => by simp
    have hk2 : k ≤ w2.heap.size := by
      rcases hk with hk | hk
      · exact Nat.le_of_lt (hlt k hk)
      · exact Nat.le_of_eq hk
    exact Nat.lt_of_lt_of_le (Nat.lt_succ_of_le hk2) (Nat.le_of_eq (hsz _).symm)
  · exact ((hB1.trans (hF2.below hBz (fun k hk ht => by have := hT0 k ht; omega)))).trans (hA.1.mono (by omega))
  · rcases hk with hk | hk
    · exact hge k hk
    · omega

end Go.Proofs.YtepceidajmedeaaGreatDoor

namespace Go.Proofs.YtepceidajmedeaaGreatDoor
open Go.RowKit CW

def O5 : Obj := .cells ((z5.map encB).toArray) 5
theorem mk5 (W : World) : (Instr.makeSlice 30 (.int .i64 5) (.int .i64 5)).run Tryz.prog W = .ok (.slice (some ⟨W.heap.size, 0, none⟩) 5 5) (W.alloc O5) := by
  obtain ⟨i, hi, hz, hsz, hby⟩ := tyB.info
  have h := run_makeSlice (w := W) 30 5 i (.int .u8 0) tyB.ht hi hz .i64 .i64 5 5 (by decide) (by decide) (by rw [hsz]; decide) (by rw [hby]; decide) (by decide)
  rw [hsz] at h
  have e : madeCells (Value.int .u8 0).cells (Int.toNat 5 * 1) = (z5.map encB).toArray := by kernel_rfl
  rw [e] at h
  exact h
theorem row5 (W : World) : SlB (fun _ => False) (W.alloc O5) (.slice (some ⟨W.heap.size, 0, none⟩) 5 5) z5 :=
  Row.mono (M := fun k => k < W.heap.size) (Row.lit (size := 1) (Nat.le_refl _) (by decide) rfl rfl) (fun _ _ h => h.elim)

set_option maxHeartbeats 2000000 in
set_option maxRecDepth 100000 in
theorem alive_any (w : World) : Calls Tryz.prog 15 #[] w fun e w' => e = .returned (.bool true) ∧ Below w.heap.size w w' := by
  have hst := start_any 1000 20 w
  go_enter Tryz.func15, Tryz.ntmps15
  go_wp2_with (go_at_call 16; refine hst.mono ?_; rintro e w1 ⟨S, d, l, rfl, hL, hB, hS⟩)
  have hSlt : ∀ k, S k → k < w1.heap.size := by obtain ⟨_, _, _, _, _, _, h6⟩ := hL; exact h6
  have hmk := mk5
  have hA1 : Below w1.heap.size w1 (w1.alloc O5).drew := ((Below.refl _ _).alloc (Nat.le_refl _) _).drew
  have hz1 : (w1.alloc O5).heap.size = w1.heap.size + 1 := by simp
  have hA2 : Below w1.heap.size w1 ((w1.alloc O5).alloc O5).drew := (((Below.refl _ _).alloc (Nat.le_refl _) _).alloc (by omega) _).drew
  have r1 : SlB S (w1.alloc O5).drew (.slice (some ⟨w1.heap.size, 0, none⟩) 5 5) z5 := (Row.lit (base := w1.heap.size) (size := 1) (Nat.le_refl _) (by decide) rfl rfl : Row _ (w1.alloc O5) _ 5 (z5.map encB)).mono (fun k _ hk => hSlt k hk)
  have r2 : SlB S ((w1.alloc O5).alloc O5).drew (.slice (some ⟨w1.heap.size, 0, none⟩) 5 5) z5 := Row.below (w := w1.alloc O5) (w' := (w1.alloc O5).alloc O5) r1 ((Below.refl _ (w1.alloc O5)).alloc (Nat.le_refl _) O5)
  have r3 : SlB S ((w1.alloc O5).alloc O5).drew (.slice (some ⟨w1.heap.size + 1, 0, none⟩) 5 5) z5 := by
    have h : Row (fun k => k < w1.heap.size) ((w1.alloc O5).alloc O5) (.slice (some ⟨(w1.alloc O5).heap.size, 0, none⟩) 5 5) 5 (z5.map encB) := Row.lit (base := w1.heap.size) (size := 1) (by omega) (by decide) rfl rfl
    rw [hz1] at h
    exact Row.mono (w := (w1.alloc O5).alloc O5) h (fun k _ hk => hSlt k hk)
  have ok0 : OkL (startL 1000 20) := OkL.of_nums start_nums (by omega) (by omega) (by omega) (by omega) (by omega) (by omega) (by omega) (by omega)
  have ok1 : OkL (putA (startL 1000 20) z5).1 := OkL.of_nums put1_nums.1 (by omega) (by omega) (by omega) (by omega) (by omega) (by omega) (by omega) (by omega)
  have okr : OkL (rotA (putA (startL 1000 20) z5).1).1 := OkL.of_nums rot_nums (by omega) (by omega) (by omega) (by omega) (by omega) (by omega) (by omega) (by omega)
  have oks : OkL ⟨(doA (putA (startL 1000 20) z5).1.D .sync (nameB (putA (startL 1000 20) z5).1.n)).1, 20, 1, 0, 0⟩ := OkL.of_nums sync_nums (by omega) (by omega) (by omega) (by omega) (by omega) (by omega) (by omega) (by omega)
  have hsz0 : (startL 1000 20).size = 0 := rfl
  have hn1 : (putA (startL 1000 20) z5).1.n = 1 := by kernel_rfl
  have hpt1 := fun W (hW : LogAt S W l d (startL 1000 20)) v (hv : SlB (fun _ => False) W v z5) => put_any (startL 1000 20) l d W hW v z5 hv (by decide) ok0 (fun h => by rw [hsz0] at h; omega)
  have hpt2 := fun S2 W (hW : LogAt S2 W l d (putA (startL 1000 20) z5).1) v (hv : SlB (fun _ => False) W v z5) => put_any (putA (startL 1000 20) z5).1 l d W hW v z5 hv (by decide) ok1 (fun h => ⟨by rw [hn1]; omega, oks.p0, oks.p1, oks.files, okr⟩)
  have hc1 := put1_nums.2
  have hc2 := put2_nums.2
  have hnn := put2_nums.1
  generalize (putA (putA (startL 1000 20) z5).1 z5) = R2 at *
  generalize (putA (startL 1000 20) z5) = R1 at *
  clear ok0 ok1 okr oks hsz0 hn1
  have hstep : ∀ W W2, Below w1.heap.size w1 W → Fr S W W2 → Below w.heap.size w W2 := fun W W2 h k => (hB.trans (h.mono hB.size)).trans (k.below (Nat.le_trans hB.size h.size) (fun q h1 h2 => by have := hS q h2; omega))
  have hstep2 : ∀ S2 W W2 W' W3, Below w1.heap.size w1 W → Fr S W W2 → (∀ k, k < W.heap.size → S2 k → S k) → Below W2.heap.size W2 W' → Fr S2 W' W3 → Below w.heap.size w W3 := fun S2 W W2 W' W3 h k g h' k' =>
    have hb := hstep W W2 h k
    (hb.trans (h'.mono hb.size)).trans (k'.below (Nat.le_trans hb.size h'.size) (fun q h1 h2 => by
      have h3 := Nat.le_trans hB.size h.size
      have := hS q (g q (by omega) h2)
      omega))
  go_wp2_with fail
  go_region_held3 (fun W => Below w.heap.size w W) (first | assumption | exact hB.drew | exact Below.alloc (by assumption) (Below.size (by assumption)) _ | exact (Below.alloc hB hB.size _).drew | exact ((Below.alloc hB hB.size _).alloc (by have := hB.size; omega) _).drew)
    (first
      | (go_at_call 17; refine (hpt1 _ (hL.below (by first | exact hA1 | exact hA2)) _ (SlB.any (M := S) (by first | exact r1 | exact r2 | exact r3))).mono ?_; rintro e W2 ⟨c, rfl, hP1⟩; obtain ⟨S2, rfl, hL1, hF1, hG1⟩ := hP1; have hB2 := hstep _ _ (by first | exact hA1 | exact hA2) hF1)
      | (go_at_call 17; refine (hpt2 S2 _ (by first | exact hL1 | exact hL1.below ((Below.refl _ _).alloc (Nat.le_refl _) _)) _ (by first | exact row5 _ | exact (SlB.fr (M' := S2) r2 hF1 (fun _ h => h) hG1).any | exact (SlB.fr (M' := S2) r3 hF1 (fun _ h => h) hG1).any)).mono ?_; rintro e W3 ⟨c, rfl, hP2⟩; obtain ⟨S3, rfl, hL2, hF2, hG2⟩ := hP2; have hB3 := hstep2 S2 _ _ _ _ (by first | exact hA1 | exact hA2) hF1 hG1 (by first | exact Below.refl _ _ | exact (Below.refl _ _).alloc (Nat.le_refl _) _) hF2))
  all_goals
    obtain ⟨_, hlog, _, _, _, _, _⟩ := hL2
    have hsg := seg_any l d _ _ hlog
    have hsi := size_any l d _ _ hlog
    have hwa := wait_any l d _ _ hlog
    unfold numsL at hnn
    simp only [Prod.mk.injEq] at hnn
    rw [hnn.1] at hsg
    rw [hnn.2.1] at hsi
    rw [hnn.2.2.1] at hwa
    clear hpt1 hpt2 hstep hstep2 r1 r2 r3 hA1 hA2 hmk
    go_wp2_with (first
      | (go_at_call 38; refine hsg.mono ?_; rintro e w4 ⟨rfl, rfl⟩)
      | (go_at_call 39; refine hsi.mono ?_; rintro e w4 ⟨rfl, rfl⟩)
      | (go_at_call 53; refine hwa.mono ?_; rintro e w4 ⟨rfl, rfl⟩))
    go_ret
    exact ⟨rfl, hB3⟩

end Go.Proofs.YtepceidajmedeaaGreatDoor
