/- Lemmas for a law of this seat, part 33: contracts of the functions that it reaches, and the plain law. No condition but those of each lemma. -/
import Derived.Test.YtepceidajmedeaaGreatDoorWal30
import Derived.Test.YtepceidajmedeaaGreatDoorWal32

namespace Go.Proofs.YtepceidajmedeaaGreatDoor
open Go.RowKit CW

theorem same6_eq (v v' : Value) (rs : List Bytes) (w : World) (hv : SlBB (fun _ => False) w v rs) (hv' : SlBB (fun _ => False) w v' rs) :
    Calls Tryz.prog 21 #[v, v'] w fun e w' => e = .returned (.bool true) ∧ Below w.heap.size w w' :=
  (same6_any v v' rs rs w hv hv').mono (by rintro e w' ⟨rfl, hb⟩; exact ⟨by rw [beq_self_eq_true], hb⟩)

/-- The reference's log in its box. -/
def Box8 (g : Nat) (L : LogA) (wr : World) : Prop :=
  ∃ sv ps, wr.heap[g]? = some (.cells (lg8 L.D.room sv L.D.plan L.D.down L.most L.n L.size L.waiting) 37 (0, 0)) ∧ SlF (fun q => q = g) wr sv ps ∧ ps.map (·.1) = L.D.files

set_option maxHeartbeats 1000000 in
set_option maxRecDepth 100000 in
theorem walrec_few (m : Nat) (v : Value) (rs : List Bytes) (w : World) (hm : m ≤ 65535) (hv : SlBB (fun _ => False) w v rs) (hl : rs.length ≤ 8796093022208) (hf : fewB rs = true) :
    Calls Tryz.prog 3 #[.int .u16 (m : Int), v] w fun e w' => e = .returned (.bool true) ∧ Below w.heap.size w w' := by
  obtain ⟨f1, f2, f3⟩ := fewN_mem rs hf
  have hst := fun W => start_any 100000 (m : Int) W
  have hfw := few6_any v rs w hv hl
  rw [hf] at hfw
  obtain ⟨a, cap, rfl, hn, hc, hnone, hcell⟩ := hv.open
  have hm0 : (0 : Int) ≤ (m : Int) := by omega
  have hm1 : (m : Int) ≤ 65535 := by omega
  go_enter Tryz.func3, Tryz.ntmps3
  go_wp2_with (first
    | (go_at_call 14; refine hfw.mono ?_; rintro e w1 ⟨rfl, rfl⟩)
    | (go_at_call 16; refine (hst _).mono ?_; rintro e w1 ⟨S, d, l, rfl, hL, hB, hS⟩))
  have hW0 : Hid (Way w l d (putsA m (rs.take 0)).1 (.slice none 0 0) (putsA m (rs.take 0)).2 w1) := (⟨⟨S, hL, hS, OwnW.nil⟩, hB⟩ : Way w l d (startL 100000 m) (.slice none 0 0) [] w1)
  clear hL hB hS hst hfw
  go_loopw [7, 28] (fun want i wr => ∃ k : Nat, k ≤ rs.length ∧ i = .int .i64 k ∧ Hid (Way w l d (putsA m (rs.take k)).1 want (putsA m (rs.take k)).2 wr)) (fun _ i _ => rs.length - (intOf i).toNat)
  case atStart => exact ⟨0, by omega, rfl, hW0⟩
  case round =>
    clear hW0
    obtain ⟨k, hk, rfl, HW⟩ := hrel
    have hBw := HW.out.below
    by_cases hlt : k < rs.length
    · obtain ⟨b, off, rfl, hb, _, hcc⟩ := hcell (by omega)
      obtain ⟨u, hu, hsu⟩ := hcc k hlt
      have c1 := (hBw.cell (p := ⟨b, off + k, none⟩) hb).trans hu
      have hsu2 : SlB (fun q => w.heap.size ≤ q) w u rs[k] := hsu.mono (fun q hq h => by omega)
      have hsur : SlB (fun _ => False) wr u rs[k] := hsu.fr (F := fun _ => False) (Fr.of_below hBw) (fun _ h => h) (fun _ _ h => h)
      obtain ⟨ok1, okr⟩ := putsA_ok m rs hf k hk
      have HT : Hid (putsA m (rs.take (k + 1)) = putStep (putsA m (rs.take k)) rs[k]) := putsA_take m rs k hlt
      have hx := f3 rs[k] (List.getElem_mem hlt)
      have hpl := (putsA_holds m rs hf k hk).2.1
      obtain ⟨au, cu, rfl, hu1, hu2⟩ := hsu.shape
      obtain ⟨S, hL, hS, vs, hvl, hvo, hvn, hve⟩ := HW.out.ex
      have hpt := put_any _ l d wr hL _ rs[k] hsur (by omega) ok1 (fun h => ⟨(okr h).1, (okr h).2.1, (okr h).2.2.1, (okr h).2.2.2.1, (okr h).2.2.2.2.2⟩)
      obtain ⟨R, hR⟩ : ∃ R, putA (putsA m (rs.take k)).1 rs[k] = R := ⟨_, rfl⟩
      rw [hR] at hpt
      have HT2 : Hid (putsA m (rs.take (k + 1)) = (R.1, if R.2 = 0 then (putsA m (rs.take k)).2 ++ [rs[k]] else (putsA m (rs.take k)).2)) := by show _ = _; rw [HT.out, ← hR]; rfl
      clear hR HT ok1 okr hcell hcc hu hsur hsu
      generalize putsA m (rs.take k) = Q at *
      generalize rs[k] = x at *
      have i1 : (k : Int) < (rs.length : Int) := by omega
      have hge : ∀ g, u7.ownBlock = some g → w.heap.size ≤ g := fun g hg => (own_lt hvo g hg.symm).1
      have hvw : OwnW S w wr u7 Q.2 := ⟨vs, hvl, hvo, hvn, hve⟩
      have hvob : ∀ W, Fr S wr W → W.ownsRow w.heap.size 30 1 u7 Q.2.length vs := fun W hF => ownsRow_block hvo (fun g hg => hF.block g (own_lt hvo g hg.symm).2 (hvn g hg))
      have hwz : w.heap.size ≤ wr.heap.size := hBw.size
      clear HW hvo
      by_cases hcz : R.2 = 0
      · have hcb : (R.2 == 0) = true := by rw [hcz]; rfl
        have HT3 : Hid (putsA m (rs.take (k + 1)) = (R.1, Q.2 ++ [x])) := by show _ = _; rw [HT2.out, if_pos hcz]
        go_wp2_with (first
          | (go_at_call 17; refine hpt.mono ?_; rintro e w2 ⟨c, rfl, hp⟩; have hW2 := Way.skip hL hS hvw hBw hp; obtain ⟨S2, rfl, hL2, hF2, hG2⟩ := hp; have hvo2 := hvob w2 hF2; have hz2 := hF2.size)
          | (at_builtin; refine wpList_app_at tyBB rfl rfl rfl rfl (hvo2.alloc _) (Row.lit1 w2 (.slice au x.length cu) 30) rfl (by intro u hu; simp at hu; subst hu; rfl) (by unfold maxLen; omega) (by omega) (by simp; omega) ?_; intro v3 w3 ho3 hg3 hat3))
        have hW3 := Way.took hW2 hvl hve hsu2 (boxF w2 _).1 ho3 hg3 hat3 hge
        go_roundw
        case rel => exact ⟨k + 1, by omega, by go_num, by rw [HT3.out]; exact hW3⟩
        case measure => simp [intOf]; omega
      · have hcb : (R.2 == 0) = false := by simpa using hcz
        have HT3 : Hid (putsA m (rs.take (k + 1)) = (R.1, Q.2)) := by show _ = _; rw [HT2.out, if_neg hcz]
        go_wp2_with (go_at_call 17; refine hpt.mono ?_; rintro e w2 ⟨c, rfl, hp⟩; have hW2 := Way.skip hL hS hvw hBw hp; obtain ⟨S2, rfl, hL2, hF2, hG2⟩ := hp)
        go_roundw
        case rel => exact ⟨k + 1, by omega, by go_num, by rw [HT3.out]; exact hW2⟩
        case measure => simp [intOf]; omega
    · have hkl : k = rs.length := by omega
      subst hkl
      rw [List.take_length] at HW
      have hnw := fun W => new8_any (M := fun _ => False) 100000 (m : Int) W (fun _ h => h.elim)
      have HL0 : Hid ((putsA m (rs.take 0)).1 = startL 100000 (m : Int)) := rfl
      generalize startL 100000 (m : Int) = L0 at *
      go_wp2_with (first
        | (go_at_call 18; refine (hnw _).mono ?_; rintro e w2 ⟨v2, rfl, hr2, hB2⟩; obtain ⟨sv2, ps2, rfl, hs2, hps2⟩ := hr2; obtain ⟨a2, cap2, rfl, hn2, hc2, _, _⟩ := hs2.open; unfold lg8)
        | ((with_reducible refine at_sto ?_); refine wpList_store_in rfl (ty := 37) (x := .tmp 10) (y := .tmp 43) rfl w2.heap.size 0 37 (.agg #[.int .i64 L0.D.room, .slice a2 ps2.length cap2, .int .i64 L0.D.plan, .bool L0.D.down, .int .i64 L0.most, .int .i64 (L0.n : Int), .int .i64 (L0.size : Int), .int .i64 (L0.waiting : Int)]) [.int .i64 0, .slice none 0 0, .int .i64 0, .bool false, .int .i64 0, .int .i64 0, .int .i64 0, .int .i64 0] rfl rfl (heap_alloc_new _ _) (by simp [Value.cells]) size37 (by intro u hu; simp [Value.cells] at hu; rcases hu with rfl | rfl | rfl | rfl | rfl | rfl | rfl | rfl <;> rfl) ?_; intro W9 hE1 hE2 hE3; replace hE1 : W9.heap[w2.heap.size]? = some (.cells #[.int .i64 L0.D.room, .slice a2 ps2.length cap2, .int .i64 L0.D.plan, .bool L0.D.down, .int .i64 L0.most, .int .i64 (L0.n : Int), .int .i64 (L0.size : Int), .int .i64 (L0.waiting : Int)] 37 (0, 0)) := hE1))
      have HFE : Hid (Fr (fun q => q = w2.heap.size) wr W9) := ((Fr.of_below hB2 (F := fun q => q = w2.heap.size)).trans (Fr.of_below (F := fun q => q = w2.heap.size) (boxF w2 _).1) (fun _ _ h => h)).trans hE2 (fun _ _ h => h)
      have hgw : wr.heap.size ≤ w2.heap.size := hB2.size
      have HB0 : Hid (Box8 w2.heap.size (putsA m (rs.take 0)).1 W9) := by
        show Box8 _ _ _
        rw [HL0.out]
        have hs3 : SlF (fun q => q = w2.heap.size) w2 (.slice a2 ps2.length cap2) ps2 := hs2.fr (F := fun _ => False) (Fr.refl _ w2) (fun _ h => h) (fun k hk h => by omega)
        exact ⟨.slice a2 ps2.length cap2, ps2, hE1, hs3.fr ((Fr.of_below (F := fun q => q = w2.heap.size) (boxF w2 _).1).trans hE2 (fun _ _ h => h)) (fun _ h => h) (fun _ _ h => h), hps2⟩
      generalize w2.heap.size = g at *
      have hgl : g < W9.heap.size := (Array.getElem?_eq_some_iff.1 hE1).1
      clear hE1 hE2 hE3 hB2 hs2 hps2 HL0 hnw hBw
      obtain ⟨wE, hwE⟩ : ∃ x, x = wr := ⟨_, rfl⟩
      subst hwE
      go_loopw [46] (fun i wr => ∃ k : Nat, k ≤ rs.length ∧ i = .int .i64 k ∧ Hid (Box8 g (putsA m (rs.take k)).1 wr) ∧ Hid (Fr (fun q => q = g) W9 wr)) (fun i _ => rs.length - (intOf i).toNat)
      case atStart => exact ⟨0, by omega, rfl, HB0, Fr.refl _ _⟩
      case round =>
        clear HB0
        obtain ⟨k, hk, rfl, HB8, HF⟩ := hrel
        have HFw : Hid (Fr (fun q => q = g) wE wr) := HFE.out.trans HF.out (fun _ _ h => h)
        have HW8 : Hid (Way w l d (putsA m rs).1 u7 (putsA m rs).2 wr) := HW.out.fr HFw.out (fun q hq => by rw [hq]; exact hgw)
        have hBw := HW8.out.below
        by_cases hlt : k < rs.length
        · obtain ⟨b, off, rfl, hb, _, hcc⟩ := hcell (by omega)
          obtain ⟨u, hu, hsu⟩ := hcc k hlt
          have c1 := (hBw.cell (p := ⟨b, off + k, none⟩) hb).trans hu
          have hsur : SlB (fun _ => False) wr u rs[k] := hsu.fr (F := fun _ => False) (Fr.of_below hBw) (fun _ h => h) (fun _ _ h => h)
          obtain ⟨ok1, okr⟩ := putsA_ok m rs hf k hk
          have HT : Hid (putsA m (rs.take (k + 1)) = putStep (putsA m (rs.take k)) rs[k]) := putsA_take m rs k hlt
          have hx := f3 rs[k] (List.getElem_mem hlt)
          obtain ⟨au, cu, rfl, hu1, hu2⟩ := hsu.shape
          obtain ⟨sv5, ps5, hg5, hs5, hps5⟩ := HB8.out
          have hp8 := put8_any (M := fun q => q = g) _ _ wr ⟨sv5, ps5, rfl, hs5, hps5⟩ (fun q hq => by rw [hq]; exact (Array.getElem?_eq_some_iff.1 hg5).1) _ rs[k] hsur (by omega) ok1 okr
          obtain ⟨a5, cap5, rfl, hn5, hc5, _, _⟩ := hs5.open
          obtain ⟨R, hR⟩ : ∃ R, putA (putsA m (rs.take k)).1 rs[k] = R := ⟨_, rfl⟩
          rw [hR] at hp8
          have HT2 : Hid ((putsA m (rs.take (k + 1))).1 = R.1) := by show _ = _; rw [HT.out, ← hR]; rfl
          clear hR HT ok1 okr hcell hcc hu hsur hsu HW8 HW HB8 HFE
          generalize putsA m (rs.take k) = Q at *
          generalize rs[k] = x at *
          unfold lg8 at hg5 hp8
          obtain ⟨y0, y1, y2, y3, y4, y5, y6, y7⟩ := cells8 hg5
          have hgwr : g < wr.heap.size := (Array.getElem?_eq_some_iff.1 hg5).1
          have i1 : (k : Int) < (rs.length : Int) := by omega
          go_wp2_with (first
            | (go_at_call 19; refine hp8.mono ?_; rintro e w2 ⟨v2, rfl, hr2, hB2⟩; obtain ⟨sv2, ps2, rfl, hs2, hps2⟩ := hr2; obtain ⟨a2, cap2, rfl, hn2, hc2, _, _⟩ := hs2.open; unfold lg8; have kg2 := (hB2.block g hgwr).trans hg5)
            | ((with_reducible refine at_sto ?_); refine wpList_store_in rfl (ty := 37) (x := .tmp 10) (y := .tmp 54) rfl g 0 37 (.agg #[.int .i64 R.1.D.room, .slice a2 ps2.length cap2, .int .i64 R.1.D.plan, .bool R.1.D.down, .int .i64 R.1.most, .int .i64 (R.1.n : Int), .int .i64 (R.1.size : Int), .int .i64 (R.1.waiting : Int)]) [.int .i64 Q.1.D.room, .slice a5 ps5.length cap5, .int .i64 Q.1.D.plan, .bool Q.1.D.down, .int .i64 Q.1.most, .int .i64 (Q.1.n : Int), .int .i64 (Q.1.size : Int), .int .i64 (Q.1.waiting : Int)] rfl rfl kg2 (by simp [Value.cells]) size37 (by intro u hu; simp [Value.cells] at hu; rcases hu with rfl | rfl | rfl | rfl | rfl | rfl | rfl | rfl <;> rfl) ?_; intro W8 hE1 hE2 hE3; replace hE1 : W8.heap[g]? = some (.cells #[.int .i64 R.1.D.room, .slice a2 ps2.length cap2, .int .i64 R.1.D.plan, .bool R.1.D.down, .int .i64 R.1.most, .int .i64 (R.1.n : Int), .int .i64 (R.1.size : Int), .int .i64 (R.1.waiting : Int)] 37 (0, 0)) := hE1))
          have HF8 : Hid (Fr (fun q => q = g) W9 W8) := (HF.out.trans (Fr.of_below hB2 (F := fun q => q = g)) (fun _ _ h => h)).trans hE2 (fun _ _ h => h)
          have HB9 : Hid (Box8 g R.1 W8) := (⟨.slice a2 ps2.length cap2, ps2, hE1, hs2.fr hE2 (fun _ h => h) (fun _ _ h => h), hps2⟩ : Box8 g R.1 W8)
          go_roundw
          case rel => exact ⟨k + 1, by omega, by go_num, by rw [HT2.out]; exact HB9, HF8⟩
          case measure => simp [intOf]; omega
        · have hkl : k = rs.length := by omega
          subst hkl
          rw [List.take_length] at HB8
          obtain ⟨e1, e2, e3, e4, e10, e5, e6, e7, e8, e9⟩ := putsA_end m rs hf
          obtain ⟨T, hD⟩ := HW8.out.lt
          obtain ⟨sv5, ps5, hg5, hs5, hps5⟩ := HB8.out
          obtain ⟨S, _, _, hOW⟩ := HW8.out.ex
          have hwant := hOW.sl hBw
          clear hOW HB8 HW8 HW HFE HF HFw hcell hf
          generalize putsA m rs = Q at *
          obtain ⟨a5, cap5, rfl, hn5, hc5, _, _⟩ := hs5.open
          unfold lg8 at hg5
          have hr8e : records8 Q.1.D = Q.2 := by unfold records8; rw [e3]; exact e1
          have hrc := records_any Q.1.D d wr hD e5 (by omega) (by omega) e4 (by omega)
          rw [e1] at hrc
          have hr8 : ∀ W, Below wr.heap.size wr W → Calls Tryz.prog 22 #[.agg (dk5 Q.1.D.room (.slice a5 ps5.length cap5) Q.1.D.plan Q.1.D.down)] W fun e w' => ∃ v', e = .returned v' ∧ SlBB (fun _ => False) w' v' Q.2 ∧ Below W.heap.size W w' := fun W hW => by
            rw [← hr8e]
            exact records8_any Q.1.D _ W ⟨_, ps5, rfl, (hs5.any).below hW, hps5⟩ (by omega) (by omega) (fun z hz => by rw [e3] at hz; exact ⟨(e4 z hz).1, by have := (e4 z hz).2; omega, e9 z hz⟩) (by rw [hr8e, ← e1]; omega)
          have hdl : ∀ W, Below wr.heap.size wr W → _ := fun W hW => disklist_any W (hD.below hW) (by omega)
          have hnm : Q.1.D.files.map (fun f => stV f.name) = (Q.1.D.files.map FileA.name).map stV := by rw [List.map_map]; rfl
          rw [hnm] at hdl
          have HLEN : Hid (Q.1.D.files.length = (Q.1.D.files.map FileA.name).length) := by show _ = _; rw [List.length_map]
          have hsg := fun (v : Value) (W : World) (hv : SlS (fun _ => False) W v (Q.1.D.files.map FileA.name)) => seglist_any v (Q.1.D.files.map FileA.name) W hv (by rw [List.length_map]; omega)
          have hgp := fun (v : Value) (W : World) (hv : RowS (fun _ => False) W v (segsB (Q.1.D.files.map FileA.name)).length (ints (segsB (Q.1.D.files.map FileA.name)))) (hlz : (segsB (Q.1.D.files.map FileA.name)).length ≤ 4398046511104) => gap_any v _ W hv hlz (fun z hz => ⟨by have := e4 z hz; omega, by have := e4 z hz; omega⟩)
          rw [e2] at hgp
          have hlz : (segsB (Q.1.D.files.map FileA.name)).length ≤ 4398046511104 := by omega
          unfold dk5 at hr8
          clear e1 e2 e3 e4 e5 e9 e10 hr8e hnm hD
          generalize Q.1.D.files.map FileA.name = ss at *
          generalize segsB ss = zs at *
          have hgwr : g < wr.heap.size := (Array.getElem?_eq_some_iff.1 hg5).1
          clear hs5
          go_wp2_with (first
            | (go_at_call 20; refine hrc.mono ?_; rintro e w3 ⟨v3, rfl, ho3, hb3⟩; have hg3 := ho3.sl (M := fun _ => False) (fun _ h => h.elim); have hw3 := hwant.below hb3)
            | (go_at_call 15; refine (alive_any _).mono ?_; rintro e w4 ⟨rfl, hb4⟩; have hb34 := hb3.trans (hb4.mono hb3.size); have hg4 := hg3.below hb4; have hw4 := hw3.below hb4)
            | (go_at_call 21; refine (same6_eq _ _ _ _ hg6 hx6).mono ?_; rintro e w7 ⟨rfl, hb7⟩; have hb37 := hb36.trans (hb7.mono hb36.size))
            | (go_at_call 21; refine (same6_eq _ _ _ _ hg4 hw4).mono ?_; rintro e w5 ⟨rfl, hb5⟩; have hb35 := hb34.trans (hb5.mono hb34.size); have hg55 := hg4.below hb5; obtain ⟨y0, y1, y2, y3, y4, y5, y6, y7⟩ := cells8 ((hb35.block g hgwr).trans hg5))
            | (go_at_call 22; refine (hr8 _ hb35).mono ?_; rintro e w6 ⟨v6, rfl, hx6, hb6⟩; have hb36 := hb35.trans (hb6.mono hb35.size); have hg6 := hg55.below hb6)
            | (go_at_call 25; refine (hdl _ hb37).mono ?_; rintro e w8 ⟨v8, rfl, ho8, hb8⟩; have hb38 := hb37.trans (hb8.mono hb37.size); have hs8 := hsg v8 w8 (by have := (Row.of_owns ho8).mono (M' := fun _ => False) (fun _ _ h => h.elim); rw [HLEN.out] at this; exact this))
            | (go_at_call 24; refine hs8.mono ?_; rintro e w9 ⟨v9, rfl, ho9, hb9⟩; have hb39 := hb38.trans (hb9.mono hb38.size); have hs9 := hgp v9 w9 (RowS.of_owns ho9) hlz)
            | (go_at_call 23; refine hs9.mono ?_; rintro e w10 ⟨rfl, hb10⟩; have hb310 := hb39.trans (hb10.mono hb39.size)))
          go_ret
          exact ⟨rfl, hBw.trans (hb310.mono hBw.size)⟩

end Go.Proofs.YtepceidajmedeaaGreatDoor
