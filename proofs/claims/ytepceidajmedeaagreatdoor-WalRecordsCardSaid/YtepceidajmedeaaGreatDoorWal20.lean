/- Lemmas for a law of this seat, part 20: contracts of the functions that it reaches, and the plain law. No condition but those of each lemma. -/
import Derived.Test.YtepceidajmedeaaGreatDoorWal16
import Derived.Test.YtepceidajmedeaaGreatDoorWal19
import Derived.Test.YtepceidajmedeaaGreatDoorWal10
import Derived.Test.YtepceidajmedeaaGreatDoorWal6

namespace Go.Proofs.YtepceidajmedeaaGreatDoor
open Go.RowKit CW

def newA (room : Int) : DiskA := ⟨max room 0, [], 0, false⟩

theorem new_any (room : Int) (w : World) :
    Calls Tryz.prog 40 #[.int .i64 room] w fun e w' => ∃ S d, e = .returned (.pointer (some ⟨d, 0, none⟩)) ∧ DiskAt S w' d (newA room) ∧ Below w.heap.size w w' ∧ (∀ k, S k → w.heap.size ≤ k) := by
  have hmm := @run_makeMap Tryz.prog
  go_enter Tryz.func40, Tryz.ntmps40
  go_wp2
  go_ret
  have hm := (World.ownsMap_made w Tryz.prog 9 ptrE).alloc (.cells #[.int .i64 (max room 0), .map (some w.heap.size), .int .i64 0, .bool false] 134)
  have hb := (boxF (w.alloc (.map #[] 0)) (.cells #[.int .i64 (max room 0), .map (some w.heap.size), .int .i64 0, .bool false] 134))
  have hz : (w.alloc (.map #[] 0)).heap.size = w.heap.size + 1 := by simp
  rw [hz] at hb
  refine ⟨fun k => k = w.heap.size ∨ k = w.heap.size + 1, w.heap.size + 1, rfl, ⟨w.heap.size, [], ?_⟩, ((Below.refl _ _).alloc (Nat.le_refl _) _).alloc (by simp) _, fun k hk => by omega⟩
  exact
  { files := rfl
    blk := hb.2.2
    map := hm
    file := fun q hq => by cases hq
    apart := List.Pairwise.nil
    sorted := List.Pairwise.nil
    inD := .inr rfl
    inM := .inl rfl
    inF := fun q hq => by cases hq
    lt := fun k hk => by have := hb.2.1; omega
    name := fun q hq => by cases hq }

/-- What Read gives. -/
def readA (D : DiskA) (n : Bytes) : Bytes × Int := match (findF D.files n).bind (fun i => D.files[i]?) with | none => ([], 6) | some f => (f.b, 0)

set_option maxHeartbeats 1000000 in
theorem read_any {S : Nat → Prop} (D : DiskA) (d : Nat) (w : World) (h : DiskAt S w d D) (n : Bytes) (hn : n.length ≤ 1048576) (hd : D.down = false) (hu : usedF D.files ≤ 1099511627776) :
    Calls Tryz.prog 56 #[.pointer (some ⟨d, 0, none⟩), .string ⟨n.toArray⟩] w fun e w' => ∃ v, e = .returned (.tuple #[v, .int .i64 (readA D n).2]) ∧ Row (fun k => k < w.heap.size) w' v (readA D n).1.length ((readA D n).1.map encB) ∧ Below w.heap.size w w' := by
  obtain ⟨mb, qs, h⟩ := h
  have hb := h.blk
  rw [hd] at hb
  obtain ⟨c0, c1, c2, c3⟩ := cells4 hb
  rcases ent_ptr h n hn with ⟨hf, hlk⟩ | ⟨i, hi, hf, hlk⟩
  · have e : readA D n = ([], 6) := by unfold readA; rw [findF_qs h.files, hf]; rfl
    rw [e]
    go_enter Tryz.func56, Tryz.ntmps56
    go_wp2
    go_ret2
    exact ⟨_, rfl, .inl ⟨⟨_, rfl⟩, rfl, rfl⟩, Below.refl _ _⟩
  · have e : readA D n = (qs[i].1.b, 0) := by unfold readA; rw [findF_qs h.files, hf]; simp only [Option.bind_some, files_get h.files i hi]
    rw [e]
    have hq := h.file qs[i] (List.getElem_mem hi)
    have hqu : qs[i].1.b.length ≤ usedF D.files := usedF_mem (by rw [← h.files]; exact List.mem_map.2 ⟨_, List.getElem_mem hi, rfl⟩)
    have hrow : SlB (fun _ => False) w qs[i].2.2 qs[i].1.b := (SlB.of_owns hq.2).any
    have hcl := clone_any _ _ w hrow (by omega)
    obtain ⟨a, cap, hv, h1, h2, _⟩ := (Row.of_owns hq.2).open
    have hqb := hq.1
    rw [hv] at hqb hcl
    obtain ⟨x0, x1⟩ := cells2 hqb
    clear hq hqu hrow hv hf e
    generalize qs[i].2.1 = fb at *
    generalize qs[i].1.b = bb at *
    go_enter Tryz.func56, Tryz.ntmps56
    go_wp2_with (go_at_call 118; refine hcl.mono ?_; rintro e w1 ⟨v1, rfl, ho, hb1⟩)
    go_ret2
    exact ⟨v1, rfl, Row.of_owns ho, hb1⟩

end Go.Proofs.YtepceidajmedeaaGreatDoor

namespace Go.Proofs.YtepceidajmedeaaGreatDoor
open Go.RowKit CW

theorem cells5 {w : World} {g : Nat} {t : TypeId} {fr : Nat × Nat} {a b c d e : Value} (h : w.heap[g]? = some (.cells #[a, b, c, d, e] t fr)) :
    w.cell? ⟨g, 0, none⟩ = some a ∧ w.cell? ⟨g, 1, none⟩ = some b ∧ w.cell? ⟨g, 2, none⟩ = some c ∧ w.cell? ⟨g, 3, none⟩ = some d ∧ w.cell? ⟨g, 4, none⟩ = some e :=
  ⟨by rw [Go.cell_of_row _ g 0 _ _ _ h]; rfl, by rw [Go.cell_of_row _ g 1 _ _ _ h]; rfl, by rw [Go.cell_of_row _ g 2 _ _ _ h]; rfl, by rw [Go.cell_of_row _ g 3 _ _ _ h]; rfl, by rw [Go.cell_of_row _ g 4 _ _ _ h]; rfl⟩

theorem walname_any (g : Nat) (n : Nat) (w : World) (h : w.cell? ⟨g, 0, none⟩ = some (.int .i64 (n : Int))) (h1 : 1 ≤ n) (hn : n < 100) :
    Calls Tryz.prog 65 #[.pointer (some ⟨g, 0, none⟩)] w fun e w' => e = .returned (.string ⟨(nameB n).toArray⟩) ∧ Below w.heap.size w w' := by
  have hc := name_any n w h1 hn
  generalize nameB n = s at *
  go_enter Tryz.func65, Tryz.ntmps65
  go_wp2_with (go_at_call 55; refine hc.mono ?_; rintro e w1 ⟨rfl, hb⟩)
  go_ret
  exact ⟨rfl, hb⟩

def stepV (p : Nat × Array Value) : Value := .func (.func p.1) #[] p.2

theorem size170 : (Tryz.prog.info? 170).map (·.size) = some 1 := by kernel_rfl

set_option maxHeartbeats 1000000 in
theorem try_any (fs : List (Nat × Array Value)) (v : Value) (w : World) (P : Nat → World → Prop) (Post : Int → World → Prop)
    (hrow : ∀ k W, P k W → Row (fun _ => False) W v fs.length (fs.map stepV)) (hst : ∀ k W W', P k W → Below W.heap.size W W' → P k W') (hfe : ∀ p ∈ fs, ∀ args W, (callFunc p.1 args).run Tryz.prog W = .ok (.enter p.1 args) W)
    (hstep : ∀ k (hk : k < fs.length) W, P k W → Calls Tryz.prog fs[k].1 fs[k].2 W fun e w' => ∃ c, e = .returned (.int .i64 c) ∧ (c ≠ 0 → Post c w') ∧ (c = 0 → P (k + 1) w'))
    (hend : ∀ W, P fs.length W → Post 0 W) (h0 : P 0 w) :
    Calls Tryz.prog 123 #[v] w fun e w' => ∃ c, e = .returned (.int .i64 c) ∧ Post c w' := by
  obtain ⟨a, cap, rfl, hn, hc, hnone, hcell0⟩ := (hrow 0 w h0).open
  go_enter Tryz.func123, Tryz.ntmps123
  go_wp2
  go_loopw [8] (fun i wr => ∃ k : Nat, k ≤ fs.length ∧ i = .int .i64 k ∧ Hid (P k wr)) (fun i _ => fs.length - (intOf i).toNat)
  case atStart => exact ⟨0, by omega, rfl, h0⟩
  case round =>
    obtain ⟨k, hk, rfl, HPk⟩ := hrel
    by_cases hlt : k < fs.length
    · obtain ⟨a', cap', e', _, _, _, hcell⟩ := (hrow k wr HPk.out).open
      cases e'
      obtain ⟨b, off, rfl, hbl, _, hcc⟩ := hcell (by omega)
      have h1 := hcc k (stepV fs[k]) (by simp [hlt])
      have hfe1 := hfe fs[k] (List.getElem_mem hlt)
      have hs1 := fun W => hstep k hlt W
      unfold stepV at h1
      have i1 : (k : Int) < (fs.length : Int) := by omega
      have hP2 : ∀ C, Hid (P k (wr.alloc C)) := fun C => hst k _ _ HPk.out ((Below.refl _ _).alloc (Nat.le_refl _) C)
      clear hcell hcc hcell0 hfe hstep
      generalize fs[k].1 = f at *
      generalize fs[k].2 = caps at *
      have hcall := hs1
      go_wp2_with ((with_reducible refine at_sto ?_); refine wpList_store_in rfl (ty := 170) (x := .tmp 4) (y := .tmp 11) rfl wr.heap.size 0 170 (.agg #[.func (.func f) #[] caps]) [.nilFunc] rfl rfl (heap_alloc_new _ _) (Nat.le_refl _) size170 (by intro u hu; simp [Value.cells] at hu; subst hu; rfl) ?_; intro W1 hV1 hV2 hV3; replace hV1 : W1.heap[wr.heap.size]? = some (.cells #[.func (.func f) #[] caps] 170 (0, 0)) := hV1; have hx0 := cell1 hV1; have HB1 : Below wr.heap.size wr W1 := ((Below.refl _ _).alloc (Nat.le_refl _) _).trans (hV2.below (by simp) (by intro q h1 h2; omega)))
      refine (hcall W1 (hst k wr W1 HPk.out HB1)).mono ?_
      rintro e W2 ⟨c, rfl, hc0, hc1⟩
      by_cases hcz : c = 0
      · subst hcz
        have HP2 : Hid (P (k + 1) W2) := hc1 rfl
        clear hc0 hc1 hP2
        go_wp2
        go_roundw
        case rel => exact ⟨k + 1, by omega, by go_num, HP2⟩
        case measure => simp [intOf]; omega
      · have hpost := hc0 hcz
        have hcb : (c != 0) = true := by simpa using hcz
        clear hc0 hc1 hP2
        go_wp2
        go_ret
        exact ⟨c, rfl, hpost⟩
    · have hkl : k = fs.length := by omega
      subst hkl
      go_wp2
      go_ret
      exact ⟨0, rfl, hend _ HPk.out⟩

end Go.Proofs.YtepceidajmedeaaGreatDoor

namespace Go.Proofs.YtepceidajmedeaaGreatDoor
open Go.RowKit CW

set_option maxHeartbeats 1000000 in
set_option maxRecDepth 100000 in
theorem rot2_any {T : Nat → Prop} (D : DiskA) (d l b1 n : Nat) (s wt mo : Value) (w : World) (hD : DiskAt T w d D) (h1 : w.heap[b1]? = some (.cells #[.pointer (some ⟨l, 0, none⟩)] 27 (0, 0))) (hl : w.heap[l]? = some (.cells #[.int .i64 (n : Int), s, wt, .pointer (some ⟨d, 0, none⟩), mo] 108 (0, 0)))
    (n1 : ¬ T b1) (n2 : ¬ T l) (hn1 : 1 ≤ n) (hn : n < 100) (hp0 : 0 ≤ D.plan) (hp1 : D.plan ≤ 4611686018427387904) :
    Calls Tryz.prog 125 #[.pointer (some ⟨b1, 0, none⟩)] w (DiskPost T w d (doA D .sync (nameB n))) := by
  obtain ⟨c0, c1, c2, c3, c4⟩ := cells5 hl
  have e1 := cell1 h1
  have hl1 := (Array.getElem?_eq_some_iff.1 h1).1
  have hll := (Array.getElem?_eq_some_iff.1 hl).1
  have hSS : ∀ W, Below w.heap.size w W → (W.cell? ⟨b1, 0, none⟩ = some (.pointer (some ⟨l, 0, none⟩)) ∧ W.cell? ⟨l, 3, none⟩ = some (.pointer (some ⟨d, 0, none⟩)) ∧ W.cell? ⟨l, 0, none⟩ = some (.int .i64 (n : Int))) := fun W hW => ⟨(hW.cell (p := ⟨b1, 0, none⟩) hl1).trans e1, (hW.cell (p := ⟨l, 3, none⟩) hll).trans c3, (hW.cell (p := ⟨l, 0, none⟩) hll).trans c0⟩
  have hSF : ∀ W, Fr T w W → (W.cell? ⟨b1, 0, none⟩ = some (.pointer (some ⟨l, 0, none⟩)) ∧ W.cell? ⟨l, 3, none⟩ = some (.pointer (some ⟨d, 0, none⟩)) ∧ W.cell? ⟨l, 0, none⟩ = some (.int .i64 (n : Int))) := fun W hW => by
    have a1 := (hW.block b1 hl1 n1).trans h1
    have a2 := (hW.block l hll n2).trans hl
    exact ⟨cell1 a1, (cells5 a2).2.2.2.1, (cells5 a2).1⟩
  have hS0 := hSS w.drew (Below.refl _ _).drew
  have hsy := fun W (hW : Below w.heap.size w W) => sync_any D d W (hD.below hW) (nameB n) (by rw [nameB_length]; omega) hp0 hp1
  have hnm := fun W (hW : W.cell? ⟨l, 0, none⟩ = some (.int .i64 (n : Int))) => walname_any l n W hW hn1 hn
  generalize nameB n = nb at *
  generalize doA D .sync nb = R at *
  go_enter Tryz.func125, Tryz.ntmps125
  go_wp2_with fail
  go_region_held3 (fun W => W.cell? ⟨b1, 0, none⟩ = some (.pointer (some ⟨l, 0, none⟩)) ∧ W.cell? ⟨l, 3, none⟩ = some (.pointer (some ⟨d, 0, none⟩)) ∧ W.cell? ⟨l, 0, none⟩ = some (.int .i64 (n : Int))) (first | assumption)
    (first
      | (go_at_call 65; refine (hnm _ hS0.2.2).mono ?_; rintro e W1 ⟨rfl, hb⟩; have hB1 : Below w.heap.size w W1 := (Below.refl _ _).drew.trans hb; have hS1 := hSS W1 hB1)
      | (go_at_call 83; refine (hsy _ hB1).mono ?_; intro e W2 hP; replace hP := hP.trans (Fr.of_below hB1); obtain ⟨T', rfl, hP2, hP3, hP4⟩ := hP; have hS2 := hSF W2 hP3))
  go_wp2
  go_ret
  exact ⟨T', rfl, hP2, hP3, hP4⟩

set_option maxHeartbeats 1000000 in
set_option maxRecDepth 100000 in
theorem rot3_any {T : Nat → Prop} (D : DiskA) (d l b1 b3 n : Nat) (n0 s wt mo s3 w3 : Value) (w : World) (hD : DiskAt T w d D) (h1 : w.heap[b1]? = some (.cells #[.pointer (some ⟨l, 0, none⟩)] 27 (0, 0))) (hl : w.heap[l]? = some (.cells #[n0, s, wt, .pointer (some ⟨d, 0, none⟩), mo] 108 (0, 0)))
    (h3 : w.heap[b3]? = some (.cells #[.int .i64 (n : Int), s3, w3] 106 (0, 0)))
    (n1 : ¬ T b1) (n2 : ¬ T l) (n3 : ¬ T b3) (hn1 : 1 ≤ n) (hn : n < 100) (hp0 : 0 ≤ D.plan) (hp1 : D.plan ≤ 4611686018427387904) (hfl : D.files.length < 1048576) :
    Calls Tryz.prog 126 #[.pointer (some ⟨b1, 0, none⟩), .pointer (some ⟨b3, 0, none⟩)] w (DiskPost T w d (doA D .create (nameB n))) := by
  obtain ⟨c0, c1, c2, c3, c4⟩ := cells5 hl
  have e1 := cell1 h1
  have e3 := (cells3 h3).1
  have hl1 := (Array.getElem?_eq_some_iff.1 h1).1
  have hll := (Array.getElem?_eq_some_iff.1 hl).1
  have hl3 := (Array.getElem?_eq_some_iff.1 h3).1
  have hSS : ∀ W, Below w.heap.size w W → (W.cell? ⟨b1, 0, none⟩ = some (.pointer (some ⟨l, 0, none⟩)) ∧ W.cell? ⟨l, 3, none⟩ = some (.pointer (some ⟨d, 0, none⟩)) ∧ W.cell? ⟨b3, 0, none⟩ = some (.int .i64 (n : Int))) := fun W hW => ⟨(hW.cell (p := ⟨b1, 0, none⟩) hl1).trans e1, (hW.cell (p := ⟨l, 3, none⟩) hll).trans c3, (hW.cell (p := ⟨b3, 0, none⟩) hl3).trans e3⟩
  have hSF : ∀ W, Fr T w W → (W.cell? ⟨b1, 0, none⟩ = some (.pointer (some ⟨l, 0, none⟩)) ∧ W.cell? ⟨l, 3, none⟩ = some (.pointer (some ⟨d, 0, none⟩)) ∧ W.cell? ⟨b3, 0, none⟩ = some (.int .i64 (n : Int))) := fun W hW => by
    have a1 := (hW.block b1 hl1 n1).trans h1
    have a2 := (hW.block l hll n2).trans hl
    have a3 := (hW.block b3 hl3 n3).trans h3
    exact ⟨cell1 a1, (cells5 a2).2.2.2.1, (cells3 a3).1⟩
  have hS0 := hSS w.drew (Below.refl _ _).drew
  have hsy := fun W (hW : Below w.heap.size w W) => create_any D d W (hD.below hW) (nameB n) (by rw [nameB_length]; omega) hp0 hp1 hfl
  have hnm := fun W (hW : W.cell? ⟨b3, 0, none⟩ = some (.int .i64 (n : Int))) => walname_any b3 n W hW hn1 hn
  generalize nameB n = nb at *
  generalize doA D .create nb = R at *
  go_enter Tryz.func126, Tryz.ntmps126
  go_wp2_with fail
  go_region_held3 (fun W => W.cell? ⟨b1, 0, none⟩ = some (.pointer (some ⟨l, 0, none⟩)) ∧ W.cell? ⟨l, 3, none⟩ = some (.pointer (some ⟨d, 0, none⟩)) ∧ W.cell? ⟨b3, 0, none⟩ = some (.int .i64 (n : Int))) (first | assumption)
    (first
      | (go_at_call 65; refine (hnm _ hS0.2.2).mono ?_; rintro e W1 ⟨rfl, hb⟩; have hB1 : Below w.heap.size w W1 := (Below.refl _ _).drew.trans hb; have hS1 := hSS W1 hB1)
      | (go_at_call 36; refine (hsy _ hB1).mono ?_; intro e W2 hP; replace hP := hP.trans (Fr.of_below hB1); obtain ⟨T', rfl, hP2, hP3, hP4⟩ := hP; have hS2 := hSF W2 hP3))
  go_wp2
  go_ret
  exact ⟨T', rfl, hP2, hP3, hP4⟩

theorem rot1_any (b3 n : Nat) (s3 w3 : Value) (w : World) (h3 : w.heap[b3]? = some (.cells #[.int .i64 (n : Int), s3, w3] 106 (0, 0))) (hn1 : 1 ≤ n) (hn : n < 100) :
    Calls Tryz.prog 124 #[.pointer (some ⟨b3, 0, none⟩)] w fun e w' => e = .returned (.int .i64 0) ∧ Below w.heap.size w w' := by
  have hc := walname_any b3 n w (cells3 h3).1 hn1 hn
  have hne : (nameB n == []) = false := by rw [beq_eq_false_iff_ne]; intro h; have := nameB_length n; rw [h] at this; cases this
  generalize nameB n = nb at *
  go_enter Tryz.func124, Tryz.ntmps124
  go_wp2_with (go_at_call 65; refine hc.mono ?_; rintro e w1 ⟨rfl, hb⟩)
  go_ret
  exact ⟨rfl, hb⟩

theorem size106 : (Tryz.prog.info? 106).map (·.size) = some 3 := by kernel_rfl

theorem rot4_any (l b1 b3 n : Nat) (a0 a1 a2 a3 a4 : Value) (w : World) (h1 : w.heap[b1]? = some (.cells #[.pointer (some ⟨l, 0, none⟩)] 27 (0, 0))) (hl : w.heap[l]? = some (.cells #[a0, a1, a2, a3, a4] 108 (0, 0)))
    (h3 : w.heap[b3]? = some (.cells #[.int .i64 (n : Int), .int .i64 0, .int .i64 0] 106 (0, 0))) :
    Calls Tryz.prog 127 #[.pointer (some ⟨b3, 0, none⟩), .pointer (some ⟨b1, 0, none⟩)] w fun e w' => e = .returned (.int .i64 0) ∧ w'.heap[l]? = some (.cells #[.int .i64 (n : Int), .int .i64 0, .int .i64 0, a3, a4] 108 (0, 0)) ∧ Fr (fun k => k = l) w w' := by
  have e1 := cell1 h1
  obtain ⟨x0, x1, x2⟩ := cells3 h3
  go_enter Tryz.func127, Tryz.ntmps127
  go_wp2_with ((with_reducible refine at_sto ?_); refine wpList_store_in rfl (ty := 106) (x := .tmp 6) (y := .tmp 4) rfl l 0 108 (.agg #[.int .i64 (n : Int), .int .i64 0, .int .i64 0]) [a0, a1, a2, a3, a4] rfl rfl hl (by simp [Value.cells]) size106 (by intro u hu; simp [Value.cells] at hu; rcases hu with rfl | rfl | rfl <;> rfl) ?_; intro W hV1 hV2 hV3)
  go_ret
  exact ⟨rfl, hV1, hV2⟩

end Go.Proofs.YtepceidajmedeaaGreatDoor

namespace Go.Proofs.YtepceidajmedeaaGreatDoor
open Go.RowKit CW

def logC (L : LogA) (d : Nat) : Array Value := #[.int .i64 (L.n : Int), .int .i64 (L.size : Int), .int .i64 (L.waiting : Int), .pointer (some ⟨d, 0, none⟩), .int .i64 L.most]

/-- How a log lies in memory. -/
def LogAt (S : Nat → Prop) (w : World) (l d : Nat) (L : LogA) : Prop :=
  ∃ T, w.heap[l]? = some (.cells (logC L d) 108 (0, 0)) ∧ DiskAt T w d L.D ∧ ¬ T l ∧ S l ∧ (∀ k, T k → S k) ∧ ∀ k, S k → k < w.heap.size

theorem DiskAt.lt {S : Nat → Prop} {w : World} {d : Nat} {D : DiskA} (h : DiskAt S w d D) : ∀ k, S k → k < w.heap.size := by obtain ⟨mb, qs, h⟩ := h; exact h.lt

theorem LogAt.fr {S F : Nat → Prop} {w w' : World} {l d : Nat} {L : LogA} (h : LogAt S w l d L) (hf : Fr F w w') (hF : ∀ k, S k → ¬ F k) : LogAt S w' l d L := by
  obtain ⟨T, h1, h2, h3, h4, h5, h6⟩ := h
  exact ⟨T, (hf.block l (h6 l h4) (hF l h4)).trans h1, h2.fr hf (fun k hk => hF k (h5 k hk)), h3, h4, h5, fun k hk => Nat.lt_of_lt_of_le (h6 k hk) hf.size⟩
theorem LogAt.below {S : Nat → Prop} {w w' : World} {l d : Nat} {L : LogA} (h : LogAt S w l d L) (hf : Below w.heap.size w w') : LogAt S w' l d L := h.fr (F := fun _ => False) (Fr.of_below hf) (fun _ _ h => h)

/-- A change's result: the log behind it, its code. -/
def LogPost (S : Nat → Prop) (w : World) (l d : Nat) (R : LogA × Int) (c : Int) (w' : World) : Prop :=
  ∃ S' : Nat → Prop, c = R.2 ∧ LogAt S' w' l d R.1 ∧ Fr S w w' ∧ ∀ k, k < w.heap.size → S' k → S k

/-- Rotate, on its way: w is the world of the call, W0 that behind its own blocks. -/
structure RotAt (S : Nat → Prop) (w W0 : World) (l d : Nat) (cs : Array Value) (D : DiskA) (W : World) : Prop where
  ex : ∃ T, DiskAt T W d D ∧ (∀ k, k < W0.heap.size → T k → S k) ∧ ¬ T l
  log : W.heap[l]? = some (.cells cs 108 (0, 0))
  box : ∀ k, w.heap.size ≤ k → k < W0.heap.size → W.heap[k]? = W0.heap[k]?
  fr : Fr S w W
  size : W0.heap.size ≤ W.heap.size
  le : w.heap.size ≤ W0.heap.size

theorem RotAt.below {S : Nat → Prop} {w W0 W W' : World} {l d : Nat} {cs : Array Value} {D : DiskA} (h : RotAt S w W0 l d cs D W) (hB : Below W.heap.size W W') : RotAt S w W0 l d cs D W' := by
  obtain ⟨T, h1, h2, h3⟩ := h.ex
  exact ⟨⟨T, h1.below hB, h2, h3⟩, (hB.block _ (Array.getElem?_eq_some_iff.1 h.log).1).trans h.log, fun k hk hk2 => (hB.block k (Nat.lt_of_lt_of_le hk2 h.size)).trans (h.box k hk hk2),
    h.fr.trans (Fr.of_below hB (F := fun _ => False)) (fun _ _ h => h.elim), Nat.le_trans h.size hB.size, h.le⟩

theorem RotAt.disk {S T : Nat → Prop} {w W0 W W' : World} {l d : Nat} {cs : Array Value} {D : DiskA} {R : DiskA × Int} {e : Ending} (h : RotAt S w W0 l d cs D W) (h2 : ∀ k, k < W0.heap.size → T k → S k) (h3 : ¬ T l) (hS : ∀ k, S k → k < w.heap.size) (hP : DiskPost T W d R e W') : RotAt S w W0 l d cs R.1 W' := by
  obtain ⟨T', _, hP2, hP3, hP4⟩ := hP
  have hll := (Array.getElem?_eq_some_iff.1 h.log).1
  refine ⟨⟨T', hP2, fun k hk ht => h2 k hk (hP4 k (Nat.lt_of_lt_of_le hk h.size) ht), fun ht => h3 (hP4 l hll ht)⟩, (hP3.block l hll h3).trans h.log, fun k hk hk2 => ?_, ?_, Nat.le_trans h.size hP3.size, h.le⟩
  · refine (hP3.block k (Nat.lt_of_lt_of_le hk2 h.size) (fun ht => ?_)).trans (h.box k hk hk2)
    have := hS k (h2 k hk2 ht)
    omega
  · refine ⟨hP3.os.trans h.fr.os, hP3.tape.trans h.fr.tape, hP3.output.trans h.fr.output, Nat.le_trans h.fr.size hP3.size, fun k hk hn => ?_⟩
    by_cases ht : T k
    · by_cases hk0 : k < W0.heap.size
      · exact absurd (h2 k hk0 ht) hn
      · have := h.le
        omega
    · exact (hP3.block k (Nat.lt_of_lt_of_le hk h.fr.size) ht).trans (h.fr.block k hk hn)

theorem RotAt.post {S : Nat → Prop} {w W0 W : World} {l d : Nat} {L : LogA} {R : LogA × Int} {c : Int} (h : RotAt S w W0 l d (logC L d) L.D W) (hSl : S l) (hS : ∀ k, S k → k < w.heap.size) (hR : R = (L, c)) : LogPost S w l d R c W := by
  obtain ⟨T, h1, h2, h3⟩ := h.ex
  subst hR
  refine ⟨fun k => S k ∨ T k, rfl, ⟨T, h.log, h1, h3, .inl hSl, fun k hk => .inr hk, fun k hk => ?_⟩, h.fr, fun k hk hs => ?_⟩
  · rcases hk with hk | hk
    · exact Nat.lt_of_lt_of_le (hS k hk) h.fr.size
    · exact h1.lt k hk
  · rcases hs with hs | hs
    · exact hs
    · exact h2 k (Nat.lt_of_lt_of_le hk h.le) hs

theorem rottry_any {S T : Nat → Prop} (L : LogA) (l d : Nat) (w W0 : World) (hlog : w.heap[l]? = some (.cells (logC L d) 108 (0, 0))) (hD : DiskAt T w d L.D) (hTl : ¬ T l) (hSl : S l) (hTS : ∀ k, T k → S k) (hSlt : ∀ k, S k → k < w.heap.size)
    (hB : Below w.heap.size w W0) (hz : W0.heap.size = w.heap.size + 1 + 1 + 1)
    (g0 : W0.heap[w.heap.size]? = some (.cells #[.pointer (some ⟨l, 0, none⟩)] 27 (0, 0))) (g1 : W0.heap[w.heap.size + 1]? = some (.cells #[.int .i64 ((L.n + 1 : Nat) : Int), .int .i64 0, .int .i64 0] 106 (0, 0)))
    (g2 : W0.heap[w.heap.size + 1 + 1]? = some (.cells #[.func (.func 124) #[] #[.pointer (some ⟨w.heap.size + 1, 0, none⟩)], .func (.func 125) #[] #[.pointer (some ⟨w.heap.size, 0, none⟩)], .func (.func 126) #[] #[.pointer (some ⟨w.heap.size, 0, none⟩), .pointer (some ⟨w.heap.size + 1, 0, none⟩)], .func (.func 127) #[] #[.pointer (some ⟨w.heap.size + 1, 0, none⟩), .pointer (some ⟨w.heap.size, 0, none⟩)]] 170 (0, 0)))
    (hn1 : 1 ≤ L.n) (hn : L.n + 1 < 100) (hp0 : 0 ≤ L.D.plan) (hp1 : L.D.plan ≤ 4611686018427387904)
    (hq0 : 0 ≤ (doA L.D .sync (nameB L.n)).1.plan) (hq1 : (doA L.D .sync (nameB L.n)).1.plan ≤ 4611686018427387904) (hqf : (doA L.D .sync (nameB L.n)).1.files.length < 1048576) :
    Calls Tryz.prog 123 #[.slice (some ⟨w.heap.size + 1 + 1, 0, none⟩) 4 4] W0 fun e w' => ∃ c, e = .returned (.int .i64 c) ∧ LogPost S w l d (rotA L) c w' := by
  have hll := (Array.getElem?_eq_some_iff.1 hlog).1
  obtain ⟨R1, hR1⟩ : ∃ R1, doA L.D .sync (nameB L.n) = R1 := ⟨_, rfl⟩
  rw [hR1] at hq0 hq1 hqf
  obtain ⟨R2, hR2⟩ : ∃ R2, doA R1.1 .create (nameB (L.n + 1)) = R2 := ⟨_, rfl⟩
  have bx1 : ∀ {cs D W}, RotAt S w W0 l d cs D W → W.heap[w.heap.size]? = some (.cells #[.pointer (some ⟨l, 0, none⟩)] 27 (0, 0)) := fun h => (h.box _ (Nat.le_refl _) (by omega)).trans g0
  have bx3 : ∀ {cs D W}, RotAt S w W0 l d cs D W → W.heap[w.heap.size + 1]? = some (.cells #[.int .i64 ((L.n + 1 : Nat) : Int), .int .i64 0, .int .i64 0] 106 (0, 0)) := fun h => (h.box _ (by omega) (by omega)).trans g1
  have bx2 : ∀ {cs D W}, RotAt S w W0 l d cs D W → Row (fun _ => False) W (.slice (some ⟨w.heap.size + 1 + 1, 0, none⟩) 4 4) 4 ([(124, #[Value.pointer (some ⟨w.heap.size + 1, 0, none⟩)]), (125, #[Value.pointer (some ⟨w.heap.size, 0, none⟩)]), (126, #[Value.pointer (some ⟨w.heap.size, 0, none⟩), Value.pointer (some ⟨w.heap.size + 1, 0, none⟩)]), (127, #[Value.pointer (some ⟨w.heap.size + 1, 0, none⟩), Value.pointer (some ⟨w.heap.size, 0, none⟩)])].map stepV) := fun {cs D W} h =>
    .inr ⟨_, 0, 4, rfl, Nat.le_refl _, by omega, by have := h.size; omega, fun h => h, fun j u hu => by
      have hx := (h.box (w.heap.size + 1 + 1) (by omega) (by omega)).trans g2
      rw [Nat.zero_add, Go.cell_of_row _ _ j _ _ _ hx, ← hu, List.getElem?_toArray]
      rfl⟩
  have nb : ∀ {T' : Nat → Prop}, (∀ k, k < W0.heap.size → T' k → S k) → ∀ k, w.heap.size ≤ k → k < W0.heap.size → ¬ T' k := fun h k h1 h2 ht => by have := hSlt k (h k h2 ht); omega
  refine try_any [(124, #[.pointer (some ⟨w.heap.size + 1, 0, none⟩)]), (125, #[.pointer (some ⟨w.heap.size, 0, none⟩)]), (126, #[.pointer (some ⟨w.heap.size, 0, none⟩), .pointer (some ⟨w.heap.size + 1, 0, none⟩)]), (127, #[.pointer (some ⟨w.heap.size + 1, 0, none⟩), .pointer (some ⟨w.heap.size, 0, none⟩)])] _ W0
    (fun k W => match k with
      | 0 => RotAt S w W0 l d (logC L d) L.D W
      | 1 => RotAt S w W0 l d (logC L d) L.D W
      | 2 => R1.2 = 0 ∧ RotAt S w W0 l d (logC L d) R1.1 W
      | 3 => R1.2 = 0 ∧ R2.2 = 0 ∧ RotAt S w W0 l d (logC L d) R2.1 W
      | _ => R1.2 = 0 ∧ R2.2 = 0 ∧ RotAt S w W0 l d (logC ⟨R2.1, L.most, L.n + 1, 0, 0⟩ d) R2.1 W)
    (fun c W => LogPost S w l d (rotA L) c W) ?_ ?_ ?_ ?_ ?_ ?_
  · intro k W h
    match k, h with
    | 0, h => exact bx2 h
    | 1, h => exact bx2 h
    | 2, h => exact bx2 h.2
    | 3, h => exact bx2 h.2.2
    | _ + 4, h => exact bx2 h.2.2
  · intro k W W' h hb
    match k, h with
    | 0, h => exact RotAt.below h hb
    | 1, h => exact RotAt.below h hb
    | 2, h => exact ⟨h.1, RotAt.below h.2 hb⟩
    | 3, h => exact ⟨h.1, h.2.1, RotAt.below h.2.2 hb⟩
    | _ + 4, h => exact ⟨h.1, h.2.1, RotAt.below h.2.2 hb⟩
  · intro p hp
    simp only [List.mem_cons, List.not_mem_nil, or_false] at hp
    rcases hp with rfl | rfl | rfl | rfl
    · exact Go.Proofs.enters_of Tryz.func124 (by kernel_rfl) rfl
    · exact Go.Proofs.enters_of Tryz.func125 (by kernel_rfl) rfl
    · exact Go.Proofs.enters_of Tryz.func126 (by kernel_rfl) rfl
    · exact Go.Proofs.enters_of Tryz.func127 (by kernel_rfl) rfl
  · intro k hk W h
    match k, hk, h with
    | 0, _, h =>
      refine (rot1_any (w.heap.size + 1) (L.n + 1) _ _ W (bx3 h) (by omega) hn).mono ?_
      rintro e W' ⟨rfl, hb⟩
      exact ⟨0, rfl, fun h => absurd rfl h, fun _ => RotAt.below h hb⟩
    | 1, _, h =>
      obtain ⟨T', h1, h2, h3⟩ := RotAt.ex h
      refine (rot2_any L.D d l w.heap.size L.n _ _ _ W h1 (bx1 h) h.log (nb h2 _ (Nat.le_refl _) (by omega)) h3 hn1 (by omega) hp0 hp1).mono ?_
      intro e W' hP
      rw [hR1] at hP
      have hR := RotAt.disk h h2 h3 hSlt hP
      obtain ⟨T'', rfl, _⟩ := hP
      refine ⟨_, rfl, fun hc => ?_, fun hc => ⟨hc, hR⟩⟩
      have hlg : RotAt S w W0 l d (logC { L with D := R1.1 } d) { L with D := R1.1 }.D W' := hR
      exact hlg.post hSl hSlt (by unfold rotA; rw [hR1]; simp only; rw [if_pos hc])
    | 2, _, h =>
      obtain ⟨hc1, h⟩ := h
      obtain ⟨T', h1, h2, h3⟩ := RotAt.ex h
      refine (rot3_any R1.1 d l w.heap.size (w.heap.size + 1) (L.n + 1) _ _ _ _ _ _ W h1 (bx1 h) h.log (bx3 h) (nb h2 _ (Nat.le_refl _) (by omega)) h3 (nb h2 _ (by omega) (by omega)) (by omega) hn hq0 hq1 hqf).mono ?_
      intro e W' hP
      rw [hR2] at hP
      have hR := RotAt.disk h h2 h3 hSlt hP
      obtain ⟨T'', rfl, _⟩ := hP
      refine ⟨_, rfl, fun hc => ?_, fun hc => ⟨hc1, hc, hR⟩⟩
      have hlg : RotAt S w W0 l d (logC { L with D := R2.1 } d) { L with D := R2.1 }.D W' := hR
      exact hlg.post hSl hSlt (by unfold rotA; rw [hR1]; simp only; rw [if_neg (by rw [hc1]; decide), hR2, if_pos hc])
    | 3, _, h =>
      obtain ⟨hc1, hc2, h⟩ := h
      refine (rot4_any l w.heap.size (w.heap.size + 1) (L.n + 1) _ _ _ _ _ W (bx1 h) h.log (bx3 h)).mono ?_
      rintro e W' ⟨rfl, hlg, hf⟩
      refine ⟨0, rfl, fun h => absurd rfl h, fun _ => ⟨hc1, hc2, ?_⟩⟩
      obtain ⟨T', h1, h2, h3⟩ := RotAt.ex h
      exact ⟨⟨T', h1.fr hf (fun k hk e => h3 (by rw [← e]; exact hk)), h2, h3⟩, hlg, fun k hk hk2 => (hf.block k (Nat.lt_of_lt_of_le hk2 h.size) (fun e => by have := hSlt l hSl; omega)).trans (h.box k hk hk2),
        h.fr.trans hf (fun k _ e => by rw [e]; exact hSl), Nat.le_trans h.size hf.size, h.le⟩
  · intro W h
    obtain ⟨hc1, hc2, h⟩ := h
    refine RotAt.post h hSl hSlt ?_
    unfold rotA
    rw [hR1]
    simp only
    rw [if_neg (by rw [hc1]; decide), hR2, if_neg (by rw [hc2]; decide)]
  · exact ⟨⟨T, hD.below hB, fun k _ ht => hTS k ht, hTl⟩, (hB.block l hll).trans hlog, fun k _ _ => rfl, Fr.of_below hB, Nat.le_refl _, hB.size⟩

set_option maxHeartbeats 1000000 in
set_option maxRecDepth 100000 in
theorem rotate_any {S : Nat → Prop} (L : LogA) (l d : Nat) (w : World) (h : LogAt S w l d L) (hn1 : 1 ≤ L.n) (hn : L.n + 1 < 100) (hp0 : 0 ≤ L.D.plan) (hp1 : L.D.plan ≤ 4611686018427387904) (hfl : L.D.files.length < 1048576)
    (hq0 : 0 ≤ (doA L.D .sync (nameB L.n)).1.plan) (hq1 : (doA L.D .sync (nameB L.n)).1.plan ≤ 4611686018427387904) (hqf : (doA L.D .sync (nameB L.n)).1.files.length < 1048576) :
    Calls Tryz.prog 63 #[.pointer (some ⟨l, 0, none⟩)] w fun e w' => ∃ c, e = .returned (.int .i64 c) ∧ LogPost S w l d (rotA L) c w' := by
  obtain ⟨T, hlog, hD, hTl, hSl, hTS, hSlt⟩ := h
  have HLOG : Hid (w.heap[l]? = some (.cells (logC L d) 108 (0, 0))) := hlog
  obtain ⟨y0, y1, y2, y3, y4⟩ := cells5 hlog
  clear hlog
  have g0 := heap3_0 w (.cells #[.pointer (some ⟨l, 0, none⟩)] 27) (.cells #[.int .i64 ((L.n : Int) + 1), .int .i64 0, .int .i64 0] 106) (.cells #[.func (.func 124) #[] #[.pointer (some ⟨w.heap.size + 1, 0, none⟩)], .func (.func 125) #[] #[.pointer (some ⟨w.heap.size, 0, none⟩)], .func (.func 126) #[] #[.pointer (some ⟨w.heap.size, 0, none⟩), .pointer (some ⟨w.heap.size + 1, 0, none⟩)], .func (.func 127) #[] #[.pointer (some ⟨w.heap.size + 1, 0, none⟩), .pointer (some ⟨w.heap.size, 0, none⟩)]] 170)
  have g1 := heap3_1 w (.cells #[.pointer (some ⟨l, 0, none⟩)] 27) (.cells #[.int .i64 ((L.n : Int) + 1), .int .i64 0, .int .i64 0] 106) (.cells #[.func (.func 124) #[] #[.pointer (some ⟨w.heap.size + 1, 0, none⟩)], .func (.func 125) #[] #[.pointer (some ⟨w.heap.size, 0, none⟩)], .func (.func 126) #[] #[.pointer (some ⟨w.heap.size, 0, none⟩), .pointer (some ⟨w.heap.size + 1, 0, none⟩)], .func (.func 127) #[] #[.pointer (some ⟨w.heap.size + 1, 0, none⟩), .pointer (some ⟨w.heap.size, 0, none⟩)]] 170)
  have g2 := heap3_2 w (.cells #[.pointer (some ⟨l, 0, none⟩)] 27) (.cells #[.int .i64 ((L.n : Int) + 1), .int .i64 0, .int .i64 0] 106) (.cells #[.func (.func 124) #[] #[.pointer (some ⟨w.heap.size + 1, 0, none⟩)], .func (.func 125) #[] #[.pointer (some ⟨w.heap.size, 0, none⟩)], .func (.func 126) #[] #[.pointer (some ⟨w.heap.size, 0, none⟩), .pointer (some ⟨w.heap.size + 1, 0, none⟩)], .func (.func 127) #[] #[.pointer (some ⟨w.heap.size + 1, 0, none⟩), .pointer (some ⟨w.heap.size, 0, none⟩)]] 170)
  have hB := below3 w (.cells #[.pointer (some ⟨l, 0, none⟩)] 27) (.cells #[.int .i64 ((L.n : Int) + 1), .int .i64 0, .int .i64 0] 106) (.cells #[.func (.func 124) #[] #[.pointer (some ⟨w.heap.size + 1, 0, none⟩)], .func (.func 125) #[] #[.pointer (some ⟨w.heap.size, 0, none⟩)], .func (.func 126) #[] #[.pointer (some ⟨w.heap.size, 0, none⟩), .pointer (some ⟨w.heap.size + 1, 0, none⟩)], .func (.func 127) #[] #[.pointer (some ⟨w.heap.size + 1, 0, none⟩), .pointer (some ⟨w.heap.size, 0, none⟩)]] 170)
  have hz := size3 w (.cells #[.pointer (some ⟨l, 0, none⟩)] 27) (.cells #[.int .i64 ((L.n : Int) + 1), .int .i64 0, .int .i64 0] 106) (.cells #[.func (.func 124) #[] #[.pointer (some ⟨w.heap.size + 1, 0, none⟩)], .func (.func 125) #[] #[.pointer (some ⟨w.heap.size, 0, none⟩)], .func (.func 126) #[] #[.pointer (some ⟨w.heap.size, 0, none⟩), .pointer (some ⟨w.heap.size + 1, 0, none⟩)], .func (.func 127) #[] #[.pointer (some ⟨w.heap.size + 1, 0, none⟩), .pointer (some ⟨w.heap.size, 0, none⟩)]] 170)
  have HQ : Hid (0 ≤ (doA L.D .sync (nameB L.n)).1.plan ∧ (doA L.D .sync (nameB L.n)).1.plan ≤ 4611686018427387904 ∧ (doA L.D .sync (nameB L.n)).1.files.length < 1048576) := ⟨hq0, hq1, hqf⟩
  clear hq0 hq1 hqf
  obtain ⟨R, hR⟩ : ∃ R : Int → World → Prop, R = fun c w' => LogPost S w l d (rotA L) c w' := ⟨_, rfl⟩
  have HR : Hid (R = fun c w' => LogPost S w l d (rotA L) c w') := hR
  show Calls _ _ _ _ (fun e w' => ∃ c, e = .returned (.int .i64 c) ∧ (fun c w' => LogPost S w l d (rotA L) c w') c w')
  rw [← hR]
  clear hR
  have hll := hSlt l hSl
  have yA : ∀ C, (w.alloc C).cell? ⟨l, 0, none⟩ = some (.int .i64 (L.n : Int)) := fun C => ((boxF w C).1.cell (p := ⟨l, 0, none⟩) hll).trans y0
  clear y0 y1 y2 y3 y4
  have hdn1 : (L.n : Int) + 1 ≤ 9223372036854775807 := by omega
  go_enter Tryz.func63, Tryz.ntmps63
  go_wp2_with fail
  generalize (((w.alloc _).alloc _).alloc _) = W0 at *
  refine (rottry_any L l d w W0 HLOG.out hD hTl hSl hTS hSlt hB hz g0 g1 g2 hn1 hn hp0 hp1 HQ.out.1 HQ.out.2.1 HQ.out.2.2).mono ?_
  rintro e W' ⟨c, rfl, hP⟩
  have hP' : Hid (R c W') := by show R c W'; rw [HR.out]; exact hP
  clear hP
  go_wp2
  go_ret
  exact ⟨c, rfl, hP'.out⟩

end Go.Proofs.YtepceidajmedeaaGreatDoor
