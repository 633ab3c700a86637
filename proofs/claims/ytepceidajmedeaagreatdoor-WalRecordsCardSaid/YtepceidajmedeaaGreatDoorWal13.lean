/- Lemmas for a law of this seat, part 13: contracts of the functions that it reaches, and the plain law. No condition but those of each lemma. -/
import Derived.Test.YtepceidajmedeaaGreatDoorWal11
import Derived.Test.YtepceidajmedeaaGreatDoorWal12

namespace Go.Proofs.YtepceidajmedeaaGreatDoor
open Go.RowKit CW

set_option maxHeartbeats 400000 in
theorem has7_any (v : Value) (zs : List Int) (x : Int) (w : World) (hv : Row (fun _ => False) w v zs.length (ints zs)) :
    Calls Tryz.prog 135 #[v, .int .i64 x] w fun e w' => e = .returned (.bool (decide (x ∈ zs))) ∧ w = w' := by
  obtain ⟨a, cap, rfl, hn, hc, hnone, hcell⟩ := Row.open hv
  go_enter Tryz.func135, Tryz.ntmps135
  go_wp2
  go_loopw [5] (fun i wr => ∃ k : Nat, k ≤ zs.length ∧ i = .int .i64 k ∧ x ∉ zs.take k ∧ wr = w) (fun i _ => zs.length - (intOf i).toNat)
  case atStart => exact ⟨0, by omega, rfl, by simp, rfl⟩
  case round =>
    obtain ⟨k, hk, rfl, hnot, rfl⟩ := hrel
    have HNOT : Hid (x ∉ zs.take k) := hnot
    clear hnot
    by_cases hlt : k < zs.length
    · obtain ⟨b, off, rfl, hbl, _, hcc⟩ := hcell (by omega)
      have h1 := hcc k (.int .i64 zs[k]) (by simp [ints, hlt])
      have HT : Hid (zs.take (k + 1) = zs.take k ++ [zs[k]]) := List.take_succ_eq_append_getElem hlt
      have HM : Hid (zs[k] ∈ zs) := List.getElem_mem hlt
      generalize zs[k] = y at *
      clear hcc hcell
      have i1 : (k : Int) < (zs.length : Int) := by omega
      by_cases hxy : y = x
      · have HE : Hid (decide (x ∈ zs) = true) := by show _ = _; rw [decide_eq_true (hxy ▸ HM.out)]
        have hd : (y == x) = true := by simp [hxy]
        clear hxy
        go_wp2
        go_ret
        exact ⟨by rw [HE.out] <;> rfl, rfl⟩
      · have HN : Hid (x ∉ zs.take (k + 1)) := by
          show _
          rw [HT.out, List.mem_append]
          rintro (h | h)
          · exact HNOT.out h
          · simp at h; exact hxy h.symm
        have hd : (y == x) = false := by simp [hxy]
        clear hxy
        go_wp2
        go_roundw
        case rel => exact ⟨k + 1, by omega, by go_num, HN.out, trivial⟩
        case measure => simp [intOf]; omega
    · have HE : Hid (decide (x ∈ zs) = false) := by
        show _ = _
        have h := HNOT.out
        rw [List.take_of_length_le (by omega)] at h
        exact decide_eq_false h
      go_wp2
      go_ret
      exact ⟨by rw [HE.out] <;> rfl, rfl⟩

/-- A number, laid into a sorted list. -/
def insU (zs : List Int) (n : Int) : List Int := if n ∈ zs then zs else zs.takeWhile (fun z => decide (z < n)) ++ n :: zs.dropWhile (fun z => decide (z < n))
def list7 (ss : List Bytes) : List Int := ss.foldl (fun zs s => match numB s with | some n => insU zs n | none => zs) []
theorem list7_take (ss : List Bytes) (k : Nat) (h : k < ss.length) : list7 (ss.take (k + 1)) = match numB ss[k] with | some n => insU (list7 (ss.take k)) n | none => list7 (ss.take k) := by
  unfold list7
  rw [List.take_succ_eq_append_getElem h, List.foldl_append]
  rfl
theorem insU_len (zs : List Int) (n : Int) : (insU zs n).length ≤ zs.length + 1 := by
  unfold insU
  split
  · omega
  · have h : (zs.takeWhile (fun z => decide (z < n)) ++ zs.dropWhile (fun z => decide (z < n))).length = zs.length := congrArg List.length List.takeWhile_append_dropWhile
    rw [List.length_append] at h
    rw [List.length_append, List.length_cons]
    omega
theorem list7_len (ss : List Bytes) : (list7 ss).length ≤ ss.length := by
  suffices H : ∀ (ss : List Bytes) (zs : List Int), (ss.foldl (fun zs s => match numB s with | some n => insU zs n | none => zs) zs).length ≤ zs.length + ss.length by
    have := H ss []
    simpa [list7] using this
  intro ss
  induction ss with
  | nil => intro zs; simp
  | cons s ss ih =>
    intro zs
    rw [List.foldl_cons, List.length_cons]
    refine Nat.le_trans (ih _) ?_
    split
    · have := insU_len zs (‹Nat› : Int); omega
    · omega

theorem takeWhile_at (zs : List Int) (n : Int) (j : Nat) (hj : j ≤ zs.length) (h1 : (zs.take j).all (fun z => decide (z < n)) = true) (h2 : ∀ (h : j < zs.length), ¬ zs[j] < n) :
    zs.takeWhile (fun z => decide (z < n)) = zs.take j ∧ zs.dropWhile (fun z => decide (z < n)) = zs.drop j := by
  induction zs generalizing j with
  | nil => simp
  | cons z zs ih =>
    cases j with
    | zero =>
      have h3 := h2 (by simp)
      rw [List.getElem_cons_zero] at h3
      rw [List.takeWhile_cons, List.dropWhile_cons, decide_eq_false h3]
      exact ⟨rfl, rfl⟩
    | succ j =>
      simp only [List.take_succ_cons, List.all_cons, Bool.and_eq_true] at h1
      obtain ⟨i1, i2⟩ := ih j (by simpa using hj) h1.2 (fun h => h2 (by simpa using h))
      rw [List.takeWhile_cons, List.dropWhile_cons, h1.1]
      simp [i1, i2]

set_option maxHeartbeats 2000000 in
set_option maxRecDepth 100000 in
theorem list7_any (v : Value) (ss : List Bytes) (w : World) (hv : SlS (fun _ => False) w v ss) (hl : ss.length ≤ 4398046511104) :
    Calls Tryz.prog 72 #[v] w fun e w' => ∃ v', e = .returned v' ∧ w'.ownsRow w.heap.size 3 1 v' (list7 ss).length (ints (list7 ss)) ∧ Below w.heap.size w w' := by
  obtain ⟨a, cap, rfl, hn, hc, hnone, hcell⟩ := Row.open hv
  go_enter Tryz.func72, Tryz.ntmps72
  go_wp2
  go_loopw [3, 4] (fun out i wr => ∃ k : Nat, k ≤ ss.length ∧ i = .int .i64 k ∧ wr.ownsRow w.heap.size 3 1 out (list7 (ss.take k)).length (ints (list7 (ss.take k))) ∧ Below w.heap.size w wr) (fun _ i _ => ss.length - (intOf i).toNat)
  case atStart => exact ⟨0, by omega, rfl, World.ownsRow_nil _ _ _ _, Below.refl _ _⟩
  case round =>
    obtain ⟨k, hk, rfl, hown, hb⟩ := hrel
    by_cases hlt : k < ss.length
    · obtain ⟨b, off, rfl, hbl, _, hcc⟩ := hcell (by omega)
      have h1 := (hb.cell (p := ⟨b, off + k, none⟩) hbl).trans (hcc k (stV ss[k]) (by simp [hlt]))
      have HT : Hid (list7 (ss.take (k + 1)) = match numB ss[k] with | some n => insU (list7 (ss.take k)) n | none => list7 (ss.take k)) := list7_take ss k hlt
      have hnl : (list7 (ss.take k)).length ≤ 4398046511104 := Nat.le_trans (list7_len _) (by rw [List.length_take]; omega)
      generalize hx : ss[k] = x at *
      clear hx hcc hcell
      unfold stV at h1
      have i1 : (k : Int) < (ss.length : Int) := by omega
      generalize list7 (ss.take k) = zs at *
      rcases hnum : numB x with _ | n
      · have hc1 := number7_any x wr
        rw [hnum] at hc1
        have HT2 : Hid (list7 (ss.take (k + 1)) = zs) := by show _ = _; rw [HT.out, hnum]
        clear hnum HT
        go_wp2_with (go_at_call 119; refine hc1.mono ?_; rintro e w1 ⟨rfl, rfl⟩)
        go_roundw
        case rel => exact ⟨k + 1, by omega, by go_num, by rw [HT2.out]; exact hown, hb⟩
        case measure => simp [intOf]; omega
      · have hc1 := number7_any x wr
        rw [hnum] at hc1
        have hrow := Row.of_owns hown
        by_cases hmem : (n : Int) ∈ zs
        · have hc2 := has7_any _ zs (n : Int) wr (hrow.mono (fun _ _ h => h.elim))
          rw [decide_eq_true hmem] at hc2
          have HT2 : Hid (list7 (ss.take (k + 1)) = zs) := by show _ = _; rw [HT.out, hnum]; exact if_pos hmem
          clear hnum HT hmem hrow
          go_wp2_with (first
            | (go_at_call 119; refine hc1.mono ?_; rintro e w1 ⟨rfl, rfl⟩)
            | (go_at_call 135; refine hc2.mono ?_; rintro e w1 ⟨rfl, rfl⟩))
          go_roundw
          case rel => exact ⟨k + 1, by omega, by go_num, by rw [HT2.out]; exact hown, hb⟩
          case measure => simp [intOf]; omega
        · have hc2 := has7_any _ zs (n : Int) wr (hrow.mono (fun _ _ h => h.elim))
          rw [decide_eq_false hmem] at hc2
          have HT2 : Hid (list7 (ss.take (k + 1)) = zs.takeWhile (fun z => decide (z < (n : Int))) ++ (n : Int) :: zs.dropWhile (fun z => decide (z < (n : Int)))) := by show _ = _; rw [HT.out, hnum]; exact if_neg hmem
          clear hnum HT hmem
          obtain ⟨az, cz, rfl, hz1, hz2, hz3, hz4⟩ := hrow.open
          go_wp2_with (first
            | (go_at_call 119; refine hc1.mono ?_; rintro e w1 ⟨rfl, rfl⟩)
            | (go_at_call 135; refine hc2.mono ?_; rintro e w1 ⟨rfl, rfl⟩))
          go_loopw [7] (fun at_ W => ∃ j : Nat, j ≤ zs.length ∧ at_ = .int .i64 j ∧ (zs.take j).all (fun z => decide (z < (n : Int))) = true ∧ W = wr) (fun at_ _ => zs.length - (intOf at_).toNat)
          case atStart => exact ⟨0, by omega, rfl, rfl, rfl⟩
          case round =>
            obtain ⟨j, hj, rfl, hall, rfl⟩ := hrel
            have HALL : Hid ((zs.take j).all (fun z => decide (z < (n : Int))) = true) := hall
            clear hall
            by_cases hjl : j < zs.length ∧ zs.getD j 0 < (n : Int)
            · obtain ⟨hj1, hj2⟩ := hjl
              obtain ⟨bz, oz, rfl, hbz, _, hcz⟩ := hz4 (by omega)
              have e1 : zs.getD j 0 = zs[j] := by simp [List.getD, hj1]
              rw [e1] at hj2
              have c1 := hcz j (.int .i64 zs[j]) (by simp [ints, hj1])
              have HT3 : Hid (zs.take (j + 1) = zs.take j ++ [zs[j]]) := List.take_succ_eq_append_getElem hj1
              clear e1 hcz hz4
              generalize zs[j] = y at *
              have HA : Hid ((zs.take (j + 1)).all (fun z => decide (z < (n : Int))) = true) := by show _ = _; rw [HT3.out, List.all_append, HALL.out]; simp [hj2]
              have i2 : (j : Int) < (zs.length : Int) := by omega
              go_wp2
              go_roundw
              case rel => exact ⟨j + 1, by omega, by go_num, HA.out, trivial⟩
              case measure => simp [intOf]; omega
            · have htw := takeWhile_at zs (n : Int) j hj HALL.out (fun h hlt => hjl ⟨h, by simpa [List.getD, h] using hlt⟩)
              have HT3 : Hid (list7 (ss.take (k + 1)) = zs.take j ++ (n : Int) :: zs.drop j) := by show _ = _; rw [HT2.out, htw.1, htw.2]
              clear htw HT2 HALL
              have hrw : Row (fun _ => False) wr (.slice az zs.length cz) zs.length (ints zs) := (Row.of_owns hown).mono (fun _ _ h => h.elim)
              obtain ⟨hup, hrup⟩ := run_upto tyI hrw j hj (by simp [ints])
              obtain ⟨ad, cd, hdn, hrdn⟩ := run_after tyI hrw j hj (by simp [ints])
              rw [Nat.mul_one, show (ints zs).take j = ints (zs.take j) from List.map_take.symm] at hrup
              rw [Nat.mul_one, show (ints zs).drop j = ints (zs.drop j) from List.map_drop.symm] at hrdn
              by_cases hj1 : j < zs.length
              · have hj2 : ¬ zs.getD j 0 < (n : Int) := fun h => hjl ⟨hj1, h⟩
                obtain ⟨bz, oz, rfl, hbz, _, hcz⟩ := hz4 (by omega)
                have e1 : zs.getD j 0 = zs[j] := by simp [List.getD, hj1]
                rw [e1] at hj2
                have c1 := hcz j (.int .i64 zs[j]) (by simp [ints, hj1])
                clear e1 hcz hz4 hjl
                generalize zs[j] = y at *
                have i2 : (j : Int) < (zs.length : Int) := by omega
                have i3 : (j : Int) ≤ (cz : Int) := by omega
                have i4 : ¬ cz = j := by omega
                go_wp2
                have hS0 : Below wr.heap.size wr wr.drew := (Below.refl _ _).drew
                have hone1 : ∀ u ∈ ints (zs.take j), u.oneCell' = true := by intro u hu; obtain ⟨q, _, rfl⟩ := List.mem_map.1 hu; rfl
                have hone2 : ∀ u ∈ ints (zs.drop j), u.oneCell' = true := by intro u hu; obtain ⟨q, _, rfl⟩ := List.mem_map.1 hu; rfl
                have hl1 : (ints (zs.take j)).length = j * 1 := by simp [ints]; omega
                have hl2 : (ints (zs.drop j)).length = (zs.length - j) * 1 := by simp [ints]
                have hx1 : ∀ u ∈ [Value.int .i64 (n : Int)], u.oneCell' = true := by intro u hu; simp at hu; subst hu; rfl
                have hz0 : wr.heap.size ≤ wr.heap.size := Nat.le_refl _
                have hown3 : ((wr.alloc (.cells #[.int .i64 (n : Int)] 3)).alloc (.cells #[] 3)).ownsRow wr.heap.size 3 1 (.slice (some ⟨wr.heap.size + 1, 0, none⟩) 0 0) 0 [] := by
                  have h := World.ownsRow_made (base := wr.heap.size) (e := 3) (size := 1) (wr.alloc (.cells #[.int .i64 (n : Int)] 3)) #[] 0 (by simp) (by decide) rfl
                  rwa [show (wr.alloc (.cells #[.int .i64 (n : Int)] 3)).heap.size = wr.heap.size + 1 from by simp] at h
                go_region_held3 (fun W => Below wr.heap.size wr W) (first | assumption | exact Below.alloc (by assumption) (Below.size (by assumption)) _)
                  (first
                    | (refine wpH_appB (base := wr.heap.size) tyI rfl (s := .tmp 43) (x := .tmp 46) rfl rfl rfl (n := 0) (xs := []) (World.ownsRow_made wr #[] 0 hz0 (by decide) rfl) (hrup.below (by assumption)) hl1 hone1 (by unfold maxLen; omega) (by omega) (Below.size (by assumption)) ?_; intro v1 w1 ho1 hg1 hb1; have hS1 : Below wr.heap.size wr w1 := Below.trans (by assumption) hb1)
                    | (refine wpH_appB (base := wr.heap.size) tyI rfl (s := .tmp 43) (x := .tmp 46) rfl (v := .slice (some ⟨wr.heap.size, 0, none⟩) 0 0) rfl rfl (n := 0) (xs := []) ((World.ownsRow_made wr #[] 0 hz0 (by decide) rfl).alloc _) (hrup.below (by assumption)) hl1 hone1 (by unfold maxLen; omega) (by omega) (Below.size (by assumption)) ?_; intro v1 w1 ho1 hg1 hb1; have hS1 : Below wr.heap.size wr w1 := Below.trans (by assumption) hb1; have hlit := Row.grown (Row.lit1 (wr.alloc (.cells #[] 3)) (.int .i64 (n : Int)) 3).drew hg1 (by simp [Value.ownBlock]); rw [show (wr.alloc (.cells #[] 3)).heap.size = wr.heap.size + 1 from (by simp)] at hlit)
                    | (refine wpH_appB (base := wr.heap.size) tyI rfl (s := .tmp 43) (x := .tmp 46) rfl (v := .slice (some ⟨wr.heap.size + 1, 0, none⟩) 0 0) rfl rfl (n := 0) (xs := []) hown3 (hrup.below (by assumption)) hl1 hone1 (by unfold maxLen; omega) (by omega) (Below.size (by assumption)) ?_; intro v1 w1 ho1 hg1 hb1; have hS1 : Below wr.heap.size wr w1 := Below.trans (by assumption) hb1; have hlit := Row.grown ((Row.lit1 wr (.int .i64 (n : Int)) 3).below ((Below.refl _ _).alloc (Nat.le_refl _) (.cells #[] 3))).drew hg1 (by simp [Value.ownBlock]))
                    | (refine wpH_appB (base := wr.heap.size) tyI rfl (s := .tmp 47) (x := .tmp 49) rfl rfl rfl (ho1.alloc _) (Row.lit1 w1 (.int .i64 (n : Int)) 3) rfl hx1 (by unfold maxLen; omega) (by omega) (Below.size (by assumption)) ?_; intro v2 w2 ho2 hg2 hb2; have hS2 : Below wr.heap.size wr w2 := Below.trans (by assumption) hb2)
                    | (refine wpH_appB (base := wr.heap.size) tyI rfl (s := .tmp 47) (x := .tmp 49) rfl rfl rfl ho1 hlit rfl hx1 (by unfold maxLen; omega) (by omega) (Below.size (by assumption)) ?_; intro v2 w2 ho2 hg2 hb2; have hS2 : Below wr.heap.size wr w2 := Below.trans (by assumption) hb2)
                    | (refine wpH_appB (base := wr.heap.size) tyI rfl (s := .tmp 50) (x := .tmp 53) rfl rfl rfl ho2 (hrdn.below (by assumption)) hl2 hone2 (by unfold maxLen; omega) (by omega) (Below.size (by assumption)) ?_; intro v3 w3 ho3 hg3 hb3; have hS3 : Below wr.heap.size wr w3 := Below.trans (by assumption) hb3))
                all_goals
                  have hE := owns_base ho3 hb.size
                  rw [show 0 + j + 1 + (zs.length - j) = (zs.take j ++ (n : Int) :: zs.drop j).length by simp; omega, show [] ++ ints (zs.take j) ++ [Value.int .i64 (n : Int)] ++ ints (zs.drop j) = ints (zs.take j ++ (n : Int) :: zs.drop j) by simp [ints]] at hE
                  rw [← HT3.out] at hE
                  have hbE := hb.trans (hS3.mono hb.size)
                  go_wp2
                  go_roundw
                  case rel => exact ⟨k + 1, by omega, by go_num, hE, hbE⟩
                  case measure => simp [intOf]; omega
              · have i2 : ¬ (j : Int) < (zs.length : Int) := by omega
                clear hjl hz4
                go_wp2
                have hS0 : Below wr.heap.size wr wr.drew := (Below.refl _ _).drew
                have hone1 : ∀ u ∈ ints (zs.take j), u.oneCell' = true := by intro u hu; obtain ⟨q, _, rfl⟩ := List.mem_map.1 hu; rfl
                have hone2 : ∀ u ∈ ints (zs.drop j), u.oneCell' = true := by intro u hu; obtain ⟨q, _, rfl⟩ := List.mem_map.1 hu; rfl
                have hl1 : (ints (zs.take j)).length = j * 1 := by simp [ints]; omega
                have hl2 : (ints (zs.drop j)).length = (zs.length - j) * 1 := by simp [ints]
                have hx1 : ∀ u ∈ [Value.int .i64 (n : Int)], u.oneCell' = true := by intro u hu; simp at hu; subst hu; rfl
                have hz0 : wr.heap.size ≤ wr.heap.size := Nat.le_refl _
                have hown3 : ((wr.alloc (.cells #[.int .i64 (n : Int)] 3)).alloc (.cells #[] 3)).ownsRow wr.heap.size 3 1 (.slice (some ⟨wr.heap.size + 1, 0, none⟩) 0 0) 0 [] := by
                  have h := World.ownsRow_made (base := wr.heap.size) (e := 3) (size := 1) (wr.alloc (.cells #[.int .i64 (n : Int)] 3)) #[] 0 (by simp) (by decide) rfl
                  rwa [show (wr.alloc (.cells #[.int .i64 (n : Int)] 3)).heap.size = wr.heap.size + 1 from by simp] at h
                go_region_held3 (fun W => Below wr.heap.size wr W) (first | assumption | exact Below.alloc (by assumption) (Below.size (by assumption)) _)
                  (first
                    | (refine wpH_appB (base := wr.heap.size) tyI rfl (s := .tmp 43) (x := .tmp 46) rfl rfl rfl (n := 0) (xs := []) (World.ownsRow_made wr #[] 0 hz0 (by decide) rfl) (hrup.below (by assumption)) hl1 hone1 (by unfold maxLen; omega) (by omega) (Below.size (by assumption)) ?_; intro v1 w1 ho1 hg1 hb1; have hS1 : Below wr.heap.size wr w1 := Below.trans (by assumption) hb1)
                    | (refine wpH_appB (base := wr.heap.size) tyI rfl (s := .tmp 43) (x := .tmp 46) rfl (v := .slice (some ⟨wr.heap.size, 0, none⟩) 0 0) rfl rfl (n := 0) (xs := []) ((World.ownsRow_made wr #[] 0 hz0 (by decide) rfl).alloc _) (hrup.below (by assumption)) hl1 hone1 (by unfold maxLen; omega) (by omega) (Below.size (by assumption)) ?_; intro v1 w1 ho1 hg1 hb1; have hS1 : Below wr.heap.size wr w1 := Below.trans (by assumption) hb1; have hlit := Row.grown (Row.lit1 (wr.alloc (.cells #[] 3)) (.int .i64 (n : Int)) 3).drew hg1 (by simp [Value.ownBlock]); rw [show (wr.alloc (.cells #[] 3)).heap.size = wr.heap.size + 1 from (by simp)] at hlit)
                    | (refine wpH_appB (base := wr.heap.size) tyI rfl (s := .tmp 43) (x := .tmp 46) rfl (v := .slice (some ⟨wr.heap.size + 1, 0, none⟩) 0 0) rfl rfl (n := 0) (xs := []) hown3 (hrup.below (by assumption)) hl1 hone1 (by unfold maxLen; omega) (by omega) (Below.size (by assumption)) ?_; intro v1 w1 ho1 hg1 hb1; have hS1 : Below wr.heap.size wr w1 := Below.trans (by assumption) hb1; have hlit := Row.grown ((Row.lit1 wr (.int .i64 (n : Int)) 3).below ((Below.refl _ _).alloc (Nat.le_refl _) (.cells #[] 3))).drew hg1 (by simp [Value.ownBlock]))
                    | (refine wpH_appB (base := wr.heap.size) tyI rfl (s := .tmp 47) (x := .tmp 49) rfl rfl rfl (ho1.alloc _) (Row.lit1 w1 (.int .i64 (n : Int)) 3) rfl hx1 (by unfold maxLen; omega) (by omega) (Below.size (by assumption)) ?_; intro v2 w2 ho2 hg2 hb2; have hS2 : Below wr.heap.size wr w2 := Below.trans (by assumption) hb2)
                    | (refine wpH_appB (base := wr.heap.size) tyI rfl (s := .tmp 47) (x := .tmp 49) rfl rfl rfl ho1 hlit rfl hx1 (by unfold maxLen; omega) (by omega) (Below.size (by assumption)) ?_; intro v2 w2 ho2 hg2 hb2; have hS2 : Below wr.heap.size wr w2 := Below.trans (by assumption) hb2)
                    | (refine wpH_appB (base := wr.heap.size) tyI rfl (s := .tmp 50) (x := .tmp 53) rfl rfl rfl ho2 (hrdn.below (by assumption)) hl2 hone2 (by unfold maxLen; omega) (by omega) (Below.size (by assumption)) ?_; intro v3 w3 ho3 hg3 hb3; have hS3 : Below wr.heap.size wr w3 := Below.trans (by assumption) hb3))
                all_goals
                  have hE := owns_base ho3 hb.size
                  rw [show 0 + j + 1 + (zs.length - j) = (zs.take j ++ (n : Int) :: zs.drop j).length by simp; omega, show [] ++ ints (zs.take j) ++ [Value.int .i64 (n : Int)] ++ ints (zs.drop j) = ints (zs.take j ++ (n : Int) :: zs.drop j) by simp [ints]] at hE
                  rw [← HT3.out] at hE
                  have hbE := hb.trans (hS3.mono hb.size)
                  go_wp2
                  go_roundw
                  case rel => exact ⟨k + 1, by omega, by go_num, hE, hbE⟩
                  case measure => simp [intOf]; omega
    · have htk : ss.take k = ss := List.take_of_length_le (by omega)
      rw [htk] at hown
      go_wp2
      go_ret
      exact ⟨_, rfl, hown, hb⟩

end Go.Proofs.YtepceidajmedeaaGreatDoor
