/- Lemmas for a law of this seat, part 11: contracts of the functions that it reaches, and the plain law. No condition but those of each lemma. -/
import Derived.Test.YtepceidajmedeaaGreatDoorWal10
import Derived.Lib.OwnBridge
import Derived.Sort.OwnSortedInts

namespace Go.Proofs.YtepceidajmedeaaGreatDoor
open Go.RowKit CW

def ints (zs : List Int) : List Value := zs.map (Value.int .i64)

theorem sortI_own {base n : Nat} (v : Value) (zs : List Int) (w : World) (h : w.ownsRow base 3 1 v n (ints zs)) (hsz : n < 4611686018427387904) :
    Calls Tryz.prog 77 #[v] w fun e w' => e = .returned (.tuple #[]) ∧ w'.ownsRow base 3 1 v n (ints (zs.mergeSort fun x y => decide (x ≤ y))) ∧ w.grownBy w' v.ownBlock := by
  have hlen : zs.length = n := by have := h.1; simpa [ints] using this
  by_cases hv : v = .slice none 0 0
  · subst hv
    rcases h.2 with ⟨_, rfl⟩ | ⟨g, cap, cur, hv, _⟩
    · have hz : zs = [] := List.length_eq_zero_iff.1 hlen
      subst hz
      refine (Tryz.slices_Sort_int_none none 0 w).mono ?_
      rintro e w' ⟨rfl, rfl⟩
      exact ⟨rfl, by rw [List.mergeSort_nil]; exact h, World.grownBy.refl _ _⟩
    · cases hv
  · obtain ⟨g, cap, rfl, hb, hlt, hn, hm, hl, hH⟩ := Lib.holds_of_ownsRow h hv
    subst hlen
    refine (Tryz.slices_Sort_int g 0 cap zs w hH hlt (by omega)).mono ?_
    rintro e w' ⟨rfl, k, os, rfl⟩
    refine ⟨rfl, ?_, Go.grownBy_sortedI _⟩
    rcases h.2 with ⟨hv, _⟩ | ⟨g', cap', cur, hv, hg, hh, hn', hm', hsz', ht⟩
    · cases hv
    · cases hv
      exact Go.ownsRow_sortedI (by rw [List.length_mergeSort]) hg hh hn' hm' hsz'

theorem compactI_own {base n : Nat} (v : Value) (zs : List Int) (w : World) (h : w.ownsRow base 3 1 v n (ints zs)) (hsz : n ≤ 9223372036854775807) :
    Calls Tryz.prog 79 #[v] w fun e w' => ∃ v', e = .returned v' ∧ w'.ownsRow base 3 1 v' (Lib.compact zs).length (ints (Lib.compact zs)) ∧ w.grownBy w' v.ownBlock := by
  have hlen : zs.length = n := by have := h.1; simpa [ints] using this
  by_cases hv : v = .slice none 0 0
  · subst hv
    rcases h.2 with ⟨_, rfl⟩ | ⟨g, cap, cur, hv, _⟩
    · have hz : zs = [] := List.length_eq_zero_iff.1 hlen
      subst hz
      refine (Tryz.slices_Compact_int_empty none 0 w).mono ?_
      rintro e w' ⟨rfl, rfl⟩
      exact ⟨_, rfl, h, World.grownBy.refl _ _⟩
    · cases hv
  · obtain ⟨g, cap, rfl, hb, hlt, hn, hm, hl, hH⟩ := Lib.holds_of_ownsRow h hv
    subst hlen
    have hle : (Lib.compact zs).length ≤ zs.length := Lib.compact_length_le zs
    refine (Tryz.slices_Compact_int g 0 cap zs w hH hsz hn).mono ?_
    rintro e w' ⟨rfl, k, rfl⟩
    refine ⟨_, rfl, ?_, ?_⟩
    · have h2 := Lib.ownsRow_putRow (q := k) (k := (Lib.compact zs).length) (ys := Lib.compact zs ++ List.replicate (zs.length - (Lib.compact zs).length) 0) h (by simp; omega) hle
      rw [List.take_left] at h2
      exact h2
    · have h3 := Go.grownBy_sortedI (w := w) (g := g) (n := k) (os := #[]) (Lib.compact zs ++ List.replicate (zs.length - (Lib.compact zs).length) 0).toArray
      rwa [Sort.grow_empty] at h3

theorem tyI : SlTy Tryz.prog 45 3 1 8 (.int .i64 0) := SlTy.mk' Tryz.underlying45 (by kernel_rfl) rfl (by decide)

/-- A slice of strings. -/
def SlS (M : Nat → Prop) (w : World) (v : Value) (ss : List Bytes) : Prop := Row M w v ss.length (ss.map stV)

/-- The numbers of the segments among some names. -/
def numsB (ss : List Bytes) : List Int := ss.filterMap (fun s => (numB s).map Int.ofNat)
def segsB (ss : List Bytes) : List Int := Lib.compact ((numsB ss).mergeSort fun x y => decide (x ≤ y))
theorem numsB_take (ss : List Bytes) (k : Nat) (h : k < ss.length) : numsB (ss.take (k + 1)) = numsB (ss.take k) ++ (match numB ss[k] with | some n => [(n : Int)] | none => []) := by
  unfold numsB
  rw [List.take_succ_eq_append_getElem h, List.filterMap_append]
  congr 1
  simp only [List.filterMap_cons, List.filterMap_nil]
  cases numB ss[k] <;> rfl
theorem numsB_len (ss : List Bytes) : (numsB ss).length ≤ ss.length := List.length_filterMap_le _ _

set_option maxHeartbeats 1000000 in
set_option maxRecDepth 100000 in
theorem seglist_any (v : Value) (ss : List Bytes) (w : World) (hv : SlS (fun _ => False) w v ss) (hl : ss.length ≤ 4398046511104) :
    Calls Tryz.prog 24 #[v] w fun e w' => ∃ v', e = .returned v' ∧ w'.ownsRow w.heap.size 3 1 v' (segsB ss).length (ints (segsB ss)) ∧ Below w.heap.size w w' := by
  obtain ⟨a, cap, rfl, hn, hc, hnone, hcell⟩ := Row.open hv
  go_enter Tryz.func24, Tryz.ntmps24
  go_wp2
  go_loopw [3, 10] (fun out i wr => ∃ k : Nat, k ≤ ss.length ∧ i = .int .i64 k ∧ wr.ownsRow w.heap.size 3 1 out (numsB (ss.take k)).length (ints (numsB (ss.take k))) ∧ Below w.heap.size w wr) (fun _ i _ => ss.length - (intOf i).toNat)
  case atStart => exact ⟨0, by omega, rfl, World.ownsRow_nil _ _ _ _, Below.refl _ _⟩
  case round =>
    obtain ⟨k, hk, rfl, hown, hb⟩ := hrel
    by_cases hlt : k < ss.length
    · obtain ⟨b, off, rfl, hbl, _, hcc⟩ := hcell (by omega)
      have h1 := (hb.cell (p := ⟨b, off + k, none⟩) hbl).trans (hcc k (stV ss[k]) (by simp [hlt]))
      have HT : Hid (numsB (ss.take (k + 1)) = numsB (ss.take k) ++ (match numB ss[k] with | some n => [(n : Int)] | none => [])) := numsB_take ss k hlt
      have hnl : (numsB (ss.take k)).length ≤ 4398046511104 := Nat.le_trans (numsB_len _) (by rw [List.length_take]; omega)
      generalize hx : ss[k] = x at *
      clear hx hcc hcell
      unfold stV at h1
      have i1 : (k : Int) < (ss.length : Int) := by omega
      generalize numsB (ss.take k) = zs at *
      rcases hnum : numB x with _ | n
      · have HN : Hid (numB x = none) := hnum
        have hc1 := number_any x wr
        rw [hnum] at hc1
        have HT2 : Hid (numsB (ss.take (k + 1)) = zs) := by show _ = _; rw [HT.out, hnum, List.append_nil]
        clear hnum HT
        go_wp2_with (go_at_call 78; refine hc1.mono ?_; rintro e w1 ⟨rfl, hb1⟩; have hown1 := owns_below hown hb1; have hb2 := hb.trans (hb1.mono hb.size))
        go_roundw
        case rel => exact ⟨k + 1, by omega, by go_num, by rw [HT2.out]; exact hown1, hb2⟩
        case measure => simp [intOf]; omega
      · have HN : Hid (numB x = some n) := hnum
        have hc1 := number_any x wr
        rw [hnum] at hc1
        have HT2 : Hid (numsB (ss.take (k + 1)) = zs ++ [(n : Int)]) := by show _ = _; rw [HT.out, hnum]
        clear hnum HT
        go_wp2_with (first
          | (go_at_call 78; refine hc1.mono ?_; rintro e w1 ⟨rfl, hb1⟩; have hown1 := owns_below hown hb1; have hb2 := hb.trans (hb1.mono hb.size))
          | (at_builtin; refine wpList_app tyI rfl rfl rfl rfl (hown1.alloc _) (Row.lit1 w1 (.int .i64 (n : Nat)) 3) rfl (by intro u hu; simp at hu; subst hu; rfl) (by unfold maxLen; omega) (by omega) (by simp; have := hb2.size; omega) ?_; intro v2 w2 ho2 hg2))
        have hb3 : Below w.heap.size w w2 := (hb2.alloc hb2.size _).trans (below_grown (hown1.alloc _) hg2 (by simp; have := hb2.size; omega))
        go_roundw
        case rel => exact ⟨k + 1, by omega, by go_num, by rw [HT2.out]; simpa [ints] using ho2, hb3⟩
        case measure => simp [intOf]; omega
    · have htk : ss.take k = ss := List.take_of_length_le (by omega)
      have HS : Hid (segsB ss = Lib.compact ((numsB (ss.take k)).mergeSort fun x y => decide (x ≤ y))) := by show _ = _; rw [htk]; rfl
      have hnl : (numsB (ss.take k)).length ≤ 4398046511104 := Nat.le_trans (numsB_len _) (by rw [List.length_take]; omega)
      clear htk
      generalize numsB (ss.take k) = zs at *
      have hlm : (zs.mergeSort fun x y => decide (x ≤ y)).length = zs.length := List.length_mergeSort _
      go_wp2_with (first
        | (go_at_call 77; refine (sortI_own _ zs _ hown (by omega)).mono ?_; rintro e w1 ⟨rfl, ho1, hg1⟩; have hb1 := hb.trans (below_grown hown hg1 hb.size); generalize (zs.mergeSort fun x y => decide (x ≤ y)) = ys at *)
        | (go_at_call 79; refine (compactI_own _ ys _ ho1 (by omega)).mono ?_; rintro e w2 ⟨v2, rfl, ho2, hg2⟩; have hb2 := hb1.trans (below_grown ho1 hg2 hb1.size)))
      go_ret
      exact ⟨_, rfl, by rw [HS.out]; exact ho2, hb2⟩

end Go.Proofs.YtepceidajmedeaaGreatDoor

namespace Go.Proofs.YtepceidajmedeaaGreatDoor
open Go.RowKit CW

theorem cloneI_any (v : Value) (zs : List Int) (w : World) (hv : RowS (fun _ => False) w v zs.length (ints zs)) (hl : zs.length ≤ 4398046511104) :
    Calls Tryz.prog 76 #[v] w fun e w' => ∃ v', e = .returned v' ∧ w'.ownsRow w.heap.size 3 1 v' zs.length (ints zs) ∧ Below w.heap.size w w' := by
  rcases hv with ⟨rfl, hz, hz'⟩ | ⟨b, off, cap, rfl, hn, hc, hb, hm, hcell⟩
  · obtain rfl : zs = [] := List.length_eq_zero_iff.1 hz
    refine (Tryz.slices_Clone_int_nil 0 0 w).mono ?_
    rintro e w' ⟨rfl, rfl⟩
    exact ⟨_, rfl, World.ownsRow_nil _ _ _ _, Below.refl _ _⟩
  · refine (Tryz.slices_Clone_int b off zs.length cap zs w (Nat.le_refl _) (by omega) (fun j hj => ?_)).mono ?_
    · rw [hcell j (.int .i64 (zs.getD j 0)) (by simp [ints, hj])]
    · rintro e w' ⟨v', rfl, ho, _, hb'⟩
      rw [List.take_length] at ho
      exact ⟨v', rfl, ho, hb'⟩

/-- The first number that is missing in a sorted list. -/
def gapS : List Int → Int
  | a :: b :: r => if a + 1 < b then a + 1 else gapS (b :: r)
  | _ => 0
def gapB (zs : List Int) : Int := gapS (zs.mergeSort fun x y => decide (x ≤ y))

theorem gapS_drop (zs : List Int) (k : Nat) (h : k + 1 < zs.length) : gapS (zs.drop k) = if zs[k] + 1 < zs[k + 1] then zs[k] + 1 else gapS (zs.drop (k + 1)) := by
  rw [List.drop_eq_getElem_cons (by omega), List.drop_eq_getElem_cons (i := k + 1) (by omega)]
  rfl
theorem gapS_end (zs : List Int) (k : Nat) (h : zs.length ≤ k + 1) : gapS (zs.drop k) = 0 := by
  match h1 : zs.drop k with
  | [] => rfl
  | [a] => rfl
  | a :: b :: r =>
    have := congrArg List.length h1
    rw [List.length_drop] at this
    simp at this
    omega

set_option maxHeartbeats 1000000 in
set_option maxRecDepth 100000 in
theorem gap_any (v : Value) (zs : List Int) (w : World) (hv : RowS (fun _ => False) w v zs.length (ints zs)) (hl : zs.length ≤ 4398046511104) (hz : ∀ z ∈ zs, 0 ≤ z ∧ z ≤ 99999999) :
    Calls Tryz.prog 23 #[v] w fun e w' => e = .returned (.int .i64 (gapB zs)) ∧ Below w.heap.size w w' := by
  have hlm : (zs.mergeSort fun x y => decide (x ≤ y)).length = zs.length := List.length_mergeSort _
  have hzm : ∀ z ∈ zs.mergeSort fun x y => decide (x ≤ y), 0 ≤ z ∧ z ≤ 99999999 := fun z h => hz z (List.mem_mergeSort.1 h)
  have HG : Hid (gapB zs = gapS (zs.mergeSort fun x y => decide (x ≤ y))) := rfl
  have hv2 : ∀ u w1, w1.ownsRow w.heap.size 3 1 u zs.length (ints zs) → Calls Tryz.prog 77 #[u] w1 fun e w' => e = .returned (.tuple #[]) ∧ w'.ownsRow w.heap.size 3 1 u zs.length (ints (zs.mergeSort fun x y => decide (x ≤ y))) ∧ w1.grownBy w' u.ownBlock := fun u w1 h => sortI_own u zs w1 h (by omega)
  generalize (zs.mergeSort fun x y => decide (x ≤ y)) = ys at *
  go_enter Tryz.func23, Tryz.ntmps23
  go_wp2_with (first
    | (go_at_call 76; refine (cloneI_any _ zs _ hv hl).mono ?_; rintro e w1 ⟨v1, rfl, ho1, hb1⟩)
    | (go_at_call 77; refine (hv2 _ _ ho1).mono ?_; rintro e w2 ⟨rfl, ho2, hg2⟩; have hb2 := hb1.trans (below_grown ho1 hg2 hb1.size); have hr := Row.of_owns ho2; obtain ⟨a1, cap1, rfl, hn1, hc1, hnone1, hcell1⟩ := hr.open))
  have hmax : max ((zs.length : Int) - 1) 0 = ((zs.length - 1 : Nat) : Int) := by omega
  rw [hmax]
  obtain ⟨m, hm⟩ : ∃ m, zs.length - 1 = m := ⟨_, rfl⟩
  have hm2 : m + 1 ≤ zs.length ∨ m = 0 := by omega
  have hm3 : zs.length ≤ m + 1 := by omega
  rw [hm]
  clear hmax hm
  go_loopw [13] (fun i wr => ∃ k : Nat, k ≤ m ∧ i = .int .i64 k ∧ gapB zs = gapS (ys.drop k) ∧ wr = w2) (fun i _ => m - (intOf i).toNat)
  case atStart => exact ⟨0, by omega, rfl, HG.out, rfl⟩
  case round =>
    obtain ⟨k, hk, rfl, hg, rfl⟩ := hrel
    have HGK : Hid (gapB zs = gapS (ys.drop k)) := hg
    clear hg
    by_cases hlt : k < m
    · obtain ⟨b, off, rfl, hbl, _, hcc⟩ := hcell1 (by omega)
      have hk1 : k + 1 < ys.length := by omega
      have h1 := hcc k (.int .i64 ys[k]) (by simp [ints, show k < ys.length by omega])
      have h2 := hcc (k + 1) (.int .i64 ys[k + 1]) (by simp [ints, hk1])
      have HD : Hid (gapS (ys.drop k) = if ys[k] + 1 < ys[k + 1] then ys[k] + 1 else gapS (ys.drop (k + 1))) := gapS_drop ys k hk1
      have b1 := hzm ys[k] (List.getElem_mem _)
      have b2 := hzm ys[k + 1] (List.getElem_mem _)
      generalize ys[k] = x at *
      generalize ys[k + 1] = y at *
      clear hcc hcell1 hzm
      have i1 : (k : Int) < (m : Int) := by omega
      have i2 : (k : Int) < (zs.length : Int) := by omega
      have i3 : (k : Int) + 1 < (zs.length : Int) := by omega
      have i4 : x < x + 1 := by omega
      by_cases hxy : x + 1 < y
      · go_wp2
        go_ret
        exact ⟨by rw [HGK.out, HD.out, if_pos hxy] <;> rfl, hb2⟩
      · go_wp2
        go_roundw
        case rel => exact ⟨k + 1, by omega, by go_num, by rw [HGK.out, HD.out, if_neg hxy], trivial⟩
        case measure => simp [intOf]; omega
    · have HE : Hid (gapB zs = 0) := by show gapB zs = 0; rw [HGK.out]; exact gapS_end ys k (by omega)
      go_wp2
      go_ret
      exact ⟨by rw [HE.out] <;> rfl, hb2⟩

end Go.Proofs.YtepceidajmedeaaGreatDoor
