/- Lemmas for a law of this seat, part 18: contracts of the functions that it reaches, and the plain law. No condition but those of each lemma. -/
import Derived.Test.YtepceidajmedeaaGreatDoorWal17
import Derived.Laws.CopyOwn

namespace Go.Proofs.YtepceidajmedeaaGreatDoor
open Go.RowKit CW

theorem shift_any (x : Nat) (w : World) (hx : x < 4294967296) :
    Calls Tryz.prog 244 #[.int .u32 (x : Int)] w fun e w' => e = .returned (.int .u32 (halves 8 x : Nat)) ∧ w = w' := by
  go_enter Tryz.func244, Tryz.ntmps244
  go_wp2
  go_loop [0, 3] (fun a i => ∃ k : Nat, k ≤ 8 ∧ i = .int .i64 k ∧ a = .int .u32 ((halves k x : Nat) : Int)) (fun _ i => 8 - (intOf i).toNat)
  case atStart => exact ⟨0, by omega, rfl, rfl⟩
  case round =>
    obtain ⟨k, hk, rfl, rfl⟩ := hrel
    have hl := halves_lt k hx
    have HS : Hid (halves (k + 1) x = half (halves k x)) := halves_succ k x
    generalize hy : halves k x = y at hl HS
    have HY : Hid (halves k x = y) := hy
    clear hy
    by_cases hlt : k < 8
    · by_cases hp : y % 2 = 1
      · have HH : Hid (half y = (y / 2) ^^^ 2197175160) := by show half y = _; unfold half; rw [if_pos hp]
        have hxo : bits .xor .u32 ((y : Int) / 2) 2197175160 = (((y / 2) ^^^ 2197175160 : Nat) : Int) := by
          have h := u32_xor_nat (y / 2) 2197175160 (by omega) (by decide)
          rwa [Int.natCast_ediv] at h
        have ha : bits .and .u32 (y : Int) 1 = 1 := by
          have h := u32_and_nat y 1 hl (by decide)
          rwa [nat_mask1, hp] at h
        have hm : bits .and .u32 2197175160 4294967295 = 2197175160 := by kernel_rfl
        clear hp
        go_wp2
        go_round
        case rel => exact ⟨k + 1, by omega, by go_num, by rw [HS.out, HH.out]⟩
        case measure => simp [intOf]; omega
      · have HH : Hid (half y = y / 2) := by show half y = _; unfold half; rw [if_neg hp]
        have hxo : bits .xor .u32 ((y : Int) / 2) 0 = ((y / 2 : Nat) : Int) := by
          have h := u32_xor_nat (y / 2) 0 (by omega) (by decide)
          rwa [Int.natCast_ediv, Nat.xor_zero] at h
        have ha : bits .and .u32 (y : Int) 1 = 0 := by
          have h := u32_and_nat y 1 hl (by decide)
          rwa [nat_mask1, show y % 2 = 0 by omega] at h
        have hm : bits .and .u32 2197175160 0 = 0 := by kernel_rfl
        clear hp
        go_wp2
        go_round
        case rel => exact ⟨k + 1, by omega, by go_num, by rw [HS.out, HH.out]; go_num⟩
        case measure => simp [intOf]; omega
    · go_wp2
      go_ret
      obtain rfl : k = 8 := by omega
      exact ⟨by rw [HY.out]; rfl, rfl⟩

theorem size263 : Tryz.zeroCells263.size = 256 := by kernel_rfl

def tab (i : Nat) : Value := .int .u32 (halves 8 i : Nat)
def tabCells : Array Value := ((List.range 256).map tab).toArray
theorem tab_at (i : Nat) (h : i < 256) : tabCells[i]? = some (tab i) := by simp [tabCells, h]
theorem tab_one : ∀ v ∈ tabCells.toList, v.oneCell' = true := by
  intro v hv
  simp only [tabCells, List.mem_map] at hv
  obtain ⟨i, _, rfl⟩ := hv
  rfl

set_option maxRecDepth 100000 in
theorem table_any (w : World) :
    Calls Tryz.prog 228 #[] w fun e w' => e = .returned (.agg tabCells) ∧ Below w.heap.size w w' := by
  go_enter Tryz.func228, Tryz.ntmps228
  go_wp2_with fail
  go_loopw [4] (fun i wr => ∃ (k : Nat) (cur : Array Value), k ≤ 256 ∧ i = .int .i64 k ∧ wr.heap[w.heap.size + 1]? = some (.cells cur 263 (0, 0)) ∧ cur.size = 256 ∧ (∀ j, j < k → cur[j]? = some (tab j)) ∧
      wr.heap[w.heap.size]? = some (.cells Tryz.zeroCells263 263 (0, 0)) ∧ Below w.heap.size w wr) (fun i _ => 256 - (intOf i).toNat)
  case atStart => exact ⟨0, _, by omega, rfl, heap_alloc2_new _ _ _, size263, fun j hj => by omega, heap_alloc2_old _ _ _, ((Below.refl _ _).alloc (Nat.le_refl _) _).alloc (by simp) _⟩
  case round =>
    obtain ⟨k, cur, hk, rfl, hh, hsz, hcur, hz, hb⟩ := hrel
    by_cases hlt : k < 256
    · have hcell : wr.cell? ⟨w.heap.size + 1, k, none⟩ = cur[k]? := Go.cell_of_row wr _ k cur _ _ hh
      rw [Array.getElem?_eq_getElem (by omega)] at hcell
      have hfr := frozen_of_row wr (w.heap.size + 1) k cur _ hh
      go_wp2_with (first | (go_at_call 244; refine (shift_any k _ (by omega)).mono ?_; rintro e w' ⟨rfl, rfl⟩))
      refine ⟨⟨k + 1, cur.setIfInBounds k (tab k), by omega, by go_num, heap_setCell_same _ _ _ _ _ _ hh, by simp [hsz], fun j hj => ?_, (heap_setCell_other _ _ _ _ (by simp)).trans hz, hb.setCell (by simp) _⟩, ?_⟩
      · by_cases e : j = k
        · subst e; simp [hsz, hlt]
        · rw [Array.getElem?_setIfInBounds_ne (fun h => e h.symm)]; exact hcur j (by omega)
      · simp [intOf]; omega
    · have hcu : cur = tabCells := by
        refine Array.ext (by rw [hsz]; simp [tabCells]) fun i h1 h2 => ?_
        have a := hcur i (by omega)
        have b := tab_at i (by omega)
        rw [Array.getElem?_eq_getElem h1] at a
        rw [Array.getElem?_eq_getElem h2] at b
        exact Option.some.inj (a.trans b.symm)
      subst hcu
      go_wp2_with (first
        | (refine wpList_load_row rfl 263 (.tmp 1) rfl (w.heap.size + 1) rfl 263 tabCells (0, 0) _ hh Tryz.underlying263 rfl (by kernel_rfl) ?_)
        | (refine wpList_store_whole rfl (ty := 263) (x := .tmp 0) (y := .tmp 14) rfl w.heap.size 263 tabCells _ rfl rfl hz (by rw [size263]; rfl) (by kernel_rfl) tab_one ?_))
      refine bodyPost_ret (v := .agg tabCells) (results_cell_row (fr := (0, 0)) Tryz.results228 _ _ w.heap.size 263 tabCells _ rfl (setRow_heap _ _ _ _ _ _ hz) Tryz.underlying263 rfl (by kernel_rfl)) rfl ⟨rfl, below_setRow hb (Nat.le_refl _) _⟩

end Go.Proofs.YtepceidajmedeaaGreatDoor
