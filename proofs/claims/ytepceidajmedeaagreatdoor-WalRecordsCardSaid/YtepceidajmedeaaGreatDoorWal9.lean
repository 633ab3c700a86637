/- Lemmas for a law of this seat, part 9: contracts of the functions that it reaches, and the plain law. No condition but those of each lemma. -/
import Derived.Test.YtepceidajmedeaaGreatDoorWal8
import Derived.Test.YtepceidajmedeaaGreatDoorProg

namespace Go.Proofs.YtepceidajmedeaaGreatDoor
open Go.RowKit CW

theorem u32_xor_nat' (a b : Nat) (ha : a < 4294967296) (hb : b < 4294967296) : bits .xor .u32 (a : Int) (b : Int) = ((a ^^^ b : Nat) : Int) := u32_xor_nat a b ha hb

theorem feed_any (r : Nat) (c : UInt8) (w : World) (hr : r < 4294967296) :
    Calls Tryz.prog 229 #[.int .u32 (r : Int), .int .u8 (c.toNat : Int)] w fun e w' => e = .returned (.int .u32 (feed r c : Nat)) ∧ w = w' := by
  have hc := c.toNat_lt
  have hx := u32_xor_nat r c.toNat hr (by omega)
  have hxl : r ^^^ c.toNat < 4294967296 := xor_lt32 hr (by omega)
  unfold feed
  generalize r ^^^ c.toNat = x at hx hxl
  go_enter Tryz.func229, Tryz.ntmps229
  go_wp2
  go_loop [0, 5] (fun a i => ∃ k : Nat, k ≤ 8 ∧ i = .int .i64 k ∧ a = .int .u32 ((halves k x : Nat) : Int)) (fun _ i => 8 - (intOf i).toNat)
  case atStart => exact ⟨0, by omega, rfl, rfl⟩
  case round =>
    obtain ⟨k, hk, rfl, rfl⟩ := hrel
    have hl := halves_lt k hxl
    have hs := halves_succ k x
    have HS : Hid (halves (k + 1) x = half (halves k x)) := hs
    clear hs hx
    generalize hy : halves k x = y at hl HS
    have HY : Hid (halves k x = y) := hy
    clear hy
    by_cases hlt : k < 8
    · have hxo : bits .xor .u32 ((y : Int) / 2) 2197175160 = (((y / 2) ^^^ 2197175160 : Nat) : Int) := by
        have h := u32_xor_nat (y / 2) 2197175160 (by omega) (by decide)
        rwa [Int.natCast_ediv] at h
      by_cases hp : y % 2 = 1
      · have hh : half y = (y / 2) ^^^ 2197175160 := by unfold half; rw [if_pos hp]
        have HH : Hid (half y = (y / 2) ^^^ 2197175160) := hh
        have ha : bits .and .u32 (y : Int) 1 = 1 := by
          have h := u32_and_nat y 1 hl (by decide)
          rwa [nat_mask1, hp] at h
        clear hh hp
        go_wp2
        go_round
        case rel => exact ⟨k + 1, by omega, by go_num, by rw [HS.out, HH.out]⟩
        case measure => simp [intOf]; omega
      · have hh : half y = y / 2 := by unfold half; rw [if_neg hp]
        have HH : Hid (half y = y / 2) := hh
        have ha : bits .and .u32 (y : Int) 1 = 0 := by
          have h := u32_and_nat y 1 hl (by decide)
          rwa [nat_mask1, show y % 2 = 0 by omega] at h
        clear hh hp
        go_wp2
        go_round
        case rel => exact ⟨k + 1, by omega, by go_num, by rw [HS.out, HH.out]; go_num⟩
        case measure => simp [intOf]; omega
    · go_wp2
      go_ret
      obtain rfl : k = 8 := by omega
      exact ⟨by rw [HY.out]; rfl, rfl⟩

theorem flip_bits (s : Nat) (hs : s < 4294967296) : bits .xor .u32 IntKind.u32.max (s : Int) = ((flip s : Nat) : Int) := by
  have h := u32_xor_nat 4294967295 s (by decide) hs
  have e : 4294967295 ^^^ s = flip s := by
    have h1 := BitVec.toNat_not (x := BitVec.ofNat 32 s)
    rw [BitVec.not_def] at h1
    simp only [BitVec.toNat_xor, BitVec.toNat_allOnes, BitVec.toNat_ofNat] at h1
    rw [Nat.mod_eq_of_lt (show s < 2 ^ 32 from hs)] at h1
    exact h1
  rw [e] at h
  exact h

theorem more1_any (s : Nat) (v : Value) (bs : Bytes) (w : World) (hs : s < 4294967296) (hv : SlB (fun _ => False) w v bs) :
    Calls Tryz.prog 195 #[.int .u32 (s : Int), v] w fun e w' => e = .returned (.int .u32 (more s bs : Nat)) ∧ w = w' := by
  obtain ⟨a, cap, rfl, hn, hcap, _, hcell⟩ := Row.open hv
  have hx := flip_bits s hs
  have hfl := flip_lt s
  unfold more
  generalize flip s = f at hx hfl
  go_enter Tryz.func195, Tryz.ntmps195
  go_wp2
  go_loop [5, 6] (fun a i => ∃ k : Nat, k ≤ bs.length ∧ i = .int .i64 k ∧ a = .int .u32 (((bs.take k).foldl feed f : Nat) : Int)) (fun _ i => bs.length - (intOf i).toNat)
  case atStart => exact ⟨0, by omega, rfl, rfl⟩
  case round =>
    obtain ⟨k, hk, rfl, rfl⟩ := hrel
    have hl := fold_lt (bs.take k) hfl
    by_cases hlt : k < bs.length
    · obtain ⟨b, off, rfl, _, _, hc⟩ := hcell (by omega)
      have hck := hc k (encB bs[k]) (by simp [hlt])
      have hnext : (bs.take (k + 1)).foldl feed f = feed ((bs.take k).foldl feed f) bs[k] := by
        rw [List.take_succ_eq_append_getElem hlt, List.foldl_append]; rfl
      have HN : Hid ((bs.take (k + 1)).foldl feed f = feed ((bs.take k).foldl feed f) bs[k]) := hnext
      clear hnext hc hcell hx
      unfold encB at hck
      go_wp2_with (go_at_call 229; refine (feed_any _ _ _ hl).mono ?_; rintro e w' ⟨rfl, rfl⟩)
      go_round
      case rel => exact ⟨k + 1, by omega, by go_num, by rw [HN.out]⟩
      case measure => simp [intOf]; omega
    · have hfin := flip_bits _ hl
      obtain rfl : k = bs.length := by omega
      rw [List.take_length] at hfin ⊢
      go_wp2
      go_ret
      exact ⟨rfl, rfl⟩

theorem sum1_any (v : Value) (bs : Bytes) (w : World) (hv : SlB (fun _ => False) w v bs) :
    Calls Tryz.prog 163 #[v] w fun e w' => e = .returned (.int .u32 (CW.sum bs : Nat)) ∧ w = w' := by
  have hm : Calls Tryz.prog 195 #[.int .u32 0, v] w fun e w' => e = .returned (.int .u32 (more 0 bs : Nat)) ∧ w = w' := more1_any 0 v bs w (by decide) hv
  unfold CW.sum
  go_enter Tryz.func163, Tryz.ntmps163
  go_wp2_with (go_at_call 195; refine hm.mono ?_; rintro e w' ⟨rfl, rfl⟩)
  go_ret
  exact ⟨rfl, rfl⟩

theorem little_any (x : Nat) (w : World) (hx : x < 4294967296) :
    Calls Tryz.prog 133 #[.int .u32 (x : Int)] w fun e w' => ∃ v, e = .returned v ∧ w'.ownsRow w.heap.size 5 1 v (le4 x).length ((le4 x).map encB) ∧ Below w.heap.size w w' := by
  go_enter Tryz.func133, Tryz.ntmps133
  go_wp2
  go_ret
  have h1 := u32_and_nat x 255 hx (by decide)
  have h2 := u32_and_nat (x / 256) 255 (by omega) (by decide)
  have h3 := u32_and_nat (x / 65536) 255 (by omega) (by decide)
  rw [nat_mask8] at h1 h2 h3
  refine ⟨_, rfl, ?_, (Below.refl _ _).alloc (Nat.le_refl _) _⟩
  have e1 : bits .and .u32 (x : Int) 255 % 256 = ((x % 256 : Nat) : Int) := by rw [show (255 : Int) = ((255 : Nat) : Int) from rfl, h1]; omega
  have e2 : bits .and .u32 ((x : Int) / 256) 255 % 256 = ((x / 256 % 256 : Nat) : Int) := by rw [show (255 : Int) = ((255 : Nat) : Int) from rfl, show (x : Int) / 256 = ((x / 256 : Nat) : Int) by omega, h2]; omega
  have e3 : bits .and .u32 ((x : Int) / 65536) 255 % 256 = ((x / 65536 % 256 : Nat) : Int) := by rw [show (255 : Int) = ((255 : Nat) : Int) from rfl, show (x : Int) / 65536 = ((x / 65536 : Nat) : Int) by omega, h3]; omega
  have e4 : (x : Int) / 16777216 = ((x / 16777216 % 256 : Nat) : Int) := by omega
  rw [e1, e2, e3, e4]
  have h := World.ownsRow_lit (e := 5) (size := 1) w ((le4 x).map encB).toArray 4 (Nat.le_refl w.heap.size) (by decide) rfl
  simp only [le4, List.map_cons, List.map_nil, encB_ofNat] at h ⊢
  exact h

theorem tyB : SlTy Tryz.prog 30 5 1 1 (.int .u8 0) := SlTy.mk' Tryz.underlying30 (by kernel_rfl) rfl (by decide)

set_option maxHeartbeats 400000 in
theorem seal1_any (v : Value) (bs : Bytes) (w : World) (hv : SlB (fun _ => False) w v bs) (hl : bs.length ≤ 70368744177664) :
    Calls Tryz.prog 132 #[v] w fun e w' => ∃ v', e = .returned v' ∧ SlB (fun k => k < w.heap.size) w' v' (sealB bs) ∧ Below w.heap.size w w' := by
  have h0 : (w.alloc (.cells #[] 5)).ownsRow w.heap.size 5 1 (.slice (some ⟨w.heap.size, 0, none⟩) 0 0) 0 [] := World.ownsRow_made w #[] 0 (Nat.le_refl _) (by decide) rfl
  have hb0 : Below w.heap.size w (w.alloc (.cells #[] 5)) := (Below.refl _ _).alloc (Nat.le_refl _) _
  have hv0 : SlB (fun _ => False) (w.alloc (.cells #[] 5)) v bs := hv.below hb0
  go_enter Tryz.func132, Tryz.ntmps132
  go_wp2_with (first
    | (at_builtin; refine wpList_app tyB rfl rfl rfl rfl h0 hv0 (by simp) (bytes_one _) (by unfold maxLen; omega) (by omega) hb0.size ?_; intro v1 w1 ho1 hg1; have hb1 := hb0.trans (below_grown h0 hg1 hb0.size); have hv1 := hv.below hb1; clear h0 hg1 hv0 hb0)
    | (go_at_call 163; refine (sum1_any _ _ _ hv1).mono ?_; rintro e w' ⟨rfl, rfl⟩)
    | (go_at_call 133; refine (little_any _ _ (sum_lt _)).mono ?_; rintro e w2 ⟨v2, rfl, hs2', hb2⟩; have hs2 := SlB.of_owns hs2'; have ho2 := owns_below ho1 hb2; have hb3 := hb1.trans (hb2.mono hb1.size); clear ho1 hb1 hb2 hv1)
    | (at_builtin; refine wpList_app tyB rfl rfl rfl rfl ho2 hs2 (by simp [le4]) (bytes_one _) (by unfold maxLen; simp [le4]; omega) (by simp [le4]; omega) hb3.size ?_; intro v1 w4 ho4 hg4; have hb4 := hb3.trans (below_grown ho2 hg4 hb3.size); clear ho2 hg4 hb3))
  go_ret
  refine ⟨_, rfl, ?_, hb4⟩
  have h := Row.of_owns ho4
  unfold SlB sealB
  rw [List.map_append, List.length_append]
  simpa [le4] using h

end Go.Proofs.YtepceidajmedeaaGreatDoor
