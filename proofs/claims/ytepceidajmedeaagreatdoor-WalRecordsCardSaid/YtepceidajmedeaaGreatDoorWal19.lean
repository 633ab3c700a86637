/- Lemmas for a law of this seat, part 19: contracts of the functions that it reaches, and the plain law. No condition but those of each lemma. -/
import Derived.Test.YtepceidajmedeaaGreatDoorWal18
import Derived.Lib.AppendZerosOnto

namespace Go.Proofs.YtepceidajmedeaaGreatDoor
open Go.RowKit CW

theorem i5 : (Tryz.prog.info? 5).map (fun i => (i.zero, i.size, i.bytes)) = some (some (.int .u8 0), 1, 1) := by kernel_rfl

/-- slices.Grow of no slice: room for n bytes. -/
theorem grow0_any (n : Nat) (w : World) (hn : n ≤ 70368744177664) :
    Calls Tryz.prog 162 #[.slice none 0 0, .int .i64 n] w fun e w' => ∃ v, e = .returned v ∧ w'.ownsRow w.heap.size 5 1 v 0 [] ∧ Below w.heap.size w w' := by
  have h0 : (0 : Int) ≤ (n : Int) := by omega
  by_cases hz : n = 0
  · subst hz
    go_enter Tryz.func162, Tryz.ntmps162
    go_wp2
    go_ret
    exact ⟨_, rfl, World.ownsRow_nil _ _ _ _, Below.refl _ _⟩
  · obtain ⟨i0, hi, hz0, hz1, hz2⟩ := info_parts i5
    have hpos : (0 : Int) < (n : Int) := by omega
    obtain ⟨G, C, hrz, hG1, hG2, hC⟩ : ∃ (G : Nat) (C : Array Value), (∀ ty, (Builtin.append_ #[30, 3] ty #[.slice none 0 0, .int .i64 (n : Int)]).run Tryz.prog w =
        .ok (.slice (some ⟨w.heap.size, 0, none⟩) n G) (w.drew.alloc (.cells C 5))) ∧ n ≤ G ∧ G ≤ maxLen ∧ C.size = G := by
      have hfit : Builtin.nextslicecap (0 + n) 0 * i0.bytes ≤ 281474976710656 := growslice_fits (by omega) (by rw [hz2]; omega)
      have h : ∀ ty, _ := fun ty => Lib.run_append_grow_zeros w 30 3 ty 5 i0 (.int .u8 0) .i64 .i64 Tryz.underlying30 Tryz.underlying3 hi hz0 none 0 0 [] (run_firstCells_none w.drew i0.size 0 0 0) n (by omega) (by omega) (by omega) (by omega) (by rw [hz2]; omega) hfit
      simp only [Nat.zero_add] at h
      exact ⟨_, _, h, grownCap_ge w n 0 _, grownCap_le_maxLen w n 0 _ (by unfold maxLen; omega), by
        have := grownCap_ge w n 0 5
        simp only [Array.size_append, size_zeroCells, List.size_toArray, List.length_nil, Value.cells]
        simp
        omega⟩
    clear hz0 hz1 hz2 hi
    have hown : (w.drew.alloc (.cells C 5)).ownsRow w.heap.size 5 1 (.slice (some ⟨w.heap.size, 0, none⟩) 0 G) 0 [] := World.ownsRow_made w.drew C G (Nat.le_refl _) hG2 (by rw [hC, Nat.mul_one])
    have HR := hrz
    have g2 : ¬ G = 0 := by omega
    go_enter Tryz.func162, Tryz.ntmps162
    go_wp2_with (at_builtin; refine wpList_app_run rfl rfl rfl rfl hrz ?_; clear hrz)
    go_ret
    refine ⟨_, rfl, hown, ?_⟩
    exact ((Below.refl w.heap.size w).drew).alloc (Nat.le_refl _) _

theorem flat_take (rs : List Bytes) (k : Nat) (h : k < rs.length) : (rs.take (k + 1)).flatten = (rs.take k).flatten ++ rs[k] := by
  rw [List.take_succ_eq_append_getElem h, List.flatten_append]
  simp

theorem flat_take_le (rs : List Bytes) (k : Nat) : (rs.take k).flatten.length ≤ rs.flatten.length := by
  conv => rhs; rw [← List.take_append_drop k rs, List.flatten_append, List.length_append]
  omega

set_option maxHeartbeats 400000 in
set_option maxRecDepth 100000 in
theorem concat_any (v : Value) (rs : List Bytes) (w : World) (hv : SlBB (fun _ => False) w v rs) (hl : rs.flatten.length ≤ 70368744177664) :
    Calls Tryz.prog 122 #[v] w fun e w' => ∃ v', e = .returned v' ∧ w'.ownsRow w.heap.size 5 1 v' rs.flatten.length (rs.flatten.map encB) ∧ Below w.heap.size w w' := by
  obtain ⟨a, cap, rfl, hn, hc, hnone, hcell⟩ := hv.open
  go_enter Tryz.func122, Tryz.ntmps122
  go_wp2
  go_loop [3, 11] (fun s i => ∃ k : Nat, k ≤ rs.length ∧ i = .int .i64 k ∧ s = .int .i64 ((rs.take k).flatten.length : Nat)) (fun _ i => rs.length - (intOf i).toNat)
  case atStart => exact ⟨0, by omega, rfl, rfl⟩
  case round =>
    obtain ⟨k, hk, rfl, rfl⟩ := hrel
    by_cases hlt : k < rs.length
    · obtain ⟨b, off, rfl, _, _, hce⟩ := hcell (by omega)
      obtain ⟨u, hu, hsu⟩ := hce k hlt
      obtain ⟨a', cap', rfl, _, _⟩ := hsu.shape
      have hf := flat_take rs k hlt
      have hfl := flat_take_le rs (k + 1)
      have hle : (rs.take (k + 1)).flatten.length = (rs.take k).flatten.length + rs[k].length := by rw [hf, List.length_append]
      have HLE : Hid ((rs.take (k + 1)).flatten.length = (rs.take k).flatten.length + rs[k].length) := hle
      generalize hA : (rs.take k).flatten.length = A at hle HLE
      have HA : Hid ((rs.take k).flatten.length = A) := hA
      have hB : A + rs[k].length ≤ 70368744177664 := by omega
      clear hcell hce hnone hsu hf hfl hle hA
      generalize hC : rs[k].length = C at *
      have HC : Hid (rs[k].length = C) := hC
      clear hC
      go_wp2
      go_round
      case rel => exact ⟨k + 1, by omega, by go_num, by rw [HLE.out]; go_num⟩
      case measure => simp [intOf]; omega
    · have hk' : k = rs.length := by omega
      subst hk'
      rw [List.take_length]
      obtain ⟨N, hN⟩ : ∃ N, N = rs.flatten.length := ⟨_, rfl⟩
      rw [← hN] at hl ⊢
      have HN : Hid (N = rs.flatten.length) := hN
      clear hN
      go_wp2_with (first | (go_at_call 162; refine (grow0_any _ _ hl).mono ?_; rintro e w1 ⟨v1, rfl, ho1, hb1⟩))
      go_loopw [6, 27] (fun s i wr => ∃ k : Nat, k ≤ rs.length ∧ i = .int .i64 k ∧ wr.ownsRow w.heap.size 5 1 s (rs.take k).flatten.length ((rs.take k).flatten.map encB) ∧ Below w.heap.size w wr) (fun _ i _ => rs.length - (intOf i).toNat)
      case atStart => exact ⟨0, by omega, rfl, ho1, hb1⟩
      case round =>
        obtain ⟨k, hk, rfl, hown, hb⟩ := hrel
        by_cases hlt : k < rs.length
        · obtain ⟨b, off, rfl, hbl, _, hce⟩ := hcell (by omega)
          obtain ⟨u, hu, hsu⟩ := hce k hlt
          have hu' : wr.cell? ⟨b, off + k, none⟩ = some u := (hb.cell (p := ⟨b, off + k, none⟩) hbl).trans hu
          have hs' : SlB (fun _ => False) wr u rs[k] := hsu.below hb
          have hf := flat_take rs k hlt
          have hfl := flat_take_le rs (k + 1)
          have hle : (rs.take (k + 1)).flatten.length = (rs.take k).flatten.length + rs[k].length := by rw [hf, List.length_append]
          have hB : (rs.take k).flatten.length + rs[k].length ≤ 70368744177664 := by rw [← hle]; have := HN.out; omega
          have HF : Hid ((rs.take (k + 1)).flatten = (rs.take k).flatten ++ rs[k]) := hf
          generalize hA : (rs.take k).flatten = A at hown hB HF
          have HA : Hid ((rs.take k).flatten = A) := hA
          clear hcell hce hnone hsu hf hfl hle hu hA
          go_wp2_with (at_builtin; refine wpList_app tyB rfl rfl rfl rfl hown hs' (by simp) (bytes_one _) (by unfold maxLen; omega) (by omega) hb.size ?_; intro v2 w2 ho2 hg2)
          go_roundw
          case rel => exact ⟨k + 1, by omega, by go_num, by rw [HF.out, List.length_append, List.map_append]; exact ho2, hb.trans (below_grown hown hg2 hb.size)⟩
          case measure => simp [intOf]; omega
        · have hk' : k = rs.length := by omega
          subst hk'
          rw [List.take_length] at hown
          go_wp2
          go_ret
          exact ⟨_, rfl, by rw [HN.out]; exact hown, hb⟩

set_option maxRecDepth 100000 in
theorem more_any (s : Nat) (v : Value) (bs : Bytes) (w : World) (hs : s < 4294967296) (hv : SlB (fun _ => False) w v bs) :
    Calls Tryz.prog 194 #[.int .u32 (s : Int), v] w fun e w' => e = .returned (.int .u32 (more s bs : Nat)) ∧ Below w.heap.size w w' := by
  obtain ⟨a, cap, rfl, hn, hcap, _, hcell⟩ := Row.open hv
  have hx := flip_bits s hs
  have hfl := flip_lt s
  unfold more
  generalize flip s = f at hx hfl
  go_enter Tryz.func194, Tryz.ntmps194
  go_wp2_with (first
    | (go_at_call 228; refine (table_any _).mono ?_; rintro e w1 ⟨rfl, hb1⟩; have hz1 := heap_alloc_new w1 (.cells Tryz.zeroCells263 263))
    | (refine wpList_store_whole rfl (ty := 263) (x := .tmp 5) (y := .tmp 9) rfl w1.heap.size 263 tabCells _ rfl rfl hz1 (by rw [size263]; rfl) (by kernel_rfl) tab_one ?_))
  have hh2 := setRow_heap _ _ _ tabCells _ _ hz1
  have hb2 : Below w.heap.size w ((w1.alloc (.cells Tryz.zeroCells263 263)).setRow w1.heap.size tabCells) := below_setRow (hb1.alloc hb1.size _) hb1.size _
  generalize w1.heap.size = g at *
  generalize (World.setRow _ g tabCells) = W2 at hh2 hb2 ⊢
  clear hz1 hb1
  go_loop [6, 14] (fun a i => ∃ k : Nat, k ≤ bs.length ∧ i = .int .i64 k ∧ a = .int .u32 (((bs.take k).foldl feed f : Nat) : Int)) (fun _ i => bs.length - (intOf i).toNat)
  case atStart => exact ⟨0, by omega, rfl, rfl⟩
  case round =>
    obtain ⟨k, hk, rfl, rfl⟩ := hrel
    have hl := fold_lt (bs.take k) hfl
    by_cases hlt : k < bs.length
    · obtain ⟨b, off, rfl, hbl, _, hc⟩ := hcell (by omega)
      have hck := (hb2.cell (p := ⟨b, off + k, none⟩) hbl).trans (hc k (encB bs[k]) (by simp [hlt]))
      have HN : Hid ((bs.take (k + 1)).foldl feed f = feed ((bs.take k).foldl feed f) bs[k]) := by
        show (bs.take (k + 1)).foldl feed f = _
        rw [List.take_succ_eq_append_getElem hlt, List.foldl_append]; rfl
      generalize (bs.take k).foldl feed f = r at hl HN
      generalize bs[k] = c at hck HN
      have hcc := c.toNat_lt
      have hft := feed_table r c
      have HF : Hid (feed r c = (r / 256) ^^^ halves 8 ((r % 256) ^^^ c.toNat)) := hft
      have hix : bits .xor .u8 ((r : Int) % 256) (c.toNat : Int) = (((r % 256) ^^^ c.toNat : Nat) : Int) := by
        have h := u8_xor_nat (r % 256) c.toNat (by omega) (by omega)
        rwa [Int.natCast_emod] at h
      have hxl : (r % 256) ^^^ c.toNat < 256 := xor_lt256 (by omega) (by omega)
      generalize (r % 256) ^^^ c.toNat = x at hix hxl HF
      have htab : W2.cell? ⟨g, x, none⟩ = some (.int .u32 (halves 8 x : Nat)) := (Go.cell_of_row W2 g x tabCells _ _ hh2).trans (tab_at x hxl)
      have hh8 := halves_lt 8 (show x < 4294967296 by omega)
      have hxo : bits .xor .u32 ((r : Int) / 256) ((halves 8 x : Nat) : Int) = (((r / 256) ^^^ halves 8 x : Nat) : Int) := by
        have h := u32_xor_nat (r / 256) (halves 8 x) (by omega) hh8
        rwa [Int.natCast_ediv] at h
      generalize halves 8 x = y at htab hxo HF
      unfold encB at hck
      clear hc hcell hx hft hh8 hh2
      go_wp2
      go_round
      case rel => exact ⟨k + 1, by omega, by go_num, by rw [HN.out, HF.out]⟩
      case measure => simp [intOf]; omega
    · have hfin := flip_bits _ hl
      obtain rfl : k = bs.length := by omega
      rw [List.take_length] at hfin ⊢
      go_wp2
      go_ret
      exact ⟨rfl, hb2⟩

end Go.Proofs.YtepceidajmedeaaGreatDoor

namespace Go.Proofs.YtepceidajmedeaaGreatDoor
open Go.RowKit CW

theorem tyBB : SlTy Tryz.prog 23 30 1 24 (.slice none 0 0) := SlTy.mk' Tryz.underlying23 (by kernel_rfl) rfl (by decide)

theorem sum_any (v : Value) (rs : List Bytes) (w : World) (hv : SlBB (fun _ => False) w v rs) (hl : rs.flatten.length ≤ 70368744177664) :
    Calls Tryz.prog 161 #[v] w fun e w' => e = .returned (.int .u32 (CW.sum rs.flatten : Nat)) ∧ Below w.heap.size w w' := by
  unfold CW.sum
  have hm : ∀ u w1, SlB (fun _ => False) w1 u rs.flatten → Calls Tryz.prog 194 #[.int .u32 0, u] w1 fun e w' => e = .returned (.int .u32 (more 0 rs.flatten : Nat)) ∧ Below w1.heap.size w1 w' := fun u w1 h => more_any 0 u _ w1 (by decide) h
  generalize more 0 rs.flatten = m at hm ⊢
  go_enter Tryz.func161, Tryz.ntmps161
  go_wp2_with (first
    | (go_at_call 122; refine (concat_any _ _ _ hv hl).mono ?_; rintro e w1 ⟨v1, rfl, ho1, hb1⟩; have hs1 := SlB.any (SlB.of_owns ho1))
    | (go_at_call 194; refine (hm _ _ hs1).mono ?_; rintro e w2 ⟨rfl, hb2⟩))
  go_ret
  exact ⟨rfl, hb1.trans (hb2.mono hb1.size)⟩

set_option maxHeartbeats 400000 in
theorem seal_any (v : Value) (bs : Bytes) (w : World) (hv : SlB (fun _ => False) w v bs) (hl : bs.length ≤ 70368744177660) :
    Calls Tryz.prog 121 #[v] w fun e w' => ∃ v', e = .returned v' ∧ w'.ownsRow w.heap.size 5 1 v' (sealB bs).length ((sealB bs).map encB) ∧ Below w.heap.size w w' := by
  obtain ⟨a, cap, rfl, hn, hcap⟩ := hv.shape
  have hb0 : Below w.heap.size w (w.alloc (.cells #[.slice a bs.length cap] 30)) := (Below.refl _ _).alloc (Nat.le_refl _) _
  have hbb : SlBB (fun _ => False) (w.alloc (.cells #[.slice a bs.length cap] 30)) (.slice (some ⟨w.heap.size, 0, none⟩) 1 1) [bs] := SlBB.lit1 (Nat.le_refl _) hv (fun _ h => h.elim)
  have hs : Calls Tryz.prog 161 #[.slice (some ⟨w.heap.size, 0, none⟩) 1 1] (w.alloc (.cells #[.slice a bs.length cap] 30)) fun e w' => e = .returned (.int .u32 (CW.sum bs : Nat)) ∧ Below (w.heap.size + 1) (w.alloc (.cells #[.slice a bs.length cap] 30)) w' := by
    have h := sum_any _ _ _ hbb (by simp; omega)
    simpa using h
  have hx := sum_lt bs
  have HS : Hid (sealB bs = bs ++ le4 (CW.sum bs)) := rfl
  generalize CW.sum bs = x at hs hx HS
  clear hbb
  go_enter Tryz.func121, Tryz.ntmps121
  have hlit : ∀ w1 : World, SlB (fun k => k < w1.heap.size) (w1.alloc (.cells #[.int .u8 ((x : Int) % 256), .int .u8 ((x : Int) / 256 % 256), .int .u8 ((x : Int) / 65536 % 256), .int .u8 ((x : Int) / 16777216)] 5)) (.slice (some ⟨w1.heap.size, 0, none⟩) 4 4) (le4 x) :=
    fun w1 => Row.lit (size := 1) (Nat.le_refl _) (by decide) rfl (le4_cells x hx)
  go_wp2_with (first
    | (go_at_call 161; refine hs.mono ?_; rintro e w1 ⟨rfl, hb1⟩; have hb2 : Below w.heap.size w w1 := hb0.trans (hb1.mono (by omega)); clear hb1 hb0)
    | (at_builtin; refine wpList_app_full tyB rfl rfl rfl rfl ((hv.below (hb2.alloc hb2.size _)).full) (by simp) (SlB.any (hlit w1)) (by simp [le4]) (by simp [le4]) (by unfold maxLen; simp [le4]; omega) (by simp [le4]; omega) (bytes_one _) ?_; intro v2 w2 ho2 hg2))
  go_ret
  have hb3 : Below w.heap.size w w2 := (hb2.alloc hb2.size _).grown hg2 (by simp; have := hb2.size; omega) (fun k hk => by cases hk)
  refine ⟨_, rfl, ?_, hb3⟩
  rw [HS.out, List.map_append, List.length_append]
  refine owns_base ho2 ?_
  have := hb2.size
  simp; omega

set_option maxHeartbeats 400000 in
theorem equal_any (v v' : Value) (bs bs' : Bytes) (w : World) (hv : SlB (fun _ => False) w v bs) (hv' : SlB (fun _ => False) w v' bs') :
    Calls Tryz.prog 101 #[v, v'] w fun e w' => e = .returned (.bool (bs == bs')) ∧ Below w.heap.size w w' := by
  obtain ⟨a, cap, rfl, hn, hcap, _, hcell⟩ := Row.open hv
  obtain ⟨a', cap', rfl, hn', hcap', _, hcell'⟩ := Row.open hv'
  by_cases hl : bs.length = bs'.length
  · have hq : (((bs.length : Nat) : Int) != ((bs'.length : Nat) : Int)) = false := by simp [hl]
    have HL : Hid (bs.length = bs'.length) := hl
    clear hl
    go_enter Tryz.func101, Tryz.ntmps101
    go_wp2
    go_loopw [13] (fun i wr => ∃ k : Nat, k ≤ bs.length ∧ i = .int .i64 k ∧ bs.take k = bs'.take k ∧ Below w.heap.size w wr) (fun i _ => bs.length - (intOf i).toNat)
    case atStart => exact ⟨0, by omega, rfl, rfl, Below.refl _ _⟩
    case round =>
      obtain ⟨k, hk, rfl, htk, hb⟩ := hrel
      by_cases hlt : k < bs.length
      · have hlt' : k < bs'.length := by rw [← HL.out]; exact hlt
        obtain ⟨b, off, rfl, hbl, _, hc⟩ := hcell (by omega)
        obtain ⟨b', off', rfl, hbl', _, hc'⟩ := hcell' (by omega)
        have h1 := (hb.cell (p := ⟨b, off + k, none⟩) hbl).trans (hc k (encB bs[k]) (by simp [hlt]))
        have h2 := (hb.cell (p := ⟨b', off' + k, none⟩) hbl').trans (hc' k (encB bs'[k]) (by simp [hlt']))
        have HT : Hid (bs.take (k + 1) = bs.take k ++ [bs[k]]) := List.take_succ_eq_append_getElem hlt
        have HT' : Hid (bs'.take (k + 1) = bs'.take k ++ [bs'[k]]) := List.take_succ_eq_append_getElem hlt'
        have HK : Hid (bs.take k = bs'.take k) := htk
        have HX : Hid (bs[k]? = some bs[k]) := by show bs[k]? = _; simp [hlt]
        have HX' : Hid (bs'[k]? = some bs'[k]) := by show bs'[k]? = _; simp [hlt']
        generalize bs[k] = x at *
        generalize bs'[k] = x' at *
        unfold encB at h1 h2
        clear hc hc' hcell hcell' htk
        have i1 : (k : Int) < (bs.length : Int) := by omega
        have i2 : (k : Int) < (bs'.length : Int) := by omega
        go_wp2
        go_quiet (fail)
        go_wp2
        · have hx : ((x.toNat : Int) != (x'.toNat : Int)) = true := by assumption
          go_ret
          have hne : ¬ bs = bs' := fun e => by
            subst e
            have := HX.out.symm.trans HX'.out
            simp at this
            subst this
            simp at hx
          exact ⟨by rw [beq_eq_false_iff_ne.2 hne]; rfl, below_drewN' hb _⟩
        · have hx : ((x.toNat : Int) != (x'.toNat : Int)) = false := by assumption
          have hxx : x = x' := by
            simp at hx
            exact UInt8.toNat_inj.1 (by omega)
          go_roundw
          case rel => exact ⟨k + 1, by omega, by go_num, by rw [HT.out, HT'.out, HK.out, hxx], below_drewN' hb _⟩
          case measure => simp [intOf]; omega
      · have he : bs = bs' := by
          have e1 := List.take_of_length_le (l := bs) (i := k) (by omega)
          have e2 := List.take_of_length_le (l := bs') (i := k) (by rw [← HL.out]; omega)
          rw [← e1, ← e2]; exact htk
        have HE : Hid ((bs == bs') = true) := by show (bs == bs') = true; simpa using he
        clear he htk
        go_wp2
        go_ret
        exact ⟨by rw [HE.out] <;> rfl, hb⟩
  · have hq : (((bs.length : Nat) : Int) != ((bs'.length : Nat) : Int)) = true := by simp; omega
    have HE : Hid ((bs == bs') = false) := by show (bs == bs') = false; exact beq_eq_false_iff_ne.2 (fun e => hl (by rw [e]))
    clear hl
    go_enter Tryz.func101, Tryz.ntmps101
    go_wp2
    go_ret
    exact ⟨by rw [HE.out] <;> rfl, Below.refl _ _⟩

/-- slices.Clone: the same bytes in memory of the call's own. -/
theorem clone_any (v : Value) (bs : Bytes) (w : World) (hv : SlB (fun _ => False) w v bs) (hl : bs.length ≤ 70368744177660) :
    Calls Tryz.prog 118 #[v] w fun e w' => ∃ v', e = .returned v' ∧ w'.ownsRow w.heap.size 5 1 v' bs.length (bs.map encB) ∧ Below w.heap.size w w' := by
  have qT : ∀ (w : World) (a : Option Addr) (n c n' c' : Nat), (binOp .eql 30 (.slice a n c) (.slice none n' c')).run Tryz.prog w = .ok (.bool a.isNone) w := fun w a n c n' c' => Lib.run_eql_slice_nil w _ _ a n c n' c' Tryz.underlying30
  obtain ⟨aa, cap, rfl, hn, hc⟩ := hv.shape
  cases aa with
  | none =>
    obtain ⟨_, _, e, _, _, hnn, _⟩ := Row.open hv
    cases e
    obtain ⟨hz, rfl⟩ := hnn rfl
    have hq : bs = [] := List.length_eq_zero_iff.1 hz
    subst hq
    go_enter Tryz.func118, Tryz.ntmps118
    go_wp2
    go_ret
    refine ⟨_, rfl, ?_, Below.refl _ _⟩
    exact World.ownsRow_nil _ _ _ _
  | some a1 =>
    have h0 : (w.alloc (.cells #[] 5)).ownsRow w.heap.size 5 1 (.slice (some ⟨w.heap.size, 0, none⟩) 0 0) 0 [] := World.ownsRow_made w #[] 0 (Nat.le_refl _) (by decide) rfl
    have hb0 : Below w.heap.size w (w.alloc (.cells #[] 5)) := (Below.refl _ _).alloc (Nat.le_refl _) _
    have hv0 : SlB (fun _ => False) (w.alloc (.cells #[] 5)) (.slice (some a1) bs.length cap) bs := SlB.below hv hb0
    go_enter Tryz.func118, Tryz.ntmps118
    go_wp2_with (at_builtin; refine wpList_app tyB rfl rfl rfl rfl h0 hv0 (by simp) (bytes_one _) (by unfold maxLen; omega) (by omega) hb0.size ?_; intro v1 w1 ho1 hg1)
    go_ret
    refine ⟨_, rfl, ?_, hb0.trans (below_grown h0 hg1 hb0.size)⟩
    simpa using ho1

theorem open_any (v : Value) (bs : Bytes) (w : World) (hv : SlB (fun _ => False) w v bs) (hl : bs.length ≤ 70368744177660) :
    Calls Tryz.prog 197 #[v] w fun e w' => ∃ v' ok, e = .returned (.tuple #[v', .bool ok]) ∧ Below w.heap.size w w' ∧
      (openB bs = none ∧ v' = .slice none 0 0 ∧ ok = false ∨ ∃ x, openB bs = some x ∧ ok = true ∧ SlB (fun k => k < w.heap.size) w' v' x) := by
  by_cases h4 : bs.length < 4
  · obtain ⟨a, cap, rfl, hn, hcap, _, hcell⟩ := Row.open hv
    have hno : openB bs = none := by unfold openB; rw [if_pos h4]
    have hd : decide ((bs.length : Int) - 4 < 0) = true := by simp; omega
    clear hcell hv
    go_enter Tryz.func197, Tryz.ntmps197
    go_wp2
    go_ret2
    exact ⟨_, _, rfl, Below.refl _ _, .inl ⟨hno, rfl, rfl⟩⟩
  · obtain ⟨b, off, cap, rfl, hn, hcap, hb, hm, hcell⟩ := hv.open (by omega)
    obtain ⟨n, hnn⟩ : ∃ n, n + 4 = bs.length := ⟨bs.length - 4, by omega⟩
    have hL : Hid (n + 4 = bs.length) := hnn
    have hd : decide ((n : Int) < 0) = false := by simp
    have hsub : (bs.length : Int) - 4 = (n : Int) := by omega
    have hop : openB bs = if sealB (bs.take n) = bs then some (bs.take n) else none := by
      unfold openB
      rw [if_neg h4, show bs.length - 4 = n by omega]
      have e : (le4 (CW.sum (bs.take n)) = bs.drop n) ↔ (sealB (bs.take n) = bs) := by
        unfold sealB
        constructor
        · intro h; rw [h, List.take_append_drop]
        · intro h
          have h2 := congrArg (List.drop n) h
          rw [List.drop_append_of_le_length (by rw [List.length_take]; omega), List.drop_eq_nil_of_le (by rw [List.length_take]; omega)] at h2
          exact h2
      by_cases h : le4 (CW.sum (bs.take n)) = bs.drop n
      · rw [if_pos h, if_pos (e.1 h)]
      · rw [if_neg h, if_neg (fun x => h (e.2 x))]
    have HO : Hid (openB bs = if sealB (bs.take n) = bs then some (bs.take n) else none) := hop
    have htk := hv.take n (by omega)
    have hlt : (bs.take n).length ≤ 70368744177660 := by rw [List.length_take]; omega
    have g2 : (n : Int) ≤ (cap : Int) := by omega
    clear hcell hnn h4 hop
    go_enter Tryz.func197, Tryz.ntmps197
    go_wp2_with (first
      | (go_at_call 121; refine (seal_any _ _ _ htk hlt).mono ?_; rintro e w1 ⟨v1, rfl, ho1, hb1⟩; have hs1 := SlB.any (SlB.of_owns ho1))
      | (go_at_call 101; refine (equal_any _ _ _ _ _ hs1 (hv.below hb1)).mono ?_; rintro e w2 ⟨rfl, hb2⟩; have hb3 := hb1.trans (hb2.mono hb1.size); clear hb2)
      | (go_at_call 118; refine (clone_any _ _ _ (htk.below hb3) hlt).mono ?_; rintro e w4 ⟨v4, rfl, ho4, hb4⟩; have hb5 := hb3.trans (hb4.mono hb3.size)))
    · have h : (!sealB (bs.take n) == bs) = true := by assumption
      have hne : ¬ sealB (bs.take n) = bs := by simpa using h
      go_ret2
      exact ⟨_, _, rfl, hb3, .inl ⟨by rw [HO.out, if_neg hne], rfl, rfl⟩⟩
    · have h : (!sealB (bs.take n) == bs) = false := by assumption
      have he : sealB (bs.take n) = bs := by simpa using h
      go_ret2
      exact ⟨_, _, rfl, hb5, .inr ⟨_, by rw [HO.out, if_pos he], rfl, (SlB.of_owns ho4).mono (fun k _ hk => Nat.lt_of_lt_of_le hk hb3.size)⟩⟩

end Go.Proofs.YtepceidajmedeaaGreatDoor
