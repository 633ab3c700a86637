/- Lemmas for a law of this seat, part 21: contracts of the functions that it reaches, and the plain law. No condition but those of each lemma. -/
import Derived.Test.YtepceidajmedeaaGreatDoorWal19
import Derived.Test.YtepceidajmedeaaGreatDoorWal5
import Derived.Deep.WholeRow

namespace Go.Proofs.YtepceidajmedeaaGreatDoor
open Go.RowKit CW

theorem i64_or_nat (a b : Nat) (ha : a < 9223372036854775808) (hb : b < 9223372036854775808) : bits .or .i64 (a : Int) (b : Int) = ((a ||| b : Nat) : Int) := by
  have hx : a ||| b < 2 ^ 63 := Nat.or_lt_two_pow (by omega) (by omega)
  show IntKind.i64.wrap ((BitVec.ofInt 64 (a : Int) ||| BitVec.ofInt 64 (b : Int)).toNat : Int) = _
  rw [BitVec.toNat_or, ofInt_u64 a (by omega), ofInt_u64 b (by omega), IntKind.wrap_i64]
  omega

theorem i64_or_join (x y i : Nat) (hx : x < 2 ^ i) (hi : i ≤ 32) (hy : y < 256) : bits .or .i64 (x : Int) ((y * 2 ^ i : Nat) : Int) = ((x + y * 2 ^ i : Nat) : Int) := by
  have h1 : 2 ^ i ≤ 2 ^ 32 := Nat.pow_le_pow_right (by decide) hi
  have h2 : y * 2 ^ i ≤ 255 * 2 ^ 32 := Nat.mul_le_mul (by omega) h1
  rw [i64_or_nat _ _ (by omega) (by omega), Nat.or_comm, nat_join i _ _ (Nat.mul_mod_left _ _) hx, Nat.add_comm]

theorem little_f (n : Nat) (w : World) (hn : n ≤ 1048576) :
    Calls Tryz.prog 120 #[.int .i64 n] w fun e w' => e = .returned (.agg ((le4 n).map encB).toArray) ∧ Below w.heap.size w w' := by
  have h0 : (0 : Int) ≤ (n : Int) := by omega
  have h1 : (n : Int) ≤ 1048576 := by omega
  go_enter Tryz.func120, Tryz.ntmps120
  go_wp2
  have e1 : (n : Int) % 256 = ((n % 256 : Nat) : Int) := by omega
  have e2 : (n : Int) / 256 % 256 = ((n / 256 % 256 : Nat) : Int) := by omega
  have e3 : (n : Int) / 65536 = ((n / 65536 % 256 : Nat) : Int) := by omega
  have e4 : (n : Int) / 16777216 = ((n / 16777216 % 256 : Nat) : Int) := by omega
  rw [e1, e2, e3, e4]
  refine bodyPost_ret (v := .agg ((le4 n).map encB).toArray) ?_ rfl ⟨rfl, (Below.refl _ _).alloc (Nat.le_refl _) _⟩
  rw [results_cell_row (fr := (0, 0)) Tryz.results120 _ _ w.heap.size 165 _ _ rfl (heap_alloc_new w _) Tryz.underlying165 rfl (by kernel_rfl)]
  simp only [le4, List.map_cons, List.map_nil, encB_ofNat]

set_option maxRecDepth 100000 in
theorem number_f (a b c d : UInt8) (w : World) :
    Calls Tryz.prog 196 #[.agg #[encB a, encB b, encB c, encB d]] w fun e w' => e = .returned (.int .i64 (a.toNat + 256 * b.toNat + 65536 * c.toNat + 16777216 * d.toNat : Nat)) ∧ Below w.heap.size w w' := by
  unfold encB
  have ha := a.toNat_lt
  have hb := b.toNat_lt
  have hc := c.toNat_lt
  have hd := d.toNat_lt
  generalize a.toNat = a at *
  generalize b.toNat = b at *
  generalize c.toNat = c at *
  generalize d.toNat = d at *
  have i0 : ∀ w, (Instr.index 165 (.agg #[.int .u8 (a : Int), .int .u8 (b : Int), .int .u8 (c : Int), .int .u8 (d : Int)]) (.int .i64 0)).run Tryz.prog w = .ok (.int .u8 (a : Int)) w := fun _ => by kernel_rfl
  have i1 : ∀ w, (Instr.index 165 (.agg #[.int .u8 (a : Int), .int .u8 (b : Int), .int .u8 (c : Int), .int .u8 (d : Int)]) (.int .i64 1)).run Tryz.prog w = .ok (.int .u8 (b : Int)) w := fun _ => by kernel_rfl
  have i2 : ∀ w, (Instr.index 165 (.agg #[.int .u8 (a : Int), .int .u8 (b : Int), .int .u8 (c : Int), .int .u8 (d : Int)]) (.int .i64 2)).run Tryz.prog w = .ok (.int .u8 (c : Int)) w := fun _ => by kernel_rfl
  have i3 : ∀ w, (Instr.index 165 (.agg #[.int .u8 (a : Int), .int .u8 (b : Int), .int .u8 (c : Int), .int .u8 (d : Int)]) (.int .i64 3)).run Tryz.prog w = .ok (.int .u8 (d : Int)) w := fun _ => by kernel_rfl
  go_enter Tryz.func196, Tryz.ntmps196
  go_wp2
  refine wp_loop_rounds 5 ?_
  rw [rounds_succ]
  go_wp2
  rw [rounds_succ]
  go_wp2
  rw [rounds_succ]
  go_wp2
  rw [rounds_succ]
  go_wp2
  rw [rounds_succ]
  go_wp2
  have hab : a < 2 ^ 8 := ha
  have o1 : bits .or .i64 0 (a : Int) = (a : Int) := by
    have h := i64_or_nat 0 a (by decide) (by omega)
    rwa [Nat.zero_or] at h
  have o2 : bits .or .i64 (a : Int) ((b : Int) * 256) = ((a + b * 256 : Nat) : Int) := i64_or_join a b 8 (by omega) (by decide) (by omega)
  have o3 : bits .or .i64 ((a + b * 256 : Nat) : Int) ((c : Int) * 65536) = ((a + b * 256 + c * 65536 : Nat) : Int) := i64_or_join _ c 16 (by omega) (by decide) (by omega)
  have o4 : bits .or .i64 ((a + b * 256 + c * 65536 : Nat) : Int) ((d : Int) * 16777216) = ((a + b * 256 + c * 65536 + d * 16777216 : Nat) : Int) := i64_or_join _ d 24 (by omega) (by decide) (by omega)
  rw [o1, o2, o3, o4]
  go_ret
  exact ⟨ret_int (by omega), (Below.refl _ _).alloc (Nat.le_refl _) _⟩

set_option maxHeartbeats 400000 in
theorem make_any (v : Value) (r : Bytes) (w : World) (hv : SlB (fun _ => False) w v r) (hl : r.length ≤ 9223372036854775807) :
    Calls Tryz.prog 62 #[v] w fun e w' => ∃ v' ok, e = .returned (.tuple #[v', .bool ok]) ∧ Below w.heap.size w w' ∧
      (makeB r = none ∧ v' = .slice none 0 0 ∧ ok = false ∨ makeB r = some (frameB r) ∧ ok = true ∧ w'.ownsRow w.heap.size 5 1 v' (frameB r).length ((frameB r).map encB)) := by
  obtain ⟨a, cap, rfl, hn, hcap⟩ := hv.shape
  by_cases hlong : 1048576 < r.length
  · have hm : makeB r = none := by unfold makeB; rw [if_neg (by omega)]
    have hd : (1048576 : Int) < (r.length : Int) := by omega
    go_enter Tryz.func62, Tryz.ntmps62
    go_wp2
    go_ret2
    exact ⟨_, _, rfl, Below.refl _ _, .inl ⟨hm, rfl, rfl⟩⟩
  · have hm : makeB r = some (frameB r) := by unfold makeB; rw [if_pos (by omega)]
    have hd : ¬ (1048576 : Int) < (r.length : Int) := by omega
    have hd' : r.length ≤ 1048576 := by omega
    clear hlong
    go_enter Tryz.func62, Tryz.ntmps62
    go_wp2_with (first
      | (go_at_call 120; refine (little_f _ _ hd').mono ?_; rintro e w1 ⟨rfl, hb1⟩)
      | (refine wpList_store_whole rfl (ty := 165) (x := .tmp 4) (y := .tmp 10) rfl w1.heap.size 165 ((le4 r.length).map encB).toArray _ rfl rfl (heap_alloc_new w1 _) rfl (by kernel_rfl) (by simpa using bytes_one (le4 r.length)) ?_; rw [World.setRow_alloc_new]))
    have hb2 : Below w.heap.size w (w1.alloc (.cells ((le4 r.length).map encB).toArray 165)) := hb1.alloc hb1.size _
    have hs2 : SlB (fun _ => False) (w1.alloc (.cells ((le4 r.length).map encB).toArray 165)) (.slice (some ⟨w1.heap.size, 0, none⟩) 4 4) (le4 r.length) := SlB.any (Row.lit (size := 1) (Nat.le_refl _) (by decide) rfl rfl)
    have hbb := SlBB.lit2 (e := 30) (Nat.zero_le _) hs2 (hv.below hb2) (fun _ h => h.elim)
    rw [World.size_alloc] at hbb
    have hb3 : Below w.heap.size w ((w1.alloc (.cells ((le4 r.length).map encB).toArray 165)).alloc (.cells #[.slice (some ⟨w1.heap.size, 0, none⟩) 4 4, .slice a r.length cap] 30)) := hb2.alloc hb2.size _
    have hflen : (List.flatten [le4 r.length, r]).length ≤ 70368744177660 := by simp [le4]; omega
    have hflat : List.flatten [le4 r.length, r] = le4 r.length ++ r := by simp
    have HFR : Hid (frameB r = sealB (List.flatten [le4 r.length, r])) := by show frameB r = _; rw [hflat]; rfl
    have hcc := concat_any _ _ _ hbb (by omega)
    clear hflat hs2 hb2 hbb
    generalize List.flatten [le4 r.length, r] = F at hflen HFR hcc
    refine hcc.mono ?_
    rintro e w4 ⟨v4, rfl, ho4, hb4⟩
    have hs4 := SlB.any (SlB.of_owns ho4)
    have hb5 := hb3.trans (hb4.mono hb3.size)
    clear hb3 hb4 hcc
    go_wp2_with (first
      | (go_at_call 121; refine (seal_any _ _ _ hs4 hflen).mono ?_; rintro e w6 ⟨v6, rfl, ho6, hb6⟩; have hb7 := hb5.trans (hb6.mono hb5.size)))
    go_ret2
    refine ⟨_, _, rfl, hb7, .inr ⟨hm, rfl, ?_⟩⟩
    rw [HFR.out]
    exact owns_base ho6 hb5.size

theorem number_nat (a b c d : Nat) (ha : a < 256) (hb : b < 256) (hc : c < 256) (hd : d < 256) (w : World) :
    Calls Tryz.prog 196 #[.agg #[.int .u8 (a : Int), .int .u8 (b : Int), .int .u8 (c : Int), .int .u8 (d : Int)]] w fun e w' => e = .returned (.int .i64 (a + 256 * b + 65536 * c + 16777216 * d : Nat)) ∧ Below w.heap.size w w' := by
  have h := number_f (UInt8.ofNat a) (UInt8.ofNat b) (UInt8.ofNat c) (UInt8.ofNat d) w
  simp only [encB_ofNat, UInt8.toNat_ofNat'] at h
  rw [Nat.mod_eq_of_lt (a := a) (b := 256) ha, Nat.mod_eq_of_lt (a := b) (b := 256) hb, Nat.mod_eq_of_lt (a := c) (b := 256) hc, Nat.mod_eq_of_lt (a := d) (b := 256) hd] at h
  exact h

set_option maxHeartbeats 400000 in
set_option maxRecDepth 100000 in
theorem next_any (v : Value) (bs : Bytes) (w : World) (hv : SlB (fun _ => False) w v bs) (hl : bs.length ≤ 70368744177660) :
    Calls Tryz.prog 165 #[v] w fun e w' => ∃ v' n, e = .returned (.tuple #[v', .int .i64 (n : Nat)]) ∧ Below w.heap.size w w' ∧
      (nextB bs = none ∧ v' = .slice none 0 0 ∧ n = 0 ∨ ∃ x, nextB bs = some (x, n) ∧ SlB (fun k => k < w.heap.size) w' v' x) := by
  obtain ⟨a, cap, rfl, hn, hcap⟩ := hv.shape
  by_cases h8 : bs.length < 8
  · have hno : nextB bs = none := by unfold nextB; rw [if_pos h8]
    have hd : (bs.length : Int) < 8 := by omega
    go_enter Tryz.func165, Tryz.ntmps165
    go_wp2
    go_ret2
    exact ⟨_, 0, rfl, Below.refl _ _, .inl ⟨hno, rfl, rfl⟩⟩
  · obtain ⟨b, off, cap', h, _, _, hb, _, hcell⟩ := hv.open (by omega)
    cases h
    have c0 := hcell 0 (by omega)
    have c1 := hcell 1 (by omega)
    have c2 := hcell 2 (by omega)
    have c3 := hcell 3 (by omega)
    have hnum : num4 bs = bs[0].toNat + 256 * bs[1].toNat + 65536 * bs[2].toNat + 16777216 * bs[3].toNat := by
      unfold num4
      simp [List.getD, show 0 < bs.length by omega, show 1 < bs.length by omega, show 2 < bs.length by omega, show 3 < bs.length by omega]
    have l0 := bs[0].toNat_lt
    have l1 := bs[1].toNat_lt
    have l2 := bs[2].toNat_lt
    have l3 := bs[3].toNat_lt
    have HN : Hid (num4 bs = bs[0].toNat + 256 * bs[1].toNat + 65536 * bs[2].toNat + 16777216 * bs[3].toNat) := hnum
    generalize bs[0].toNat = b0 at *
    generalize bs[1].toNat = b1 at *
    generalize bs[2].toNat = b2 at *
    generalize bs[3].toNat = b3 at *
    rw [Nat.add_zero] at c0
    have hcn := number_nat b0 b1 b2 b3 (by omega) (by omega) (by omega) (by omega)
    rw [← hnum] at hcn
    clear hnum hcell
    have hat : ∀ W, (Instr.arrayAt 165 (.slice (some ⟨b, off, none⟩) bs.length cap)).run Tryz.prog W = .ok (.pointer (some ⟨b, off, none⟩)) W := fun W => by
      have h4 : ¬ bs.length < 4 := by omega
      simp [Instr.arrayAt, run_underlying Tryz.underlying165, h4]
    have hnb : nextB bs = if 1048576 < num4 bs ∨ bs.length < num4 bs + 8 then none else (openB (bs.take (num4 bs + 8))).map (fun x => (x.drop 4, num4 bs + 8)) := by
      rw [nextB, if_neg h8]
    have HX : Hid (nextB bs = if 1048576 < num4 bs ∨ bs.length < num4 bs + 8 then none else (openB (bs.take (num4 bs + 8))).map (fun x => (x.drop 4, num4 bs + 8))) := hnb
    clear hnb HN
    generalize num4 bs = N at hcn HX
    have hd : ¬ (bs.length : Int) < 8 := by omega
    have hN0 : (0 : Int) ≤ (N : Int) := by omega
    by_cases hA : 1048576 < N
    · have hA' : (1048576 : Int) < (N : Int) := by omega
      go_enter Tryz.func165, Tryz.ntmps165
      go_wp2_with (first
        | (go_at_call 196; refine (hcn _).mono ?_; rintro e w1 ⟨rfl, hb1⟩))
      go_ret2
      exact ⟨_, 0, rfl, hb1, .inl ⟨by rw [HX.out, if_pos (.inl hA)], rfl, rfl⟩⟩
    · have hA' : ¬ (1048576 : Int) < (N : Int) := by omega
      by_cases hB : bs.length < N + 8
      · have hB' : (bs.length : Int) < (N : Int) + 8 := by omega
        go_enter Tryz.func165, Tryz.ntmps165
        go_wp2_with (first
          | (go_at_call 196; refine (hcn _).mono ?_; rintro e w1 ⟨rfl, hb1⟩))
        go_ret2
        exact ⟨_, 0, rfl, hb1, .inl ⟨by rw [HX.out, if_pos (.inr hB)], rfl, rfl⟩⟩
      · have hB' : ¬ (bs.length : Int) < (N : Int) + 8 := by omega
        have HO : Hid (nextB bs = (openB (bs.take (N + 8))).map (fun x => (x.drop 4, N + 8))) := by
          show nextB bs = _
          rw [HX.out, if_neg (by omega)]
        have htk := hv.take (N + 8) (by omega)
        have hlk : (bs.take (N + 8)).length ≤ 70368744177660 := by rw [List.length_take]; omega
        have hlk' : (bs.take (N + 8)).length = N + 8 := by rw [List.length_take]; omega
        have HLK : Hid ((bs.take (N + 8)).length = N + 8) := hlk'
        have g1 : ((N + 8 : Nat) : Int) ≤ (cap : Int) := by omega
        have g2 : ((N : Int) + 8).toNat = N + 8 := by omega
        clear hlk' HX hA hB
        generalize bs.take (N + 8) = T at *
        go_enter Tryz.func165, Tryz.ntmps165
        go_wp2_with (first
          | (go_at_call 196; refine (hcn _).mono ?_; rintro e w1 ⟨rfl, hb1⟩)
          | (go_at_call 197; refine (open_any _ T _ (htk.below hb1) hlk).mono ?_; rintro e w2 ⟨v2, ok, rfl, hb2, hres⟩; have hb3 := hb1.trans (hb2.mono hb1.size); clear hb2; rcases hres with ⟨ho, rfl, rfl⟩ | ⟨x, ho, rfl, hs2⟩; all_goals (have HOO : Hid (openB T = _) := ho); all_goals (try (have hxl := openB_length ho; rw [HLK.out] at hxl; obtain ⟨b2, off2, cap2, rfl, hn2, hc2, _, _, _⟩ := hs2.open (by omega); have hx4 : ((4 : Nat) : Int) ≤ (x.length : Int) := by omega)); all_goals clear ho))
        · go_ret2
          exact ⟨_, 0, rfl, hb3, .inl ⟨by rw [HO.out, HOO.out]; rfl, rfl, rfl⟩⟩
        · obtain rfl : cap2 = 4 := by assumption
          go_ret2
          exact ⟨_, N + 8, rfl, hb3, .inr ⟨x.drop 4, by rw [HO.out, HOO.out]; rfl, (hs2.dropCap 4 (by omega) rfl).mono (fun k _ hk => Nat.lt_of_lt_of_le hk hb1.size)⟩⟩
        · go_ret2
          exact ⟨_, N + 8, rfl, hb3, .inr ⟨x.drop 4, by rw [HO.out, HOO.out]; rfl, (hs2.drop 4 (by omega)).mono (fun k _ hk => Nat.lt_of_lt_of_le hk hb1.size)⟩⟩

end Go.Proofs.YtepceidajmedeaaGreatDoor

namespace Go.Proofs.YtepceidajmedeaaGreatDoor
open Go.RowKit CW

set_option maxHeartbeats 400000 in
theorem make6_any (v : Value) (r : Bytes) (w : World) (hv : SlB (fun _ => False) w v r) (hl : r.length ≤ 9223372036854775807) :
    Calls Tryz.prog 67 #[v] w fun e w' => ∃ v' ok, e = .returned (.tuple #[v', .bool ok]) ∧ Below w.heap.size w w' ∧
      (makeB r = none ∧ v' = .slice none 0 0 ∧ ok = false ∨ makeB r = some (frameB r) ∧ ok = true ∧ SlB (fun k => k < w.heap.size) w' v' (frameB r)) := by
  obtain ⟨a, cap, rfl, hn, hcap⟩ := hv.shape
  by_cases hlong : 1048576 < r.length
  · have hm : makeB r = none := by unfold makeB; rw [if_neg (by omega)]
    have hd : (1048576 : Int) < (r.length : Int) := by omega
    go_enter Tryz.func67, Tryz.ntmps67
    go_wp2
    go_ret2
    exact ⟨_, _, rfl, Below.refl _ _, .inl ⟨hm, rfl, rfl⟩⟩
  · have hm : makeB r = some (frameB r) := by unfold makeB; rw [if_pos (by omega)]
    have hd : ¬ (1048576 : Int) < (r.length : Int) := by omega
    have hd' : r.length ≤ 1048576 := by omega
    clear hlong
    go_enter Tryz.func67, Tryz.ntmps67
    go_wp2_with (first
      | (go_at_call 133; refine (little_any _ _ (by omega)).mono ?_; rintro e w1 ⟨v1, rfl, ho1, hb1⟩)
      | (at_builtin; refine wpList_app tyB rfl rfl rfl rfl ho1 (hv.below hb1) (by simp) (bytes_one _) (by unfold maxLen; simp [le4]; omega) (by simp [le4]; omega) hb1.size ?_; intro v2 w2 ho2 hg2; have hb2 := hb1.trans (below_grown ho1 hg2 hb1.size); have hs2 : SlB (fun k => k < w.heap.size) w2 v2 (le4 r.length ++ r) := SlB.of_owns (by rw [List.length_append, List.map_append]; exact ho2))
      | (go_at_call 132; refine (seal1_any _ _ _ hs2.any (by rw [List.length_append]; simp [le4]; omega)).mono ?_; rintro e w3 ⟨v3, rfl, hs3, hb3⟩))
    go_ret2
    exact ⟨_, _, rfl, hb2.trans (hb3.mono hb2.size), .inr ⟨hm, rfl, hs3.mono (fun k _ hk => Nat.lt_of_lt_of_le hk hb2.size)⟩⟩

set_option maxHeartbeats 1000000 in
set_option maxRecDepth 100000 in
theorem next6_any (M : Nat → Prop) (v : Value) (bs : Bytes) (w : World) (hv : SlB M w v bs) (hl : bs.length ≤ 70368744177660) :
    Calls Tryz.prog 136 #[v] w fun e w' => ∃ v' n, e = .returned (.tuple #[v', .int .i64 (n : Nat)]) ∧ Below w.heap.size w w' ∧
      (nextB bs = none ∧ v' = .slice none 0 0 ∧ n = 0 ∨ ∃ x, nextB bs = some (x, n) ∧ SlB M w' v' x) := by
  obtain ⟨a, cap, rfl, hn, hcap⟩ := hv.shape
  by_cases h8 : bs.length < 8
  · have hno : nextB bs = none := by unfold nextB; rw [if_pos h8]
    have hd : (bs.length : Int) < 8 := by omega
    go_enter Tryz.func136, Tryz.ntmps136
    go_wp2
    go_ret2
    exact ⟨_, 0, rfl, Below.refl _ _, .inl ⟨hno, rfl, rfl⟩⟩
  · obtain ⟨b, off, cap', h, _, _, hb, _, hcell⟩ := hv.open (by omega)
    cases h
    have c0 := hcell 0 (by omega)
    have c1 := hcell 1 (by omega)
    have c2 := hcell 2 (by omega)
    have c3 := hcell 3 (by omega)
    have hnum : num4 bs = bs[0].toNat + 256 * bs[1].toNat + 65536 * bs[2].toNat + 16777216 * bs[3].toNat := by
      unfold num4
      simp [List.getD, show 0 < bs.length by omega, show 1 < bs.length by omega, show 2 < bs.length by omega, show 3 < bs.length by omega]
    have l0 := bs[0].toNat_lt
    have l1 := bs[1].toNat_lt
    have l2 := bs[2].toNat_lt
    have l3 := bs[3].toNat_lt
    generalize bs[0].toNat = b0 at *
    generalize bs[1].toNat = b1 at *
    generalize bs[2].toNat = b2 at *
    generalize bs[3].toNat = b3 at *
    rw [Nat.add_zero] at c0
    have HN : Hid (((num4 bs : Nat) : Int) = (b0 : Int) + (b1 : Int) * 256 + (b2 : Int) * 65536 + (b3 : Int) * 16777216) := by show ((num4 bs : Nat) : Int) = _; omega
    have hnb : nextB bs = if 1048576 < num4 bs ∨ bs.length < num4 bs + 8 then none else (openB (bs.take (num4 bs + 8))).map (fun x => (x.drop 4, num4 bs + 8)) := by
      rw [nextB, if_neg h8]
    have HX : Hid (nextB bs = if 1048576 < num4 bs ∨ bs.length < num4 bs + 8 then none else (openB (bs.take (num4 bs + 8))).map (fun x => (x.drop 4, num4 bs + 8))) := hnb
    clear hnb hcell hnum
    generalize num4 bs = N at HN HX
    have hd : ¬ (bs.length : Int) < 8 := by omega
    have i0 : (0 : Int) < (bs.length : Int) := by omega
    have i1 : (1 : Int) < (bs.length : Int) := by omega
    have i2 : (2 : Int) < (bs.length : Int) := by omega
    have i3 : (3 : Int) < (bs.length : Int) := by omega
    go_enter Tryz.func136, Tryz.ntmps136
    go_wp2
    go_quiet (fail)
    rw [← HN.out]
    have hb0 : Below w.heap.size w (w.drewN nq) := below_drewN' (Below.refl _ _) _
    have hv0 := hv.below hb0
    generalize w.drewN nq = w0 at hb0 hv0 ⊢
    have hN0 : (0 : Int) ≤ (N : Int) := by omega
    clear c0 c1 c2 c3 HN
    by_cases hA : 1048576 < N
    · have hA' : (1048576 : Int) < (N : Int) := by omega
      go_wp2
      go_ret2
      exact ⟨_, 0, rfl, hb0, .inl ⟨by rw [HX.out, if_pos (.inl hA)], rfl, rfl⟩⟩
    · have hA' : ¬ (1048576 : Int) < (N : Int) := by omega
      by_cases hB : bs.length < N + 8
      · have hB' : (bs.length : Int) - 8 < (N : Int) := by omega
        go_wp2
        go_ret2
        exact ⟨_, 0, rfl, hb0, .inl ⟨by rw [HX.out, if_pos (.inr hB)], rfl, rfl⟩⟩
      · have hB' : ¬ (bs.length : Int) - 8 < (N : Int) := by omega
        have HO : Hid (nextB bs = (openB (bs.take (N + 8))).map (fun x => (x.drop 4, N + 8))) := by
          show nextB bs = _
          rw [HX.out, if_neg (by omega)]
        have htk := hv0.take (N + 8) (by omega)
        have HLK : Hid ((bs.take (N + 8)).length = N + 8) := by show (bs.take (N + 8)).length = N + 8; rw [List.length_take]; omega
        have g1 : ((N + 8 : Nat) : Int) ≤ (cap : Int) := by omega
        have g2 : ((N : Int) + 8).toNat = N + 8 := by omega
        clear HX hA hB hv hv0
        generalize bs.take (N + 8) = T at *
        go_wp2_with (go_at_call 166; refine (open1_any M _ T _ htk).mono ?_; rintro e w2 ⟨v2, ok, rfl, hb2, hres⟩; have hb3 := hb0.trans (hb2.mono hb0.size); clear hb2; rcases hres with ⟨ho, rfl, rfl⟩ | ⟨x, ho, rfl, hs2⟩; all_goals (have HOO : Hid (openB T = _) := ho); all_goals (try (have hxl := openB_length ho; rw [HLK.out] at hxl; obtain ⟨b2, off2, cap2, rfl, hn2, hc2, _, _, _⟩ := hs2.open (by omega); have hx4 : ((4 : Nat) : Int) ≤ (x.length : Int) := by omega)); all_goals clear ho)
        · go_ret2
          exact ⟨_, 0, rfl, hb3, .inl ⟨by rw [HO.out, HOO.out]; rfl, rfl, rfl⟩⟩
        · obtain rfl : cap2 = 4 := by assumption
          go_ret2
          exact ⟨_, N + 8, rfl, hb3, .inr ⟨x.drop 4, by rw [HO.out, HOO.out]; rfl, hs2.dropCap 4 (by omega) rfl⟩⟩
        · go_ret2
          exact ⟨_, N + 8, rfl, hb3, .inr ⟨x.drop 4, by rw [HO.out, HOO.out]; rfl, hs2.drop 4 (by omega)⟩⟩

set_option maxHeartbeats 1000000 in
set_option maxRecDepth 100000 in
theorem split6_any (M : Nat → Prop) (v : Value) (bs : Bytes) (w : World) (hM : ∀ k, M k → k < w.heap.size) (hv : SlB M w v bs) (hl : bs.length ≤ 35184372088832) :
    Calls Tryz.prog 74 #[v] w fun e w' => ∃ v', e = .returned (.tuple #[v', .int .i64 ((splitB bs).2 : Nat)]) ∧ SlBB M w' v' (splitB bs).1 ∧ Below w.heap.size w w' := by
  obtain ⟨a, cap, rfl, hn, hcap⟩ := hv.shape
  have hv' : SlB (fun k => M k ∨ w.heap.size ≤ k) w (.slice a bs.length cap) bs := hv.mono (fun k hk h => h.elim id (fun h => by omega))
  have hcnt := endsB_count bs 0
  go_enter Tryz.func74, Tryz.ntmps74
  go_wp2
  go_loopw [4, 5] (fun s i wr => ∃ (pre : List (Bytes × Nat)) (at_ : Nat) (vs : List Value), i = .int .i64 at_ ∧ at_ ≤ bs.length ∧ at_ = lastEnd 0 pre ∧ endsB 0 bs = pre ++ endsB at_ (bs.drop at_) ∧ vs.length = pre.length ∧
      wr.ownsRow w.heap.size 30 1 s pre.length vs ∧ (∀ (i : Nat) (u : Value) (p : Bytes × Nat), vs[i]? = some u → pre[i]? = some p → SlB (fun k => M k ∨ w.heap.size ≤ k) wr u p.1) ∧ Below w.heap.size w wr) (fun _ i _ => bs.length - (intOf i).toNat)
  case atStart => exact ⟨[], 0, [], rfl, by omega, rfl, rfl, rfl, World.ownsRow_nil _ _ _ _, fun i u p h => by simp at h, Below.refl _ _⟩
  case round =>
    obtain ⟨pre, at_, vs, rfl, hat, hlast, hends, hvs, hown, hel, hb⟩ := hrel
    have HLA : Hid (at_ = lastEnd 0 pre) := hlast
    have HEN : Hid (endsB 0 bs = pre ++ endsB at_ (bs.drop at_)) := hends
    have HVS : Hid (vs.length = pre.length) := hvs
    clear hlast hends hvs
    have hvr := hv'.below hb
    have hld : (bs.drop at_).length ≤ 70368744177660 := by rw [List.length_drop]; omega
    obtain ⟨a', c', hsl, hd⟩ := run_from_any Tryz.underlying30 (by kernel_rfl) hvr at_ hat
    go_wp2_with (first | (refine wpList_from rfl (x := .tmp 9) (lo := .tmp 10) rfl rfl rfl hsl ?_) | (go_at_call 136; refine (next6_any _ _ _ _ hd hld).mono ?_; rintro e w1 ⟨v1, n1, rfl, hb1, hres⟩; rcases hres with ⟨hno, rfl, rfl⟩ | ⟨x, hso, hsx⟩; all_goals (try (have HNO : Hid (nextB (bs.drop at_) = none) := hno; clear hno)); all_goals (try (have hpos := nextB_pos hso; have HSO : Hid (nextB (bs.drop at_) = some (x, n1)) := hso; clear hso; rw [List.length_drop] at hpos; obtain ⟨hp1, hp2, _⟩ := hpos; have hnz : ((n1 : Int) == 0) = false := (by simp; omega); have hpl2 : pre.length + 1 ≤ 4398046511105 := (by have h1 := hcnt; rw [HEN.out, endsB_some HSO.out, List.length_append, List.length_cons] at h1; omega); obtain ⟨ax, cx, rfl, _, _⟩ := hsx.shape))) | (at_builtin; refine wpList_app_at tyBB rfl rfl rfl rfl ((owns_below hown hb1).alloc _) (Row.lit1 w1 (.slice ax x.length cx) 30) rfl (by intro u hu; simp at hu; subst hu; rfl) (by unfold maxLen; omega) (by omega) (by simp; have := hb.size; have := hb1.size; omega) ?_; intro v2 w2 ho2 hg2 hp2))
    · go_ret2
      have hb2 := hb.trans (hb1.mono hb.size)
      have hE := HEN.out
      rw [endsB_none HNO.out, List.append_nil] at hE
      have hn2 : (splitB bs).2 = at_ := by
        have hl2 := endsB_last bs.length bs 0 (Nat.le_refl _)
        rw [hE, Nat.zero_add] at hl2
        rw [← hl2, ← HLA.out]
      rw [hn2]
      refine ⟨_, rfl, ?_, hb2⟩
      rw [← endsB_fst bs.length bs 0 (Nat.le_refl _), hE]
      refine ⟨vs, by rw [List.length_map]; exact HVS.out, ?_, fun i u p hu hp => ?_⟩
      · rw [List.length_map]
        exact (Row.of_owns (owns_below hown hb1)).mono (fun k _ hk => hM k hk)
      · rw [List.getElem?_map] at hp
        obtain ⟨q, hq, rfl⟩ := Option.map_eq_some_iff.1 hp
        exact ((hel i u q hu hq).below hb1).mono (fun k _ hk => .inl hk)
    · have hA1 : at_ + n1 ≤ bs.length := by omega
      have hF : Fr (fun k => some k = u4.ownBlock) wr w2 := (Fr.of_below (F := fun k => some k = u4.ownBlock) hb1).trans (G := fun k => some k = u4.ownBlock) ⟨hg2.os, hg2.tape, hg2.output, by have := hg2.size; simp at this; omega, fun k hk hn => (hg2.block k (by simp; omega) hn).trans (Below.heap_alloc w1 _ _ hk)⟩ (fun _ _ h => h)
      have hlt : ∀ k, some k = u4.ownBlock → w.heap.size ≤ k := fun k hk => (hown.lt k hk.symm).1
      have hel2 : ∀ (i : Nat) (u : Value) (p : Bytes × Nat), (vs ++ [.slice ax x.length cx])[i]? = some u → (pre ++ [(x, at_ + n1)])[i]? = some p → SlB (fun k => M k ∨ w.heap.size ≤ k) w2 u p.1 := by
        intro i u p hu hp
        have hvl := HVS.out
        by_cases hilt : i < vs.length
        · rw [List.getElem?_append_left hilt] at hu
          rw [List.getElem?_append_left (by omega)] at hp
          exact (hel i u p hu hp).fr hF (fun k hk => .inr (hlt k hk)) (fun k _ h => h)
        · rw [List.getElem?_append_right (by omega)] at hu
          rw [List.getElem?_append_right (by omega)] at hp
          match hi' : i - vs.length, hu with
          | 0, hu =>
            rw [show i - pre.length = 0 by omega] at hp
            simp at hu hp
            subst hu hp
            exact hsx.fr (F := fun k => some k = u4.ownBlock) ⟨hg2.os, hg2.tape, hg2.output, by have := hg2.size; simp at this; omega, fun k hk hn => (hg2.block k (by simp; omega) hn).trans (Below.heap_alloc w1 _ _ hk)⟩ (fun k hk => .inr (hlt k hk)) (fun k _ h => h)
          | i + 1, hu => simp at hu
      have HX : Hid (at_ + n1 = lastEnd 0 (pre ++ [(x, at_ + n1)]) ∧ endsB 0 bs = (pre ++ [(x, at_ + n1)]) ++ endsB (at_ + n1) (bs.drop (at_ + n1)) ∧ (vs ++ [Value.slice ax x.length cx]).length = (pre ++ [(x, at_ + n1)]).length) := by
        refine ⟨(lastEnd_snoc 0 pre (x, at_ + n1)).symm, ?_, by have := HVS.out; simp; omega⟩
        rw [HEN.out, endsB_some HSO.out, List.drop_drop]
        simp
      have hbs := hb.size
      have hbE : Below w.heap.size w w2 := hF.below (by omega) (fun k hk h => by have := hlt k h; omega) |> fun h => (hb.trans h)
      go_roundw
      case rel => exact ⟨pre ++ [(x, at_ + n1)], at_ + n1, vs ++ [.slice ax x.length cx], by go_num, hA1, HX.out.1, HX.out.2.1, HX.out.2.2, by rw [List.length_append]; exact ho2, hel2, hbE⟩
      case measure => simp [intOf]; omega

end Go.Proofs.YtepceidajmedeaaGreatDoor

namespace Go.Proofs.YtepceidajmedeaaGreatDoor
open Go.RowKit CW

theorem same1_quiet (v v' : Value) (bs bs' : Bytes) (w : World) (hv : SlB (fun _ => False) w v bs) (hv' : SlB (fun _ => False) w v' bs') :
    Calls Tryz.prog 71 #[v, v'] w fun e w' => e = .returned (.bool (bs == bs')) ∧ ∃ n, w' = w.drewN n := by
  refine (same1_any v v' bs bs' w hv hv').mono ?_
  rintro e w' ⟨rfl, rfl⟩
  exact ⟨rfl, 0, rfl⟩

set_option maxHeartbeats 400000 in
set_option maxRecDepth 100000 in
theorem same6_any (v v' : Value) (rs rs' : List Bytes) (w : World) (hv : SlBB (fun _ => False) w v rs) (hv' : SlBB (fun _ => False) w v' rs') :
    Calls Tryz.prog 21 #[v, v'] w fun e w' => e = .returned (.bool (rs == rs')) ∧ Below w.heap.size w w' := by
  obtain ⟨a, cap, rfl, hn, hc, hnone, hcell⟩ := hv.open
  obtain ⟨a', cap', rfl, hn', hc', hnone', hcell'⟩ := hv'.open
  by_cases hl : rs.length = rs'.length
  · have hq : (((rs.length : Nat) : Int) != ((rs'.length : Nat) : Int)) = false := by simp; omega
    have HL : Hid (rs.length = rs'.length) := hl
    clear hl hv hv'
    go_enter Tryz.func21, Tryz.ntmps21
    go_wp2
    go_loopw [5] (fun i wr => ∃ k : Nat, k ≤ rs.length ∧ i = .int .i64 k ∧ rs.take k = rs'.take k ∧ Below w.heap.size w wr) (fun i _ => rs.length - (intOf i).toNat)
    case atStart => exact ⟨0, by omega, rfl, by simp, Below.refl _ _⟩
    case round =>
      obtain ⟨k, hk, rfl, htk, hb⟩ := hrel
      by_cases hlt : k < rs.length
      · have hlt' : k < rs'.length := by rw [← HL.out]; exact hlt
        obtain ⟨b, off, rfl, hbl, _, hc⟩ := hcell (by omega)
        obtain ⟨b', off', rfl, hbl', _, hc'⟩ := hcell' (by omega)
        obtain ⟨u, hu, hsu⟩ := hc k hlt
        obtain ⟨u', hu', hsu'⟩ := hc' k hlt'
        have h1 := (hb.cell (p := ⟨b, off + k, none⟩) hbl).trans hu
        have h2 := (hb.cell (p := ⟨b', off' + k, none⟩) hbl').trans hu'
        have HT : Hid (rs.take (k + 1) = rs.take k ++ [rs[k]]) := List.take_succ_eq_append_getElem hlt
        have HT' : Hid (rs'.take (k + 1) = rs'.take k ++ [rs'[k]]) := List.take_succ_eq_append_getElem hlt'
        have HK : Hid (rs.take k = rs'.take k) := htk
        have HX : Hid (rs[k]? = some rs[k]) := by show rs[k]? = _; simp [hlt]
        have HX' : Hid (rs'[k]? = some rs'[k]) := by show rs'[k]? = _; simp [hlt']
        generalize rs[k] = x at *
        generalize rs'[k] = x' at *
        have hs1 := hsu.below hb
        have hs2 := hsu'.below hb
        clear hc hc' hcell hcell' htk hu hu' hsu hsu'
        have i1 : (k : Int) < (rs.length : Int) := by omega
        have i2 : (k : Int) < (rs'.length : Int) := by omega
        go_wp2
        go_quiet ((go_at_call 71; refine Calls.quiet_of (same1_quiet _ _ x x' _ ?_ ?_); exact hs1.below ⟨rfl, rfl, rfl, Nat.le_refl _, fun _ _ => rfl⟩; exact hs2.below ⟨rfl, rfl, rfl, Nat.le_refl _, fun _ _ => rfl⟩))
        go_wp2
        · have hx : (!(x == x')) = true := by assumption
          go_ret
          have hne : ¬ rs = rs' := fun e => by
            subst e
            have := HX.out.symm.trans HX'.out
            simp at this
            subst this
            simp at hx
          exact ⟨by rw [beq_eq_false_iff_ne.2 hne]; rfl, below_drewN' hb _⟩
        · have hx : (!(x == x')) = false := by assumption
          have hxx : x = x' := by simpa using hx
          go_roundw
          case rel => exact ⟨k + 1, by omega, by go_num, by rw [HT.out, HT'.out, HK.out, hxx], below_drewN' hb _⟩
          case measure => simp [intOf]; omega
      · have he : rs = rs' := by
          have e1 := List.take_of_length_le (l := rs) (i := k) (by omega)
          have e2 := List.take_of_length_le (l := rs') (i := k) (by rw [← HL.out]; omega)
          rw [← e1, ← e2]; exact htk
        have HE : Hid ((rs == rs') = true) := by show (rs == rs') = true; simpa using he
        clear he htk
        go_wp2
        go_ret
        exact ⟨by rw [HE.out] <;> rfl, hb⟩
  · have hq : (((rs.length : Nat) : Int) != ((rs'.length : Nat) : Int)) = true := by simp; omega
    have HE : Hid ((rs == rs') = false) := by show (rs == rs') = false; exact beq_eq_false_iff_ne.2 (fun e => hl (by rw [e]))
    clear hl
    go_enter Tryz.func21, Tryz.ntmps21
    go_wp2
    go_ret
    exact ⟨by rw [HE.out] <;> rfl, Below.refl _ _⟩

def fewN (rs : List Bytes) : Nat := (rs.map (fun r => min r.length 2000)).sum
def fewB (rs : List Bytes) : Bool := decide (rs.length ≤ 60) && decide (fewN rs ≤ 1500)
theorem fewN_take (rs : List Bytes) (k : Nat) (h : k < rs.length) : fewN (rs.take (k + 1)) = fewN (rs.take k) + min rs[k].length 2000 := by
  unfold fewN
  rw [List.take_succ_eq_append_getElem h, List.map_append, List.sum_append]
  simp
theorem fewN_le (rs : List Bytes) : fewN rs ≤ 2000 * rs.length := by
  unfold fewN
  induction rs with
  | nil => simp
  | cons r l ih => simp only [List.map_cons, List.sum_cons, List.length_cons]; omega

set_option maxHeartbeats 400000 in
theorem few6_any (v : Value) (rs : List Bytes) (w : World) (hv : SlBB (fun _ => False) w v rs) (hl : rs.length ≤ 8796093022208) :
    Calls Tryz.prog 14 #[v] w fun e w' => e = .returned (.bool (fewB rs)) ∧ w = w' := by
  obtain ⟨a, cap, rfl, hn, hc, hnone, hcell⟩ := hv.open
  go_enter Tryz.func14, Tryz.ntmps14
  go_wp2
  go_loopw [3, 4] (fun s i wr => ∃ k : Nat, k ≤ rs.length ∧ i = .int .i64 k ∧ s = .int .i64 (fewN (rs.take k) : Nat) ∧ wr = w) (fun _ i _ => rs.length - (intOf i).toNat)
  case atStart => exact ⟨0, by omega, rfl, rfl, rfl⟩
  case round =>
    obtain ⟨k, hk, rfl, rfl, rfl⟩ := hrel
    by_cases hlt : k < rs.length
    · obtain ⟨b, off, rfl, hbl, _, hc⟩ := hcell (by omega)
      obtain ⟨u, hu, hsu⟩ := hc k hlt
      obtain ⟨au, cu, rfl, _, _⟩ := hsu.shape
      have HT : Hid (fewN (rs.take (k + 1)) = fewN (rs.take k) + min rs[k].length 2000) := fewN_take rs k hlt
      have hle := fewN_le (rs.take k)
      rw [List.length_take] at hle
      generalize rs[k] = x at *
      generalize fewN (rs.take k) = N at *
      have hN : N ≤ 17592186044416000 := by omega
      clear hc hcell hle hsu
      have i1 : (k : Int) < (rs.length : Int) := by omega
      go_wp2
      go_roundw
      case rel => exact ⟨k + 1, by omega, by go_num, by rw [HT.out]; go_num, trivial⟩
      case measure => simp [intOf]; omega
    · obtain rfl : k = rs.length := by omega
      have HE : Hid (fewB rs = (decide (rs.length ≤ 60) && decide (fewN (rs.take rs.length) ≤ 1500))) := by show fewB rs = _; rw [List.take_length]; rfl
      clear hcell hnone hv hk
      generalize fewN (rs.take rs.length) = N at *
      by_cases h1 : rs.length ≤ 60
      · have d1 : (rs.length : Int) ≤ 60 := by omega
        by_cases h2 : N ≤ 1500
        · have d2 : (N : Int) ≤ 1500 := by omega
          go_wp2
          go_ret
          exact ⟨by rw [HE.out, decide_eq_true h1, decide_eq_true h2] <;> rfl, rfl⟩
        · have d2 : ¬ (N : Int) ≤ 1500 := by omega
          go_wp2
          go_ret
          exact ⟨by rw [HE.out, decide_eq_false h2, Bool.and_false] <;> rfl, rfl⟩
      · have d1 : ¬ (rs.length : Int) ≤ 60 := by omega
        go_wp2
        go_ret
        exact ⟨by rw [HE.out, decide_eq_false h1, Bool.false_and] <;> rfl, rfl⟩

end Go.Proofs.YtepceidajmedeaaGreatDoor
