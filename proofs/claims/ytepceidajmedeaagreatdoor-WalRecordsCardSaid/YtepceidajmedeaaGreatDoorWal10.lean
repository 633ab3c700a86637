/- Lemmas for a law of this seat, part 10: contracts of the functions that it reaches, and the plain law. No condition but those of each lemma. -/
import Derived.Test.YtepceidajmedeaaGreatDoorWal9
import Derived.Test.YtepceidajmedeaaGreatDoorWal5
import Derived.Test.YtepceidajmedeaaGreatDoorShelf
import Derived.Laws.RangeAny
import Derived.Laws.RangeString

namespace Go.Proofs.YtepceidajmedeaaGreatDoor
open Go.RowKit CW

theorem digit_extract (D : Nat) (h : D < 10) : (ByteArray.mk #[48, 49, 50, 51, 52, 53, 54, 55, 56, 57]).extract D (D + 1) = ByteArray.mk #[UInt8.ofNat (48 + D)] := by
  match D, h with
  | 0, _ => rfl
  | 1, _ => rfl
  | 2, _ => rfl
  | 3, _ => rfl
  | 4, _ => rfl
  | 5, _ => rfl
  | 6, _ => rfl
  | 7, _ => rfl
  | 8, _ => rfl
  | 9, _ => rfl
  | n + 10, h => omega

set_option maxHeartbeats 400000 in
theorem name7_any (n : Nat) (w : World) (hn : n ≤ 9223372036854775807) :
    Calls Tryz.prog 73 #[.int .i64 n] w fun e w' => w = w' ∧ (1 ≤ n ∧ n ≤ 99999999 ∧ e = .returned (.tuple #[.string ⟨(nameB n).toArray⟩, .bool true]) ∨ ¬ (1 ≤ n ∧ n ≤ 99999999) ∧ e = .returned (.tuple #[.string ⟨#[]⟩, .bool false])) := by
  by_cases h1 : n < 1
  · have d1 : (n : Int) < 1 := by omega
    go_enter Tryz.func73, Tryz.ntmps73
    go_wp2
    go_ret2
    exact ⟨rfl, .inr ⟨by omega, rfl⟩⟩
  · have d1 : ¬ (n : Int) < 1 := by omega
    by_cases h2 : 99999999 < n
    · have d2 : (99999999 : Int) < (n : Int) := by omega
      go_enter Tryz.func73, Tryz.ntmps73
      go_wp2
      go_ret2
      exact ⟨rfl, Or.inr rfl⟩
    · have d2 : ¬ (99999999 : Int) < (n : Int) := by omega
      go_enter Tryz.func73, Tryz.ntmps73
      go_wp2
      go_loopw [0, 4, 5] (fun m s i wr => ∃ k : Nat, k ≤ 8 ∧ i = .int .i64 k ∧ m = .int .i64 (n / 10 ^ k : Nat) ∧ s = .string ⟨(low k n).toArray⟩ ∧ wr = w) (fun _ _ i _ => 8 - (intOf i).toNat)
      case atStart => exact ⟨0, by omega, rfl, by simp, rfl, rfl⟩
      case round =>
        obtain ⟨k, hk, rfl, rfl, rfl, rfl⟩ := hrel
        by_cases hlt : k < 8
        · have i1 : (k : Int) < 8 := by omega
          have HL : Hid (low (k + 1) n = UInt8.ofNat (48 + n / 10 ^ k % 10) :: low k n) := rfl
          have HD : Hid (n / 10 ^ (k + 1) = n / 10 ^ k / 10) := by show _ = _; rw [Nat.pow_succ, Nat.div_div_eq_div_mul]
          have hm : n / 10 ^ k ≤ 99999999 := Nat.le_trans (Nat.div_le_self _ _) (by omega)
          generalize n / 10 ^ k = m at *
          have hLL : (low k n).length = k := low_length k n
          generalize low k n = L at *
          have hmod : ((m : Nat) : Int).tmod 10 = ((m % 10 : Nat) : Int) := by rw [Int.tmod_eq_emod_of_nonneg (by omega)]; omega
          have hdiv : ((m : Nat) : Int).tdiv 10 = ((m / 10 : Nat) : Int) := by rw [Int.tdiv_eq_ediv_of_nonneg (by omega)]; omega
          have hD : m % 10 < 10 := by omega
          have hQ : m / 10 ≤ 99999999 := by omega
          generalize m % 10 = D at *
          generalize m / 10 = Q at *
          have g1 : (0 : Int) ≤ (D : Int) := by omega
          have g2 : (D : Int) + 1 ≤ 10 := by omega
          have hov : ¬ 9223372036854775807 < min (D + 1) 10 - D + L.length := by omega
          have hq : wrap64 (Q : Int) = (Q : Int) := by have := hm; unfold wrap64; omega
          have hst : Hid ((ByteArray.mk #[48, 49, 50, 51, 52, 53, 54, 55, 56, 57]).extract D (D + 1) ++ (ByteArray.mk (List.toArray L)) = ByteArray.mk (List.toArray (low (k + 1) n))) := by
            show _ = _
            rw [HL.out, digit_extract D hD]
            exact ByteArray.ext (by simp)
          go_wp2
          go_roundw
          case rel => exact ⟨k + 1, by omega, by go_num, by rw [HD.out], by rw [hst.out], trivial⟩
          case measure => simp [intOf]; omega
        · obtain rfl : k = 8 := by omega
          have HN : Hid (ByteArray.mk #[108, 111, 103, 45] ++ ByteArray.mk (List.toArray (low 8 n)) = ByteArray.mk (List.toArray (nameB n))) := by
            show _ = _
            exact ByteArray.ext (by simp [nameB, pre4])
          have hLL : (low 8 n).length = 8 := low_length 8 n
          generalize low 8 n = L at *
          go_wp2
          go_ret2
          exact ⟨rfl, .inl ⟨by omega, by omega, by rw [HN.out] <;> rfl⟩⟩

end Go.Proofs.YtepceidajmedeaaGreatDoor

namespace Go.Proofs.YtepceidajmedeaaGreatDoor
open Go.RowKit CW

theorem rep_48 (k : Nat) : Lib.repeatL [48] k = List.replicate k 48 := by
  induction k with
  | zero => rfl
  | succ k ih => rw [Lib.repeatL, ih, List.replicate_succ]; rfl

theorem low_digits (k : Nat) : ∀ n, n < 10 ^ (k + 1) → (Lib.decDigits n).length ≤ k + 1 ∧ low (k + 1) n = Lib.repeatL [48] (k + 1 - (Lib.decDigits n).length) ++ Lib.decDigits n := by
  induction k with
  | zero =>
    intro n h
    rw [Lib.decDigits_one (by omega)]
    have : n % 10 = n := by omega
    simp [low, Lib.repeatL, this]
  | succ k ih =>
    intro n h
    by_cases h10 : n < 10
    · rw [Lib.decDigits_one h10, rep_48, low_snoc, show n / 10 = 0 by omega, low_zero, show n % 10 = n by omega]
      exact ⟨by simp, rfl⟩
    · obtain ⟨h1, h2⟩ := ih (n / 10) (by rw [Nat.pow_succ] at h; omega)
      have e : Lib.decDigits n = Lib.decDigits (n / 10) ++ [UInt8.ofNat (48 + n % 10)] := by rw [Lib.decDigits, dif_neg h10]
      rw [e, low_snoc, h2]
      refine ⟨by simp; omega, ?_⟩
      rw [List.length_append, List.length_singleton, Nat.add_sub_add_right, List.append_assoc]

theorem name_digits (n : Nat) (h : n ≤ 99999999) : (Lib.decDigits n).length ≤ 8 ∧ nameB n = pre4 ++ Lib.repeatL [48] (8 - (Lib.decDigits n).length) ++ Lib.decDigits n := by
  obtain ⟨h1, h2⟩ := low_digits 7 n (by omega)
  exact ⟨h1, by rw [nameB, h2, List.append_assoc]⟩

theorem name_any (n : Nat) (w : World) (h1 : 1 ≤ n) (hn : n < 100) :
    Calls Tryz.prog 55 #[.int .i64 n] w fun e w' => e = .returned (.tuple #[.string ⟨(nameB n).toArray⟩, .bool true]) ∧ Below w.heap.size w w' := by
  obtain ⟨hd, he⟩ := name_digits n (by omega)
  have d1 : ¬ (n : Int) < 1 := by omega
  have d2 : ¬ (99999999 : Int) < (n : Int) := by omega
  have HE : Hid (ByteArray.mk #[108, 111, 103, 45] ++ ByteArray.mk (Lib.repeatL [48] (8 - (Lib.decDigits n).length)).toArray ++ ByteArray.mk (Lib.decDigits n).toArray = ByteArray.mk (nameB n).toArray) := by
    show _ = _
    rw [he]
    exact ByteArray.ext (by simp [pre4])
  clear he
  go_enter Tryz.func55, Tryz.ntmps55
  go_wp2_with (first
    | (go_at_call 116; refine (Tryz.strconv_Itoa_small n hn _).mono ?_; rintro e w1 ⟨rfl, rfl⟩; generalize Lib.decDigits n = L at *; have hsub : (8 : Int) - (L.length : Int) = ((8 - L.length : Nat) : Int) := (by omega); have hr := Lib.repeatL_length [48] (8 - L.length); rw [List.length_singleton, Nat.mul_one] at hr; have hv1 : ¬ 9223372036854775807 < 4 + (Lib.repeatL [48] (8 - L.length)).length := (by omega); have hv2 : ¬ 9223372036854775807 < 4 + (Lib.repeatL [48] (8 - L.length)).length + L.length := (by omega))
    | (go_at_call 117; refine (Tryz.strings_Repeat ⟨#[48]⟩ (8 - L.length) _ (by omega) (by simp [ByteArray.size]; omega)).mono ?_; rintro e w2 ⟨rfl, hb⟩))
  go_ret2
  exact ⟨by rw [HE.out] <;> rfl, hb⟩

end Go.Proofs.YtepceidajmedeaaGreatDoor

namespace Go.Proofs.YtepceidajmedeaaGreatDoor
open Go.RowKit CW

theorem wrap8 {c : Nat} (h : c < 256) : IntKind.u8.wrap (c : Int) = (c : Int) := by
  show (c : Int) % 256 = _
  omega

theorem iter_below (w : World) (s : ByteArray) (p : Nat) : Below w.heap.size w (w.iter s p) := (Below.refl _ _).alloc (Nat.le_refl _) _

set_option maxHeartbeats 1000000 in
theorem number_any (s : Bytes) (w : World) :
    Calls Tryz.prog 78 #[.string ⟨s.toArray⟩] w fun e w' => e = .returned (.tuple #[.int .i64 ((numB s).getD 0 : Nat), .bool (numB s).isSome]) ∧ Below w.heap.size w w' := by
  have hcut := Tryz.strings_CutPrefix ⟨s.toArray⟩ ⟨#[108, 111, 103, 45]⟩ w
  have e1 : (ByteArray.mk s.toArray).data.toList = s := rfl
  have e2 : (ByteArray.mk #[108, 111, 103, 45]).data.toList = pre4 := rfl
  rw [e1, e2] at hcut
  by_cases hp : Lib.hasPrefix s pre4 = true
  · have htk : s.take 4 = pre4 := by
      have h := List.isPrefixOf_iff_prefix.1 hp
      exact (List.prefix_iff_eq_take.1 h).symm
    have htr : Lib.trimPrefix s pre4 = s.drop 4 := by unfold Lib.trimPrefix; rw [if_pos hp]; rfl
    rw [hp, htr] at hcut
    have hle : 4 ≤ s.length := by
      have h := congrArg List.length htk
      rw [List.length_take] at h
      simp only [pre4, List.length_cons, List.length_nil] at h
      omega
    have HN : Hid (numB s = if s.length = 12 ∧ (s.drop 4).all isDig = true ∧ 0 < valB (s.drop 4) then some (valB (s.drop 4)) else none) := by
      show numB s = _
      unfold numB
      simp only [htk, true_and]
    have HL : Hid ((s.drop 4).length + 4 = s.length) := by show _ = _; rw [List.length_drop]; omega
    generalize s.drop 4 = L at *
    clear hp htr htk e1 e2
    by_cases h8 : L.length = 8
    · have HN2 : Hid (numB s = if L.all isDig = true ∧ 0 < valB L then some (valB L) else none) := by
        show numB s = _
        rw [HN.out]
        simp only [show s.length = 12 by have := HL.out; omega, true_and]
      have hq : ((L.length : Int) != 8) = false := by simp; omega
      clear HN hle
      go_enter Tryz.func78, Tryz.ntmps78
      go_wp2_with (go_at_call 139; refine hcut.mono ?_; rintro e w1 ⟨rfl, rfl⟩)
      go_loopw [6] (fun n wr => ∃ k : Nat, k ≤ 8 ∧ n = .int .i64 (valB (L.take k) : Nat) ∧ (L.take k).all isDig = true ∧ wr = w1.iter ⟨L.toArray⟩ k) (fun _ wr => 8 - wr.iterPos w1.heap.size)
      case atStart => exact ⟨0, by omega, rfl, rfl, rfl⟩
      case round =>
        obtain ⟨k, hk, rfl, hall, rfl⟩ := hrel
        have HA : Hid ((L.take k).all isDig = true) := hall
        clear hall
        by_cases hlt : k < 8
        · have hks : k < (ByteArray.mk L.toArray).size := by show k < L.toArray.size; simp; omega
          have hkl : k < L.length := by omega
          have HT : Hid (L.take (k + 1) = L.take k ++ [L[k]]) := List.take_succ_eq_append_getElem hkl
          have hget : (ByteArray.mk L.toArray)[k]'hks = L[k] := rfl
          have HX : Hid (L[k]? = some L[k]) := by show L[k]? = _; simp [hkl]
          have hno : isDig L[k] = false → Hid (numB s = none) := fun h => by
            show numB s = none
            rw [HN2.out, if_neg]
            rintro ⟨ha, _⟩
            have := List.all_eq_true.1 ha L[k] (List.getElem_mem hkl)
            rw [h] at this
            cases this
          have hvl := valB_lt (L.take k) HA.out
          rw [List.length_take, show min k L.length = k by omega] at hvl
          have hv7 : valB (L.take k) < 10000000 := Nat.lt_of_lt_of_le hvl (Nat.pow_le_pow_right (by decide) (show k ≤ 7 by omega))
          clear hvl
          have HV : Hid (valB (L.take (k + 1)) = 10 * valB (L.take k) + (L[k].toNat - 48)) := by show _ = _; rw [HT.out, valB_snoc]
          have HA2 : isDig L[k] = true → Hid ((L.take (k + 1)).all isDig = true) := fun h => by show _ = _; rw [HT.out, List.all_append, HA.out]; simp [h]
          generalize valB (L.take k) = V at *
          by_cases ha : L[k].toNat < 128
          · have hnx : ∀ ty, (Instr.next (.pointer (some ⟨w1.heap.size, 0, none⟩)) true ty).run Tryz.prog (w1.iter ⟨L.toArray⟩ k) = _ := fun ty => run_next_ascii w1 ⟨L.toArray⟩ k ty hks (by rw [hget]; exact ha)
            rw [hget] at hnx
            clear hget HX
            generalize hc : L[k] = c at *
            clear hc
            by_cases hd1 : c.toNat < 48
            · have HE := hno (by simp [isDig]; omega)
              have d1 : (c.toNat : Int) < 48 := by omega
              clear hno HA2 HV
              generalize c.toNat = cn at *
              go_wp2
              go_ret2
              exact ⟨by rw [HE.out] <;> rfl, iter_below _ _ _⟩
            · have d1 : ¬ (c.toNat : Int) < 48 := by omega
              by_cases hd2 : 57 < c.toNat
              · have HE := hno (by simp [isDig]; omega)
                have d2 : (57 : Int) < (c.toNat : Int) := by omega
                clear hno HA2 HV
                generalize c.toNat = cn at *
                go_wp2
                go_ret2
                exact ⟨by rw [HE.out] <;> rfl, iter_below _ _ _⟩
              · have d2 : ¬ (57 : Int) < (c.toNat : Int) := by omega
                have HA3 := HA2 (by simp [isDig]; omega)
                clear hno HA2
                generalize c.toNat = cn at *
                go_wp2
                go_roundw
                case rel => exact ⟨k + 1, by omega, by rw [HV.out]; go_num, HA3.out, rfl⟩
                case measure => simp; omega
          · have hnx : ∀ ty, (Instr.next (.pointer (some ⟨w1.heap.size, 0, none⟩)) true ty).run Tryz.prog (w1.iter ⟨L.toArray⟩ k) = _ := fun ty => run_next_any w1 ⟨L.toArray⟩ k ty hks
            have HE := hno (by simp [isDig]; omega)
            have hdh := (decode_high ⟨L.toArray⟩ k hks (by rw [hget]; omega)).1
            clear hno HA2 HV hget
            generalize (Utf8.decode ⟨L.toArray⟩ k).1 = r at *
            generalize k + (Utf8.decode ⟨L.toArray⟩ k).2 = k2 at *
            have d1 : ¬ (r : Int) < 48 := by omega
            have d2 : (57 : Int) < (r : Int) := by omega
            go_wp2
            go_ret2
            exact ⟨by rw [HE.out] <;> rfl, iter_below _ _ _⟩
        · obtain rfl : k = 8 := by omega
          have hnx : ∀ ty, (Instr.next (.pointer (some ⟨w1.heap.size, 0, none⟩)) true ty).run Tryz.prog (w1.iter ⟨L.toArray⟩ 8) = _ := fun ty => run_next_end w1 ⟨L.toArray⟩ 8 ty (by show ¬ 8 < L.toArray.size; simp; omega)
          have htk : L.take 8 = L := List.take_of_length_le (by omega)
          have HE : Hid (numB s = if 0 < valB (L.take 8) then some (valB (L.take 8)) else none) := by
            have h := HA.out
            rw [htk] at h
            show numB s = _
            rw [HN2.out, htk, h]
            simp only [true_and]
          clear HN2 htk
          have hvl := valB_lt (L.take 8) HA.out
          rw [List.length_take, show min 8 L.length = 8 by omega] at hvl
          clear HA
          generalize valB (L.take 8) = V at *
          by_cases hz : 0 < V
          · have HE2 : Hid (numB s = some V) := by show numB s = _; rw [HE.out, if_pos hz]
            have d1 : (0 : Int) < (V : Int) := by omega
            clear HE
            go_wp2
            go_ret2
            exact ⟨by rw [HE2.out] <;> rfl, iter_below _ _ _⟩
          · obtain rfl : V = 0 := by omega
            have HE2 : Hid (numB s = none) := by show numB s = _; rw [HE.out, if_neg hz]
            clear HE
            go_wp2
            go_ret2
            exact ⟨by rw [HE2.out] <;> rfl, iter_below _ _ _⟩
    · have HN2 : Hid (numB s = none) := by
        show numB s = _
        rw [HN.out, if_neg (by have := HL.out; omega)]
      have hq : ((L.length : Int) != 8) = true := by simp; omega
      clear HN hle h8
      go_enter Tryz.func78, Tryz.ntmps78
      go_wp2_with (go_at_call 139; refine hcut.mono ?_; rintro e w1 ⟨rfl, rfl⟩)
      go_ret2
      exact ⟨by rw [HN2.out] <;> rfl, Below.refl _ _⟩
  · have hpf : Lib.hasPrefix s pre4 = false := by simpa using hp
    have HN : Hid (numB s = none) := by
      show numB s = none
      unfold numB
      rw [if_neg]
      rintro ⟨_, h, _⟩
      apply hp
      exact List.isPrefixOf_iff_prefix.2 (h ▸ List.take_prefix 4 s)
    rw [hpf] at hcut
    clear hp hpf e1 e2
    generalize Lib.trimPrefix s pre4 = L at *
    go_enter Tryz.func78, Tryz.ntmps78
    go_wp2_with (go_at_call 139; refine hcut.mono ?_; rintro e w1 ⟨rfl, rfl⟩)
    go_ret2
    exact ⟨by rw [HN.out] <;> rfl, Below.refl _ _⟩

end Go.Proofs.YtepceidajmedeaaGreatDoor

namespace Go.Proofs.YtepceidajmedeaaGreatDoor
open Go.RowKit CW

/-- Name, at any number. -/
theorem name7_all (n : Nat) (w : World) (hn : n ≤ 9223372036854775807) :
    Calls Tryz.prog 73 #[.int .i64 n] w fun e w' => ∃ x ok, e = .returned (.tuple #[.string ⟨x⟩, .bool ok]) ∧ w = w' ∧ ok = (decide (1 ≤ n) && decide (n ≤ 99999999)) ∧ (ok = true → x = (nameB n).toArray) := by
  refine (name7_any n w hn).mono ?_
  rintro e w' ⟨rfl, ⟨h1, h2, rfl⟩ | ⟨h, rfl⟩⟩
  · exact ⟨_, true, rfl, rfl, by simp [h1, h2], fun _ => rfl⟩
  · refine ⟨_, false, rfl, rfl, ?_, fun h => by cases h⟩
    rw [eq_comm, ← Bool.not_eq_true, Bool.and_eq_true, decide_eq_true_eq, decide_eq_true_eq]
    exact h

set_option maxHeartbeats 1000000 in
theorem number7_any (s : Bytes) (w : World) :
    Calls Tryz.prog 119 #[.string ⟨s.toArray⟩] w fun e w' => e = .returned (.tuple #[.int .i64 ((numB s).getD 0 : Nat), .bool (numB s).isSome]) ∧ w = w' := by
  by_cases hl : s.length = 12
  · have hq : ((s.length : Int) != 12) = false := by simp; omega
    have HL : Hid (s.length = 12) := hl
    have hsz : (ByteArray.mk s.toArray).size = 12 := by show s.toArray.size = 12; simpa using hl
    go_enter Tryz.func119, Tryz.ntmps119
    go_wp2
    go_loopw [4, 5] (fun n i wr => ∃ k : Nat, k ≤ 8 ∧ n = .int .i64 (valB ((s.drop 4).take k) : Nat) ∧ i = .int .i64 ((4 + k : Nat) : Int) ∧ ((s.drop 4).take k).all isDig = true ∧ wr = w) (fun _ i _ => 12 - (intOf i).toNat)
    case atStart => exact ⟨0, by omega, rfl, rfl, rfl, rfl⟩
    case round =>
      obtain ⟨k, hk, rfl, rfl, hall, rfl⟩ := hrel
      have HA : Hid (((s.drop 4).take k).all isDig = true) := hall
      clear hall
      by_cases hlt : k < 8
      · have hkl : k < (s.drop 4).length := by rw [List.length_drop]; omega
        have HT : Hid ((s.drop 4).take (k + 1) = (s.drop 4).take k ++ [(s.drop 4)[k]]) := List.take_succ_eq_append_getElem hkl
        have hno : isDig (s.drop 4)[k] = false → Hid (numB s = none) := fun h => by
          show numB s = none
          unfold numB
          rw [if_neg]
          rintro ⟨_, _, ha, _⟩
          have := List.all_eq_true.1 ha (s.drop 4)[k] (List.getElem_mem hkl)
          rw [h] at this
          cases this
        have hvl := valB_lt ((s.drop 4).take k) HA.out
        rw [List.length_take, show min k (s.drop 4).length = k by omega] at hvl
        have hv7 : valB ((s.drop 4).take k) < 10000000 := Nat.lt_of_lt_of_le hvl (Nat.pow_le_pow_right (by decide) (show k ≤ 7 by omega))
        clear hvl
        have HV : Hid (valB ((s.drop 4).take (k + 1)) = 10 * valB ((s.drop 4).take k) + ((s.drop 4)[k].toNat - 48)) := by show _ = _; rw [HT.out, valB_snoc]
        have HA2 : isDig (s.drop 4)[k] = true → Hid (((s.drop 4).take (k + 1)).all isDig = true) := fun h => by show _ = _; rw [HT.out, List.all_append, HA.out, Bool.true_and, List.all_cons, h]; rfl
        have hx : ∀ (h : 4 + k < (ByteArray.mk s.toArray).size), ((ByteArray.mk s.toArray)[4 + k]'h).toNat = (s.drop 4)[k].toNat := fun h => by simp; rfl
        generalize valB ((s.drop 4).take k) = V at *
        have i0 : (0 : Int) ≤ 4 + (k : Int) := by omega
        have i1 : 4 + (k : Int) < 12 := by omega
        have i2 : (4 + (k : Int)).toNat = 4 + k := by omega
        generalize hc : (s.drop 4)[k] = c at *
        clear hc HT HA hkl

        by_cases hd1 : c.toNat < 48
        · have HE := hno (by simp [isDig]; omega)
          have d1 : (c.toNat : Int) < 48 := by omega
          clear hno HA2 HV
          generalize c.toNat = cn at *
          go_wp2
          go_ret2
          exact ⟨by rw [HE.out] <;> rfl, rfl⟩
        · have d1 : ¬ (c.toNat : Int) < 48 := by omega
          by_cases hd2 : 57 < c.toNat
          · have HE := hno (by simp [isDig]; omega)
            have d2 : (57 : Int) < (c.toNat : Int) := by omega
            clear hno HA2 HV
            generalize c.toNat = cn at *
            go_wp2
            go_ret2
            exact ⟨by rw [HE.out] <;> rfl, rfl⟩
          · have d2 : ¬ (57 : Int) < (c.toNat : Int) := by omega
            have HA3 := HA2 (by simp [isDig]; omega)
            clear hno HA2
            generalize c.toNat = cn at *
            go_wp2
            go_roundw
            case rel => exact ⟨k + 1, by omega, by rw [HV.out]; go_num, by go_num, HA3.out, trivial⟩
            case measure => simp [intOf]; omega
      · obtain rfl : k = 8 := by omega
        have htk : (s.drop 4).take 8 = s.drop 4 := List.take_of_length_le (by rw [List.length_drop]; omega)
        have h := HA.out
        rw [htk] at h
        have HE : Hid (numB s = if 1 ≤ valB ((s.drop 4).take 8) ∧ nameB (valB ((s.drop 4).take 8)) = s then some (valB ((s.drop 4).take 8)) else none) := by
          show numB s = _
          rw [htk]
          exact numB_eq s hl h
        have hvl := valB_lt (s.drop 4) h
        rw [List.length_drop, hl, ← htk] at hvl
        clear htk h HA hlt
        generalize valB ((s.drop 4).take 8) = V at *
        have hV : V ≤ 99999999 := by omega
        go_wp2_with (go_at_call 73; refine (name7_all V _ (by omega)).mono ?_; rintro e w1 ⟨x, ok, rfl, rfl, hok, hx⟩; have HOK : Hid (ok = (decide (1 ≤ V) && decide (V ≤ 99999999))) := hok; clear hok; have HXX : Hid (ok = true → x = (nameB V).toArray) := hx; clear hx)
        · have ho : ok = true := by assumption
          have hne : (!(ByteArray.mk x).toList == s) = true := by assumption
          have h1 := HOK.out
          rw [ho, eq_comm, Bool.and_eq_true, decide_eq_true_eq, decide_eq_true_eq] at h1
          have hE : Hid (numB s = none) := by
            show numB s = none
            rw [HE.out, if_neg]
            rintro ⟨_, h⟩
            rw [HXX.out ho, h, ByteArray.toList_eq] at hne
            simp at hne
          go_ret2
          exact ⟨by rw [hE.out] <;> rfl, rfl⟩
        · have ho : ok = true := by assumption
          have hne : (!(ByteArray.mk x).toList == s) = false := by assumption
          have h1 := HOK.out
          rw [ho, eq_comm, Bool.and_eq_true, decide_eq_true_eq, decide_eq_true_eq] at h1
          have hE : Hid (numB s = some V) := by
            show numB s = some V
            rw [HXX.out ho, ByteArray.toList_eq] at hne
            simp at hne
            rw [HE.out, if_pos ⟨h1.1, hne⟩]
          go_ret2
          exact ⟨by rw [hE.out] <;> rfl, rfl⟩
        · have ho : ¬ ok = true := by assumption
          have hE : Hid (numB s = none) := by
            show numB s = none
            rw [HE.out, if_neg]
            rintro ⟨h, _⟩
            apply ho
            rw [HOK.out, decide_eq_true h, decide_eq_true hV]; rfl
          go_ret2
          exact ⟨by rw [hE.out] <;> rfl, rfl⟩
  · have hq : ((s.length : Int) != 12) = true := by simp; omega
    have HE : Hid (numB s = none) := by show numB s = none; unfold numB; rw [if_neg (fun h => hl h.1)]
    clear hl
    go_enter Tryz.func119, Tryz.ntmps119
    go_wp2
    go_ret2
    exact ⟨by rw [HE.out] <;> rfl, rfl⟩

end Go.Proofs.YtepceidajmedeaaGreatDoor
