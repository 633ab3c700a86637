/- Lemmas for a law of this seat, part 15: contracts of the functions that it reaches, and the plain law. No condition but those of each lemma. -/
import Derived.Test.YtepceidajmedeaaGreatDoorWal10
import Derived.Test.YtepceidajmedeaaGreatDoorWal6
import Derived.Shelf.Strings.SlTrimAscii

namespace Go.Proofs.YtepceidajmedeaaGreatDoor
open Go.RowKit CW

theorem indexByte_alw (c : UInt8) : (Lib.indexByte alw c < 0) ↔ okC c = false := by
  have h : ((List.range 256).all fun n => (decide (Lib.indexByte alw (UInt8.ofNat n) < 0)) == !okC (UInt8.ofNat n)) = true := by kernel_rfl
  have h2 := List.all_eq_true.1 h c.toNat (List.mem_range.2 c.toNat_lt)
  simp at h2
  cases hk : okC c <;> simp [hk] at h2 ⊢ <;> omega

theorem named1_any (c : UInt8) (w : World) :
    Calls Tryz.prog 185 #[.int .u8 (c.toNat : Int)] w fun e w' => e = .returned (.bool (!okC c)) ∧ w' = w := by
  have hi := Tryz.strings_IndexByte ⟨alw.toArray⟩ (c.toNat : Int) w
  have e1 : (ByteArray.mk alw.toArray).data.toList = alw := rfl
  have e2 : ((c.toNat : Int).toNat).toUInt8 = c := by simp
  rw [e1, e2] at hi
  have hk := indexByte_alw c
  have HD : Hid (decide (Lib.indexByte alw c < 0) = !okC c) := by
    show _ = _
    cases h : okC c with
    | true => exact decide_eq_false (fun h' => by rw [hk.1 h'] at h; cases h)
    | false => exact decide_eq_true (hk.2 h)
  clear hk e1 e2
  generalize Lib.indexByte alw c = z at *
  go_enter Tryz.func185, Tryz.ntmps185
  go_wp2_with (go_at_call 186; refine hi.mono ?_; rintro e w1 ⟨rfl, rfl⟩)
  go_ret
  exact ⟨by rw [← HD.out] <;> rfl, rfl⟩

set_option maxHeartbeats 400000 in
theorem indexFunc_all (v : Value) (bs : Bytes) (w : World) (hv : SlB (fun _ => False) w v bs) (hall : bs.all okC = true) :
    Calls Tryz.prog 220 #[v, .func (.func 185) #[] #[]] w fun e w' => e = .returned (.int .i64 (-1)) ∧ w' = w := by
  obtain ⟨a, cap, rfl, hn, hcap, _, hcell⟩ := Row.open hv
  have HALL : Hid (bs.all okC = true) := hall
  clear hall
  go_enter Tryz.func220, Tryz.ntmps220
  go_wp2
  go_loopw [8] (fun i wr => ∃ k : Nat, k ≤ bs.length ∧ i = .int .i64 k ∧ wr = w) (fun i _ => bs.length - (intOf i).toNat)
  case atStart => exact ⟨0, by omega, rfl, rfl⟩
  case round =>
    obtain ⟨k, hk, rfl, rfl⟩ := hrel
    by_cases hlt : k < bs.length
    · obtain ⟨b, off, rfl, hbl, _, hc⟩ := hcell (by omega)
      have h1 := hc k (encB bs[k]) (by simp [hlt])
      have hok : okC bs[k] = true := List.all_eq_true.1 HALL.out _ (List.getElem_mem hlt)
      have hn1 := named1_any bs[k] wr
      rw [hok] at hn1
      clear hok hc hcell
      unfold encB at h1
      generalize bs[k].toNat = cn at *
      have i1 : (k : Int) < (bs.length : Int) := by omega
      go_wp2_with (go_at_call 185; refine hn1.mono ?_; rintro e w1 ⟨rfl, rfl⟩)
      go_roundw
      case rel => exact ⟨k + 1, by omega, by go_num, trivial⟩
      case measure => simp [intOf]; omega
    · go_wp2
      go_ret
      exact ⟨rfl, rfl⟩

theorem containsFunc_all (v : Value) (bs : Bytes) (w : World) (hv : SlB (fun _ => False) w v bs) (hall : bs.all okC = true) :
    Calls Tryz.prog 184 #[v, .func (.func 185) #[] #[]] w fun e w' => e = .returned (.bool false) ∧ w' = w := by
  have hi := indexFunc_all v bs w hv hall
  go_enter Tryz.func184, Tryz.ntmps184
  go_wp2_with (go_at_call 220; refine hi.mono ?_; rintro e w1 ⟨rfl, rfl⟩)
  go_ret
  exact ⟨rfl, rfl⟩

theorem trim_any (s : Bytes) (w : World) (hs : s.length ≤ 9223372036854775807) :
    Calls Tryz.prog 183 #[.string ⟨s.toArray⟩, .string ⟨alw.toArray⟩] w fun e w' => ∃ t : Bytes, e = .returned (.string ⟨t.toArray⟩) ∧ (t == []) = s.all okC ∧ Below w.heap.size w w' := by
  have h := Any.strings_Trim_laid Tryz.lays160 (by kernel_rfl) ⟨s.toArray⟩ ⟨alw.toArray⟩ w (by show s.toArray.size ≤ _; simpa using hs) (by decide) (ascii_of_all (by decide))
  refine Calls.mono (show Calls Tryz.prog 183 #[.string ⟨s.toArray⟩, .string ⟨alw.toArray⟩] w _ from h) ?_
  rintro e w' ⟨rfl, hb⟩
  refine ⟨_, rfl, ?_, hb⟩
  have := trimS_nil s
  cases hk : s.all okC with
  | true => exact beq_iff_eq.2 (this.2 hk)
  | false => exact beq_eq_false_iff_ne.2 (fun h' => by rw [this.1 h'] at hk; cases hk)

/-- '[]byte(s)'. -/
theorem conv_bytes (s : Bytes) (w : World) (hs : s.length ≤ maxLen) : ∃ b cap w2, (convert 9 30 (.string ⟨s.toArray⟩)).run Tryz.prog w = .ok (.slice (some ⟨b, 0, none⟩) s.length cap) w2 ∧ SlB (fun _ => False) w2 (.slice (some ⟨b, 0, none⟩) s.length cap) s ∧ Below w.heap.size w w2 := by
  have h := run_bytes_of_string w 9 30 5 ⟨s.toArray⟩ Tryz.underlying9 Tryz.underlying30 Tryz.underlying5
  have hsz : (ByteArray.mk s.toArray).size = s.length := by show s.toArray.size = _; simp
  rw [hsz] at h
  refine ⟨_, _, _, h, ?_, (Below.refl _ _).drew.alloc (Nat.le_refl _) _⟩
  have h1 := grownCap_ge w s.length 0 5
  have h2 := grownCap_le_maxLen w s.length 0 5 hs
  generalize grownCap w s.length 0 5 = cap at *
  refine .inr ⟨w.heap.size, 0, cap, rfl, h1, by unfold maxLen at h2; omega, by simp, fun h => h, fun j u hu => ?_⟩
  have hh : ∀ o, (w.drew.alloc o).heap[w.heap.size]? = some o := fun o => by show (w.heap.push o)[w.heap.size]? = _; simp
  rw [Nat.zero_add, Go.cell_of_row _ w.heap.size j _ _ _ (hh _)]
  rw [List.getElem?_map] at hu
  have hj : j < s.length := by
    rcases Nat.lt_or_ge j s.length with h | h
    · exact h
    · rw [List.getElem?_eq_none h] at hu; cases hu
  rw [List.getElem?_eq_getElem hj] at hu
  cases hu
  simp [bytesRow, encB, Array.getElem?_append, hj]

set_option maxHeartbeats 400000 in
set_option maxRecDepth 100000 in
theorem named_any (s : Bytes) (w : World) (hs : s.length ≤ 9223372036854775807) :
    Calls Tryz.prog 150 #[.string ⟨s.toArray⟩] w fun e w' => e = .returned (.bool (namedB s)) ∧ Below w.heap.size w w' := by
  by_cases h1 : 1 ≤ s.length
  · have d1 : (1 : Int) ≤ (s.length : Int) := by omega
    by_cases h2 : s.length ≤ 100
    · have d2 : (s.length : Int) ≤ 100 := by omega
      have HN : Hid (namedB s = s.all okC) := by show _ = _; unfold namedB; rw [decide_eq_true h1, decide_eq_true h2]; rfl
      have ht := trim_any s w hs
      by_cases hk : s.all okC = true
      · rw [hk] at HN
        go_enter Tryz.func150, Tryz.ntmps150
        go_wp2_with (first
          | (go_at_call 183; refine ht.mono ?_; rintro e w1 ⟨t, rfl, ht2, hb⟩; rw [hk] at ht2; obtain ⟨b2, c2, w2, hcv, hs2, hb2⟩ := conv_bytes s w1 (by unfold maxLen; omega); have hcf := containsFunc_all _ s w2 hs2 hk; have hb3 := hb.trans (hb2.mono hb.size))
          | (go_at_call 184; refine hcf.mono ?_; rintro e w3 ⟨rfl, rfl⟩))
        go_ret
        exact ⟨by rw [HN.out] <;> rfl, hb3⟩
      · have hk' : s.all okC = false := by simpa using hk
        rw [hk'] at HN ht
        clear hk hk'
        go_enter Tryz.func150, Tryz.ntmps150
        go_wp2_with (go_at_call 183; refine ht.mono ?_; rintro e w1 ⟨t, rfl, ht2, hb⟩)
        go_ret
        exact ⟨by rw [HN.out] <;> rfl, hb⟩
    · have d2 : ¬ (s.length : Int) ≤ 100 := by omega
      have HN : Hid (namedB s = false) := by show _ = _; unfold namedB; rw [decide_eq_false h2, Bool.and_false]; rfl
      go_enter Tryz.func150, Tryz.ntmps150
      go_wp2
      go_ret
      exact ⟨by rw [HN.out] <;> rfl, Below.refl _ _⟩
  · have d1 : ¬ (1 : Int) ≤ (s.length : Int) := by omega
    have HN : Hid (namedB s = false) := by show _ = _; unfold namedB; rw [decide_eq_false h1]; rfl
    go_enter Tryz.func150, Tryz.ntmps150
    go_wp2
    go_ret
    exact ⟨by rw [HN.out] <;> rfl, Below.refl _ _⟩

end Go.Proofs.YtepceidajmedeaaGreatDoor
