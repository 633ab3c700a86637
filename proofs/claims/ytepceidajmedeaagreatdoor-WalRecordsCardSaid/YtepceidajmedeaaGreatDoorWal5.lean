/- Lemmas for a law of this seat, part 5: contracts of the functions that it reaches, and the plain law. No condition but those of each lemma. -/
import Derived.Test.YtepceidajmedeaaGreatDoorWal4
import Derived.BigQuiet
import Derived.IntWalk

namespace Go.Proofs.YtepceidajmedeaaGreatDoor
open Go.RowKit CW

def dk5 (room : Int) (v : Value) (plan : Int) (down : Bool) : Array Value := #[.int .i64 room, v, .int .i64 plan, .bool down]
def ixZ : Option Nat → Int
  | some i => (i : Int)
  | none => -1
abbrev nm (p : FileA × Value) : Bytes := p.1.name

set_option maxHeartbeats 1000000 in
theorem find5_any (room plan : Int) (down : Bool) (v : Value) (ps : List (FileA × Value)) (n : Bytes) (w : World) (hv : SlF (fun _ => False) w v ps) :
    Calls Tryz.prog 75 #[.agg (dk5 room v plan down), stV n] w fun e w' => e = .returned (.int .i64 (ixZ (findK nm ps n))) ∧ Below w.heap.size w w' := by
  obtain ⟨a, cap, rfl, hn, hc, hnone, hcell⟩ := hv.open
  unfold dk5 stV
  go_enter Tryz.func75, Tryz.ntmps75
  go_wp2
  go_loopw [5] (fun i wr => ∃ k : Nat, k ≤ ps.length ∧ i = .int .i64 k ∧ Hid (∀ j (h : j < ps.length), j < k → ps[j].1.name ≠ n) ∧ wr = w.alloc (.cells #[.int .i64 room, .slice a ps.length cap, .int .i64 plan, .bool down] 35)) (fun i _ => ps.length - (intOf i).toNat)
  case atStart => exact ⟨0, by omega, rfl, (fun j _ h => absurd h (Nat.not_lt_zero _)), rfl⟩
  case round =>
    obtain ⟨k, hk, rfl, hnot, rfl⟩ := hrel
    by_cases hlt : k < ps.length
    · obtain ⟨b, off, rfl, hbl, _, hcc⟩ := hcell (by omega)
      obtain ⟨c1, _, _⟩ := hcc k hlt
      have hb := (Below.refl w.heap.size w).alloc (Nat.le_refl _) (.cells #[.int .i64 room, .slice (some ⟨b, off, none⟩) ps.length cap, .int .i64 plan, .bool down] 35)
      have c1' := (hb.cell (p := ⟨b, off + k * 3, none⟩) hbl).trans c1
      clear c1
      unfold stV at c1'
      have i1 : (k : Int) < (ps.length : Int) := by omega
      by_cases hx : ps[k].1.name = n
      · have HF : Hid (findK nm ps n = some k) := by
          show _ = _
          rw [findK, List.findIdx?_eq_some_iff_getElem]
          exact ⟨hlt, by simpa [nm] using hx, fun j hj => by simpa [nm] using hnot.out j (by omega) hj⟩
        rw [hx] at c1'
        clear hcc hcell hx
        go_wp2
        go_ret
        exact ⟨by rw [HF.out] <;> rfl, hb⟩
      · have hd : (ps[k].1.name == n) = false := by simpa using hx
        have HN : Hid (∀ j (h : j < ps.length), j < k + 1 → ps[j].1.name ≠ n) := by
          intro j h hj
          rcases Nat.lt_or_ge j k with h2 | h2
          · exact hnot.out j h h2
          · obtain rfl : j = k := by omega
            exact hx
        generalize ps[k].1.name = y at *
        clear hcc hcell hx
        go_wp2
        go_roundw
        case rel => exact ⟨k + 1, by omega, by go_num, HN, trivial⟩
        case measure => simp [intOf]; omega
    · have HF : Hid (findK nm ps n = none) := by
        show _ = _
        rw [findK_none]
        intro p hp
        obtain ⟨j, hj, rfl⟩ := List.mem_iff_getElem.1 hp
        exact hnot.out j hj (by omega)
      go_wp2
      go_ret
      exact ⟨by rw [HF.out] <;> rfl, (Below.refl w.heap.size w).alloc (Nat.le_refl _) _⟩

def usedP (ps : List (FileA × Value)) : Nat := (ps.map (fun p => p.1.b.length)).sum
theorem usedP_take (ps : List (FileA × Value)) (k : Nat) (h : k < ps.length) : usedP (ps.take (k + 1)) = usedP (ps.take k) + ps[k].1.b.length := by
  unfold usedP
  rw [List.take_succ_eq_append_getElem h, List.map_append, List.sum_append]
  simp
theorem usedP_le (ps : List (FileA × Value)) (k : Nat) : usedP (ps.take k) ≤ usedP ps := by
  unfold usedP
  conv => rhs; rw [← List.take_append_drop k ps, List.map_append, List.sum_append]
  omega
theorem usedP_eq (ps : List (FileA × Value)) : usedP ps = usedF (ps.map (·.1)) := by simp [usedP, usedF, List.map_map, Function.comp_def]

set_option maxHeartbeats 1000000 in
theorem used5_any (room plan : Int) (down : Bool) (v : Value) (ps : List (FileA × Value)) (w : World) (hv : SlF (fun _ => False) w v ps) (hu : usedP ps ≤ 4611686018427387904) :
    Calls Tryz.prog 52 #[.agg (dk5 room v plan down)] w fun e w' => e = .returned (.int .i64 (usedP ps : Nat)) ∧ Below w.heap.size w w' := by
  obtain ⟨a, cap, rfl, hn, hc, hnone, hcell⟩ := hv.open
  unfold dk5
  have HU : Hid (usedP ps ≤ 4611686018427387904) := hu
  clear hu
  go_enter Tryz.func52, Tryz.ntmps52
  go_wp2
  go_loopw [3, 4] (fun n i wr => ∃ k : Nat, k ≤ ps.length ∧ i = .int .i64 k ∧ n = .int .i64 (usedP (ps.take k) : Nat) ∧ wr = w.alloc (.cells #[.int .i64 room, .slice a ps.length cap, .int .i64 plan, .bool down] 35)) (fun _ i _ => ps.length - (intOf i).toNat)
  case atStart => exact ⟨0, by omega, rfl, rfl, rfl⟩
  case round =>
    obtain ⟨k, hk, rfl, rfl, rfl⟩ := hrel
    by_cases hlt : k < ps.length
    · obtain ⟨b, off, rfl, hbl, _, hcc⟩ := hcell (by omega)
      obtain ⟨_, c1, _⟩ := hcc k hlt
      have hb := (Below.refl w.heap.size w).alloc (Nat.le_refl _) (.cells #[.int .i64 room, .slice (some ⟨b, off, none⟩) ps.length cap, .int .i64 plan, .bool down] 35)
      have c1' := (hb.cell (p := ⟨b, off + (k * 3 + 1), none⟩) hbl).trans c1
      clear c1
      have hsh := hv.2 ps[k] (List.getElem_mem hlt)
      obtain ⟨a2, cap2, hsv, hs1, hs2⟩ := hsh.shape
      rw [hsv] at c1'
      have HT : Hid (usedP (ps.take (k + 1)) = usedP (ps.take k) + ps[k].1.b.length) := usedP_take ps k hlt
      have hle : usedP (ps.take (k + 1)) ≤ 4611686018427387904 := Nat.le_trans (usedP_le ps (k + 1)) HU.out
      have hle2 := HT.out ▸ hle
      clear hle hsv hsh hcc hcell
      generalize ps[k].1.b.length = m at *
      generalize usedP (ps.take k) = u at *
      have i1 : (k : Int) < (ps.length : Int) := by omega
      rw [show off + (k * 3 + 1) = off + k * 3 + 1 by omega] at c1'
      go_wp2
      go_roundw
      case rel => exact ⟨k + 1, by omega, by go_num, by rw [HT.out] <;> go_num, trivial⟩
      case measure => simp [intOf]; omega
    · have htk : ps.take k = ps := List.take_of_length_le (by omega)
      rw [htk] at *
      go_wp2
      go_ret
      exact ⟨rfl, (Below.refl w.heap.size w).alloc (Nat.le_refl _) _⟩

theorem tyS : SlTy Tryz.prog 47 9 1 16 (.string ⟨#[]⟩) := SlTy.mk' Tryz.underlying47 (by kernel_rfl) rfl (by decide)
theorem tyF : SlTy Tryz.prog 33 121 3 48 (.agg #[.string ⟨#[]⟩, .slice none 0 0, .int .i64 0]) := SlTy.mk' Tryz.underlying33 (by kernel_rfl) rfl (by decide)

def namesV (ps : List (FileA × Value)) : List Value := ps.map (fun p => stV p.1.name)
theorem namesV_take (ps : List (FileA × Value)) (k : Nat) (h : k < ps.length) : namesV (ps.take (k + 1)) = namesV (ps.take k) ++ [stV ps[k].1.name] := by
  unfold namesV
  rw [List.take_succ_eq_append_getElem h, List.map_append]
  rfl

set_option maxHeartbeats 1000000 in
theorem names5_any (room plan : Int) (down : Bool) (v : Value) (ps : List (FileA × Value)) (w : World) (hv : SlF (fun _ => False) w v ps) (hl : ps.length ≤ 1048576) :
    Calls Tryz.prog 50 #[.agg (dk5 room v plan down)] w fun e w' => ∃ v', e = .returned v' ∧ w'.ownsRow w.heap.size 9 1 v' ps.length (namesV ps) ∧ Below w.heap.size w w' := by
  obtain ⟨a, cap, rfl, hn, hc, hnone, hcell⟩ := hv.open
  unfold dk5
  go_enter Tryz.func50, Tryz.ntmps50
  go_wp2
  have hbb : ∀ C, Below w.heap.size w (w.alloc C) := fun C => (Below.refl w.heap.size w).alloc (Nat.le_refl _) C
  have hsz : ∀ C, (w.alloc C).heap.size = w.heap.size + 1 := fun C => by simp
  have hbx : ∀ C, (w.alloc C).heap[w.heap.size]? = some C := fun C => by show (w.heap.push C)[w.heap.size]? = _; simp
  go_loopw [3, 4] (fun out i wr => ∃ k : Nat, k ≤ ps.length ∧ i = .int .i64 k ∧ wr.ownsRow (w.heap.size + 1) 9 1 out k (namesV (ps.take k)) ∧ Hid (Below (w.heap.size + 1) (w.alloc (.cells #[.int .i64 room, .slice a ps.length cap, .int .i64 plan, .bool down] 35)) wr)) (fun _ i _ => ps.length - (intOf i).toNat)
  case atStart => exact ⟨0, by omega, rfl, World.ownsRow_nil _ _ _ _, Below.refl _ _⟩
  case round =>
    obtain ⟨k, hk, rfl, hown, hB⟩ := hrel
    have hw1 := hbb (.cells #[.int .i64 room, .slice a ps.length cap, .int .i64 plan, .bool down] 35)
    have hx1 := hbx (.cells #[.int .i64 room, .slice a ps.length cap, .int .i64 plan, .bool down] 35)
    have hz1 := hsz (.cells #[.int .i64 room, .slice a ps.length cap, .int .i64 plan, .bool down] 35)
    clear hbb hbx hsz
    generalize hW : w.alloc (.cells #[.int .i64 room, .slice a ps.length cap, .int .i64 plan, .bool down] 35) = W1 at *
    clear hW
    have hB' := hB.out
    have hsz' : w.heap.size + 1 ≤ wr.heap.size := by have := hB'.size; omega
    have hx2 : wr.heap[w.heap.size]? = some (.cells #[.int .i64 room, .slice a ps.length cap, .int .i64 plan, .bool down] 35) := (hB'.block _ (by omega)).trans hx1
    have cbx : wr.cell? ⟨w.heap.size, 1, none⟩ = some (.slice a ps.length cap) := by
      rw [Go.cell_of_row _ w.heap.size 1 _ _ _ hx2]; rfl
    have hBw : Below w.heap.size w wr := hw1.trans (hB'.mono (by omega))
    by_cases hlt : k < ps.length
    · obtain ⟨b, off, rfl, hbl, _, hcc⟩ := hcell (by omega)
      obtain ⟨c1, _, _⟩ := hcc k hlt
      have c1' := (hBw.cell (p := ⟨b, off + k * 3, none⟩) hbl).trans c1
      have HT : Hid (namesV (ps.take (k + 1)) = namesV (ps.take k) ++ [stV ps[k].1.name]) := namesV_take ps k hlt
      clear c1 hcc hcell
      unfold stV at c1'
      generalize ps[k].1.name = y at *
      generalize namesV (ps.take k) = zs at *
      have i1 : (k : Int) < (ps.length : Int) := by omega
      go_wp2_with (at_builtin; refine wpList_app tyS rfl rfl rfl rfl (hown.alloc _) (Row.lit1 wr (.string ⟨y.toArray⟩) 9) rfl (by intro u hu; simp at hu; subst hu; rfl) (by unfold maxLen; omega) (by omega) (by simp; omega) ?_; intro v2 w2 ho2 hg2)
      have hb3 : Below (w.heap.size + 1) W1 w2 := (hB'.alloc hsz' _).trans (below_grown (hown.alloc _) hg2 (by simp; omega))
      go_roundw
      case rel => exact ⟨k + 1, by omega, by go_num, by rw [HT.out]; exact ho2, hb3⟩
      case measure => simp [intOf]; omega
    · have htk : ps.take k = ps := List.take_of_length_le (by omega)
      have hkl : k = ps.length := by omega
      rw [htk, hkl] at hown
      go_wp2
      go_ret
      exact ⟨_, rfl, owns_base hown (by omega), hBw⟩

theorem withoutK_take (ps : List (FileA × Value)) (n : Bytes) (k : Nat) (h : k < ps.length) : withoutK nm (ps.take (k + 1)) n = withoutK nm (ps.take k) n ++ (if ps[k].1.name = n then [] else [ps[k]]) := by
  unfold withoutK
  rw [List.take_succ_eq_append_getElem h, List.filter_append]
  congr 1
  by_cases hx : ps[k].1.name = n <;> simp [nm, hx]

/-- A literal of one file. -/
theorem Row.litF (w : World) (p : FileA × Value) (e : TypeId) : Row (fun _ => False) (w.alloc (.cells #[.string ⟨p.1.name.toArray⟩, p.2, .int .i64 (p.1.dur : Int)] e)) (.slice (some ⟨w.heap.size, 0, none⟩) 1 1) 1 (cellsF [p]) :=
  (Row.lit (size := 3) (Nat.le_refl _) (by decide) rfl rfl).mono (fun _ _ h => h.elim)

set_option maxHeartbeats 2000000 in
theorem without_any (v : Value) (ps : List (FileA × Value)) (n : Bytes) (w : World) (hv : SlF (fun _ => False) w v ps) (hl : ps.length ≤ 1048576) :
    Calls Tryz.prog 131 #[v, stV n] w fun e w' => ∃ v', e = .returned v' ∧ w'.ownsRow w.heap.size 121 3 v' (withoutK nm ps n).length (cellsF (withoutK nm ps n)) ∧ Below w.heap.size w w' := by
  obtain ⟨a, cap, rfl, hn, hc, hnone, hcell⟩ := hv.open
  unfold stV
  go_enter Tryz.func131, Tryz.ntmps131
  go_wp2
  go_loopw [5, 6] (fun out i wr => ∃ k : Nat, k ≤ ps.length ∧ i = .int .i64 k ∧ wr.ownsRow w.heap.size 121 3 out (withoutK nm (ps.take k) n).length (cellsF (withoutK nm (ps.take k) n)) ∧ Below w.heap.size w wr) (fun _ i _ => ps.length - (intOf i).toNat)
  case atStart => exact ⟨0, by omega, rfl, World.ownsRow_nil _ _ _ _, Below.refl _ _⟩
  case round =>
    obtain ⟨k, hk, rfl, hown, hB⟩ := hrel
    by_cases hlt : k < ps.length
    · obtain ⟨b, off, rfl, hbl, _, hcc⟩ := hcell (by omega)
      obtain ⟨c1, c2, c3⟩ := hcc k hlt
      have c1' := (hB.cell (p := ⟨b, off + k * 3, none⟩) hbl).trans c1
      have c2' := (hB.cell (p := ⟨b, off + (k * 3 + 1), none⟩) hbl).trans c2
      have c3' := (hB.cell (p := ⟨b, off + (k * 3 + 2), none⟩) hbl).trans c3
      rw [show off + (k * 3 + 1) = off + k * 3 + 1 by omega] at c2'
      rw [show off + (k * 3 + 2) = off + k * 3 + 2 by omega] at c3'
      have HT : Hid (withoutK nm (ps.take (k + 1)) n = withoutK nm (ps.take k) n ++ (if ps[k].1.name = n then [] else [ps[k]])) := withoutK_take ps n k hlt
      have hnl : (withoutK nm (ps.take k) n).length ≤ 1048576 := Nat.le_trans (withoutK_len _ _) (by rw [List.length_take]; omega)
      obtain ⟨a2, cap2, hsv, hs1, hs2⟩ := (hv.2 ps[k] (List.getElem_mem hlt)).shape
      clear c1 c2 c3 hcc hcell
      unfold stV at c1'
      have i1 : (k : Int) < (ps.length : Int) := by omega
      generalize hq : ps[k] = q at *
      clear hq
      generalize withoutK nm (ps.take k) n = zs at *
      by_cases hx : q.1.name = n
      · have HT2 : Hid (withoutK nm (ps.take (k + 1)) n = zs) := by show _ = _; rw [HT.out, if_pos hx, List.append_nil]
        clear HT
        rw [hx] at c1'
        clear hx
        go_wp2
        go_roundw
        case rel => exact ⟨k + 1, by omega, by go_num, by rw [HT2.out]; exact hown, hB⟩
        case measure => simp [intOf]; omega
      · have HT2 : Hid (withoutK nm (ps.take (k + 1)) n = zs ++ [q]) := by show _ = _; rw [HT.out, if_neg hx]
        have hd : (q.1.name == n) = false := by simpa using hx
        have hone : ∀ u ∈ cellsF [q], u.oneCell' = true := cellsF_one _ (fun p hp => by simp at hp; subst hp; rw [hsv]; rfl)
        have hrow := Row.litF wr q 121
        rw [hsv] at c2' hrow
        clear HT hx
        go_wp2_with (at_builtin; refine wpList_app tyF rfl rfl rfl rfl (hown.alloc _) hrow rfl hone (by unfold maxLen; omega) (by omega) (by have := hB.size; simp; omega) ?_; intro v2 w2 ho2 hg2)
        have hb3 : Below w.heap.size w w2 := (hB.alloc hB.size _).trans (below_grown (hown.alloc _) hg2 (by have := hB.size; simp; omega))
        go_roundw
        case rel => exact ⟨k + 1, by omega, by go_num, by rw [HT2.out, cellsF_append, List.length_append]; exact ho2, hb3⟩
        case measure => simp [intOf]; omega
    · have htk : ps.take k = ps := List.take_of_length_le (by omega)
      rw [htk] at hown
      go_wp2
      go_ret
      exact ⟨_, rfl, hown, hB⟩

end Go.Proofs.YtepceidajmedeaaGreatDoor

namespace Go.Proofs.YtepceidajmedeaaGreatDoor
open Go.RowKit CW

theorem box_facts (w : World) (C : Obj) : Below w.heap.size w (w.alloc C) ∧ (w.alloc C).heap.size = w.heap.size + 1 ∧ (w.alloc C).heap[w.heap.size]? = some C :=
  ⟨(Below.refl w.heap.size w).alloc (Nat.le_refl _) C, by simp, by show (w.heap.push C)[w.heap.size]? = _; simp⟩

theorem takeWhileK {α : Type} {key : α → Bytes} (zs : List α) (n : Bytes) (j : Nat) (hj : j ≤ zs.length) (h1 : (zs.take j).all (fun z => ltB (key z) n) = true) (h2 : ∀ (h : j < zs.length), ltB (key zs[j]) n = false) :
    zs.takeWhile (fun z => ltB (key z) n) = zs.take j ∧ zs.dropWhile (fun z => ltB (key z) n) = zs.drop j := by
  induction zs generalizing j with
  | nil => simp
  | cons z zs ih =>
    cases j with
    | zero =>
      have h3 := h2 (by simp)
      rw [List.getElem_cons_zero] at h3
      rw [List.takeWhile_cons, List.dropWhile_cons, h3]
      exact ⟨rfl, rfl⟩
    | succ j =>
      simp only [List.take_succ_cons, List.all_cons, Bool.and_eq_true] at h1
      obtain ⟨i1, i2⟩ := ih j (by simpa using hj) h1.2 (fun h => h2 (by simpa using h))
      rw [List.takeWhile_cons, List.dropWhile_cons, h1.1]
      simp [i1, i2]

set_option maxHeartbeats 2000000 in
set_option maxRecDepth 100000 in
theorem put5_any (v : Value) (ps : List (FileA × Value)) (q : FileA × Value) (w : World) (hv : SlF (fun _ => False) w v ps) (hq : SlB (fun _ => False) w q.2 q.1.b) (hl : ps.length ≤ 1048576) :
    Calls Tryz.prog 130 #[v, .agg #[stV q.1.name, q.2, .int .i64 (q.1.dur : Int)]] w fun e w' => ∃ v', e = .returned v' ∧ w'.ownsRow w.heap.size 121 3 v' (putK nm ps q).length (cellsF (putK nm ps q)) ∧ Below w.heap.size w w' := by
  unfold stV
  obtain ⟨a2, cap2, hsv, hs1, hs2⟩ := hq.shape
  rw [hsv]
  have hb0 := box_facts w (.cells #[.string ⟨q.1.name.toArray⟩, .slice a2 q.1.b.length cap2, .int .i64 (q.1.dur : Int)] 121)
  have hcw := without_any v ps q.1.name _ (hv.below hb0.1) hl
  have hzl := withoutK_len (key := nm) ps q.1.name
  have HP : Hid (putK nm ps q = insK nm (withoutK nm ps q.1.name) q) := rfl
  have hone0 : ∀ p ∈ withoutK nm ps q.1.name, p.2.oneCell' = true := fun p hp => hv.2.one p (List.mem_filter.1 hp).1
  generalize withoutK nm ps q.1.name = zs at *
  have hzl2 : zs.length ≤ 1048576 := by omega
  clear hzl
  unfold stV at hcw
  go_enter Tryz.func130, Tryz.ntmps130
  go_wp2_with (go_at_call 131; refine hcw.mono ?_; rintro e w2 ⟨v1, rfl, ho1, hb1⟩)
  generalize hW : w.alloc (.cells #[.string ⟨q.1.name.toArray⟩, .slice a2 q.1.b.length cap2, .int .i64 (q.1.dur : Int)] 121) = W1 at *
  have hx2 : w2.heap[w.heap.size]? = some (.cells #[.string ⟨q.1.name.toArray⟩, .slice a2 q.1.b.length cap2, .int .i64 (q.1.dur : Int)] 121 (0, 0)) := (hb1.block _ (by omega)).trans hb0.2.2
  have cq0 : w2.cell? ⟨w.heap.size, 0, none⟩ = some (.string ⟨q.1.name.toArray⟩) := by rw [Go.cell_of_row _ w.heap.size 0 _ _ _ hx2]; rfl
  have cq1 : w2.cell? ⟨w.heap.size, 1, none⟩ = some (.slice a2 q.1.b.length cap2) := by rw [Go.cell_of_row _ w.heap.size 1 _ _ _ hx2]; rfl
  have cq2 : w2.cell? ⟨w.heap.size, 2, none⟩ = some (.int .i64 (q.1.dur : Int)) := by rw [Go.cell_of_row _ w.heap.size 2 _ _ _ hx2]; rfl
  have hlt2 : w.heap.size < w2.heap.size := by have := hb1.size; omega
  have hbw : Below w.heap.size w w2 := hb0.1.trans (hb1.mono (by omega))
  clear hx2 hW
  have hrow := Row.of_owns ho1
  obtain ⟨az, cz, rfl, hz1, hz2, hz3, hz4⟩ := hrow.open
  go_loopw [5] (fun at_ W => ∃ j : Nat, j ≤ zs.length ∧ at_ = .int .i64 j ∧ Hid ((zs.take j).all (fun z => ltB (nm z) q.1.name) = true) ∧ Hid (Below w2.heap.size w2 W)) (fun at_ _ => zs.length - (intOf at_).toNat)
  case atStart => exact ⟨0, by omega, rfl, rfl, Below.refl _ _⟩
  case round =>
    obtain ⟨j, hj, rfl, HALL, HB⟩ := hrel
    have hBB := HB.out
    have cq0 := (hBB.cell (p := ⟨w.heap.size, 0, none⟩) hlt2).trans cq0
    have cq1 := (hBB.cell (p := ⟨w.heap.size, 1, none⟩) hlt2).trans cq1
    have cq2 := (hBB.cell (p := ⟨w.heap.size, 2, none⟩) hlt2).trans cq2
    by_cases hjl : j < zs.length ∧ ltB ((zs[j]?.map nm).getD []) q.1.name = true
    · obtain ⟨hj1, hj2⟩ := hjl
      obtain ⟨bz, oz, rfl, hbz, _, hcz⟩ := hz4 (by omega)
      have c1 := hcz (j * 3) (stV zs[j].1.name) (by have := cellsF_get zs j 0 hj1 (by omega); rw [Nat.add_zero] at this; rw [this]; rfl)
      have e1 : (zs[j]?.map nm).getD [] = zs[j].1.name := by simp [hj1]
      rw [e1] at hj2
      have HT3 : Hid (zs.take (j + 1) = zs.take j ++ [zs[j]]) := List.take_succ_eq_append_getElem hj1
      clear e1 hcz hz4
      have HA : Hid ((zs.take (j + 1)).all (fun z => ltB (nm z) q.1.name) = true) := by show _ = _; rw [HT3.out, List.all_append, HALL.out]; simpa [nm] using hj2
      generalize zs[j] = y at *
      unfold stV at c1
      clear HT3 HALL
      have i2 : (j : Int) < (zs.length : Int) := by omega
      have c1 := (hBB.cell (p := ⟨bz, oz + j * 3, none⟩) hbz).trans c1
      have hd : Op.bytesLess y.1.name q.1.name = true := by rw [bytesLess_eq]; exact hj2
      clear hj2
      go_wp2
      go_quiet (fail)
      go_wp2
      go_roundw
      case rel => exact ⟨j + 1, by omega, by go_num, HA.out, below_drewN' hBB _⟩
      case measure => simp [intOf]; omega
    · have htw := takeWhileK (key := nm) zs q.1.name j hj HALL.out (fun h => by
        cases hk : ltB (nm zs[j]) q.1.name with
        | false => rfl
        | true => exact absurd ⟨h, by rw [List.getElem?_eq_getElem h]; exact hk⟩ hjl)
      have HT3 : Hid (putK nm ps q = zs.take j ++ q :: zs.drop j) := by show _ = _; rw [HP.out, insK, htw.1, htw.2]
      clear htw HALL
      have i3 : (j : Int) ≤ (cz : Int) := by omega
      by_cases hj1 : j < zs.length
      · obtain ⟨bz, oz, rfl, hbz, _, hcz⟩ := hz4 (by omega)
        have c1 := hcz (j * 3) (stV zs[j].1.name) (by have := cellsF_get zs j 0 hj1 (by omega); rw [Nat.add_zero] at this; rw [this]; rfl)
        have hd : Op.bytesLess zs[j].1.name q.1.name = false := by
          rw [bytesLess_eq]
          cases hk : ltB zs[j].1.name q.1.name with
          | false => rfl
          | true => exact absurd ⟨hj1, by rw [List.getElem?_eq_getElem hj1]; exact hk⟩ hjl
        have c1 := (hBB.cell (p := ⟨bz, oz + j * 3, none⟩) hbz).trans c1
        clear hcz hz4 hjl
        generalize zs[j] = y at *
        unfold stV at c1
        have i2 : (j : Int) < (zs.length : Int) := by omega
        have i4 : ¬ cz = j := by omega
        go_wp2
        go_quiet (fail)
        go_wp2
        have hBq : Below w2.heap.size w2 (wr.drewN nq) := below_drewN' hBB _
        have cr0 := (below_drewN' (Below.refl wr.heap.size wr) nq)
        have cq0' : (wr.drewN nq).cell? ⟨w.heap.size, 0, none⟩ = some (.string ⟨q.1.name.toArray⟩) := cq0
        have cq1' : (wr.drewN nq).cell? ⟨w.heap.size, 1, none⟩ = some (.slice a2 q.1.b.length cap2) := cq1
        have cq2' : (wr.drewN nq).cell? ⟨w.heap.size, 2, none⟩ = some (.int .i64 (q.1.dur : Int)) := cq2
        have hlt3 : w.heap.size < (wr.drewN nq).heap.size := Nat.lt_of_lt_of_le hlt2 hBq.size
        clear cq0 cq1 cq2 cr0
        generalize wr.drewN nq = wq at *
        have hrw : Row (fun _ => False) wq (.slice (some ⟨bz, oz, none⟩) zs.length cz) zs.length (cellsF zs) := ((Row.of_owns ho1).below hBq).mono (fun _ _ h => h.elim)
        obtain ⟨hup, hrup⟩ := run_upto tyF hrw j hj (cellsF_len zs)
        obtain ⟨ad, cd, hdn, hrdn⟩ := run_after tyF hrw j hj (cellsF_len zs)
        rw [cellsF_take zs j hj] at hrup
        rw [cellsF_drop zs j hj] at hrdn
        have hSS : ∀ W, Below wq.heap.size wq W → (Below wq.heap.size wq W ∧ W.cell? ⟨w.heap.size, 0, none⟩ = some (.string ⟨q.1.name.toArray⟩) ∧ W.cell? ⟨w.heap.size, 1, none⟩ = some (.slice a2 q.1.b.length cap2) ∧ W.cell? ⟨w.heap.size, 2, none⟩ = some (.int .i64 (q.1.dur : Int))) := fun W h => ⟨h, (h.cell (p := ⟨w.heap.size, 0, none⟩) hlt3).trans cq0', (h.cell (p := ⟨w.heap.size, 1, none⟩) hlt3).trans cq1', (h.cell (p := ⟨w.heap.size, 2, none⟩) hlt3).trans cq2'⟩
        have hSA : ∀ W C, (Below wq.heap.size wq W ∧ W.cell? ⟨w.heap.size, 0, none⟩ = some (.string ⟨q.1.name.toArray⟩) ∧ W.cell? ⟨w.heap.size, 1, none⟩ = some (.slice a2 q.1.b.length cap2) ∧ W.cell? ⟨w.heap.size, 2, none⟩ = some (.int .i64 (q.1.dur : Int))) → Below wq.heap.size wq (W.alloc C) ∧ (W.alloc C).cell? ⟨w.heap.size, 0, none⟩ = some (.string ⟨q.1.name.toArray⟩) ∧ (W.alloc C).cell? ⟨w.heap.size, 1, none⟩ = some (.slice a2 q.1.b.length cap2) ∧ (W.alloc C).cell? ⟨w.heap.size, 2, none⟩ = some (.int .i64 (q.1.dur : Int)) := fun W C h => hSS _ (h.1.alloc h.1.size C)
        have hST : ∀ W W', (Below wq.heap.size wq W ∧ W.cell? ⟨w.heap.size, 0, none⟩ = some (.string ⟨q.1.name.toArray⟩) ∧ W.cell? ⟨w.heap.size, 1, none⟩ = some (.slice a2 q.1.b.length cap2) ∧ W.cell? ⟨w.heap.size, 2, none⟩ = some (.int .i64 (q.1.dur : Int))) → Below wq.heap.size W W' → Below wq.heap.size wq W' := fun W W' h k => h.1.trans k
        have hSz : ∀ W, (Below wq.heap.size wq W ∧ W.cell? ⟨w.heap.size, 0, none⟩ = some (.string ⟨q.1.name.toArray⟩) ∧ W.cell? ⟨w.heap.size, 1, none⟩ = some (.slice a2 q.1.b.length cap2) ∧ W.cell? ⟨w.heap.size, 2, none⟩ = some (.int .i64 (q.1.dur : Int))) → wq.heap.size ≤ W.heap.size := fun W h => h.1.size
        have hSR : ∀ W v n cs, (Below wq.heap.size wq W ∧ W.cell? ⟨w.heap.size, 0, none⟩ = some (.string ⟨q.1.name.toArray⟩) ∧ W.cell? ⟨w.heap.size, 1, none⟩ = some (.slice a2 q.1.b.length cap2) ∧ W.cell? ⟨w.heap.size, 2, none⟩ = some (.int .i64 (q.1.dur : Int))) → Row (fun _ => False) wq v n cs → Row (fun _ => False) W v n cs := fun W v n cs h k => k.below h.1
        have hS0 := hSS wq.drew (Below.refl _ _).drew
        have hone1 : ∀ u ∈ cellsF (zs.take j), u.oneCell' = true := cellsF_one _ (fun p hp => hone0 p (List.mem_of_mem_take hp))
        have hone2 : ∀ u ∈ cellsF (zs.drop j), u.oneCell' = true := cellsF_one _ (fun p hp => hone0 p (List.mem_of_mem_drop hp))
        have hl1 : (cellsF (zs.take j)).length = j * 3 := by rw [cellsF_len, List.length_take]; omega
        have hl2 : (cellsF (zs.drop j)).length = (zs.length - j) * 3 := by rw [cellsF_len, List.length_drop]
        have hx1 : ∀ u ∈ cellsF [q], u.oneCell' = true := cellsF_one _ (fun p hp => by simp at hp; subst hp; rw [hsv]; rfl)
        have hlq : (cellsF [q]).length = 1 * 3 := rfl
        have hz0 : wq.heap.size ≤ wq.heap.size := Nat.le_refl _
        have hlitF : ∀ W : World, Row (fun _ => False) (W.alloc (.cells #[.string ⟨q.1.name.toArray⟩, .slice a2 q.1.b.length cap2, .int .i64 (q.1.dur : Int)] 121)) (.slice (some ⟨W.heap.size, 0, none⟩) 1 1) 1 (cellsF [q]) := fun W => by have h := Row.litF W q 121; rwa [hsv] at h
        have hown3 : ((wq.alloc (.cells #[.string ⟨q.1.name.toArray⟩, .slice a2 q.1.b.length cap2, .int .i64 (q.1.dur : Int)] 121)).alloc (.cells #[] 121)).ownsRow wq.heap.size 121 3 (.slice (some ⟨wq.heap.size + 1, 0, none⟩) 0 0) 0 [] := by
          have h := World.ownsRow_made (base := wq.heap.size) (e := 121) (size := 3) (wq.alloc (.cells #[.string ⟨q.1.name.toArray⟩, .slice a2 q.1.b.length cap2, .int .i64 (q.1.dur : Int)] 121)) #[] 0 (by simp) (by decide) rfl
          rwa [show (wq.alloc (.cells #[.string ⟨q.1.name.toArray⟩, .slice a2 q.1.b.length cap2, .int .i64 (q.1.dur : Int)] 121)).heap.size = wq.heap.size + 1 from by simp] at h
        go_region_held3 (fun W => Below wq.heap.size wq W ∧ W.cell? ⟨w.heap.size, 0, none⟩ = some (.string ⟨q.1.name.toArray⟩) ∧ W.cell? ⟨w.heap.size, 1, none⟩ = some (.slice a2 q.1.b.length cap2) ∧ W.cell? ⟨w.heap.size, 2, none⟩ = some (.int .i64 (q.1.dur : Int))) (first | assumption | exact hSA _ _ (by assumption))
          (first
            | (refine wpH_appB (base := wq.heap.size) tyF rfl (s := .tmp 26) (x := .tmp 29) rfl rfl rfl (n := 0) (xs := []) (World.ownsRow_made wq #[] 0 hz0 (by decide) rfl) (hSR _ _ _ _ (by assumption) hrup) hl1 hone1 (by unfold maxLen; omega) (by omega) (hSz _ (by assumption)) ?_; intro v1 w1 ho1 hg1 hb1; have hS1 := hSS w1 (hST _ _ (by assumption) hb1))
            | (refine wpH_appB (base := wq.heap.size) tyF rfl (s := .tmp 26) (x := .tmp 29) rfl (v := .slice (some ⟨wq.heap.size, 0, none⟩) 0 0) rfl rfl (n := 0) (xs := []) ((World.ownsRow_made wq #[] 0 hz0 (by decide) rfl).alloc _) (hSR _ _ _ _ (by assumption) hrup) hl1 hone1 (by unfold maxLen; omega) (by omega) (hSz _ (by assumption)) ?_; intro v1 w1 ho1 hg1 hb1; have hS1 := hSS w1 (hST _ _ (by assumption) hb1); have hlit := Row.grown (hlitF (wq.alloc (.cells #[] 121))).drew hg1 (by simp [Value.ownBlock]); rw [show (wq.alloc (.cells #[] 121)).heap.size = wq.heap.size + 1 from (by simp)] at hlit)
            | (refine wpH_appB (base := wq.heap.size) tyF rfl (s := .tmp 26) (x := .tmp 29) rfl (v := .slice (some ⟨wq.heap.size + 1, 0, none⟩) 0 0) rfl rfl (n := 0) (xs := []) hown3 (hSR _ _ _ _ (by assumption) hrup) hl1 hone1 (by unfold maxLen; omega) (by omega) (hSz _ (by assumption)) ?_; intro v1 w1 ho1 hg1 hb1; have hS1 := hSS w1 (hST _ _ (by assumption) hb1); have hlit := Row.grown ((hlitF wq).below ((Below.refl _ _).alloc (Nat.le_refl _) (.cells #[] 121))).drew hg1 (by simp [Value.ownBlock]))
            | (refine wpH_appB (base := wq.heap.size) tyF rfl (s := .tmp 30) (x := .tmp 32) rfl rfl rfl (ho1.alloc _) (hlitF w1) hlq hx1 (by unfold maxLen; omega) (by omega) (hSz _ (by assumption)) ?_; intro v2 w2 ho2 hg2 hb2; have hS2 := hSS w2 (hST _ _ (by assumption) hb2))
            | (refine wpH_appB (base := wq.heap.size) tyF rfl (s := .tmp 30) (x := .tmp 32) rfl rfl rfl ho1 hlit hlq hx1 (by unfold maxLen; omega) (by omega) (hSz _ (by assumption)) ?_; intro v2 w2 ho2 hg2 hb2; have hS2 := hSS w2 (hST _ _ (by assumption) hb2))
            | (refine wpH_appB (base := wq.heap.size) tyF rfl (s := .tmp 33) (x := .tmp 36) rfl rfl rfl ho2 (hSR _ _ _ _ (by assumption) hrdn) hl2 hone2 (by unfold maxLen; omega) (by omega) (hSz _ (by assumption)) ?_; intro v3 w3 ho3 hg3 hb3; have hS3 := hSS w3 (hST _ _ (by assumption) hb3)))
        all_goals
          have hE := owns_base ho3 (show w.heap.size ≤ wq.heap.size from Nat.le_of_lt hlt3)
          rw [show 0 + j + 1 + (zs.length - j) = (zs.take j ++ q :: zs.drop j).length by simp; omega, show [] ++ cellsF (zs.take j) ++ cellsF [q] ++ cellsF (zs.drop j) = cellsF (zs.take j ++ q :: zs.drop j) by rw [List.nil_append, ← cellsF_append, ← cellsF_append, List.append_assoc]; rfl] at hE
          rw [← HT3.out] at hE
          have hbE := (hbw.trans (hBq.mono hbw.size)).trans (hS3.1.mono (Nat.le_of_lt hlt3))
          go_wp2
          go_ret
          exact ⟨_, rfl, hE, hbE⟩
      · have i2 : ¬ (j : Int) < (zs.length : Int) := by omega
        clear hjl hz4
        go_wp2
        go_quiet (fail)
        go_wp2
        have hBq : Below w2.heap.size w2 (wr.drewN nq) := below_drewN' hBB _
        have cr0 := (below_drewN' (Below.refl wr.heap.size wr) nq)
        have cq0' : (wr.drewN nq).cell? ⟨w.heap.size, 0, none⟩ = some (.string ⟨q.1.name.toArray⟩) := cq0
        have cq1' : (wr.drewN nq).cell? ⟨w.heap.size, 1, none⟩ = some (.slice a2 q.1.b.length cap2) := cq1
        have cq2' : (wr.drewN nq).cell? ⟨w.heap.size, 2, none⟩ = some (.int .i64 (q.1.dur : Int)) := cq2
        have hlt3 : w.heap.size < (wr.drewN nq).heap.size := Nat.lt_of_lt_of_le hlt2 hBq.size
        clear cq0 cq1 cq2 cr0
        generalize wr.drewN nq = wq at *
        have hrw : Row (fun _ => False) wq (.slice az zs.length cz) zs.length (cellsF zs) := ((Row.of_owns ho1).below hBq).mono (fun _ _ h => h.elim)
        obtain ⟨hup, hrup⟩ := run_upto tyF hrw j hj (cellsF_len zs)
        obtain ⟨ad, cd, hdn, hrdn⟩ := run_after tyF hrw j hj (cellsF_len zs)
        rw [cellsF_take zs j hj] at hrup
        rw [cellsF_drop zs j hj] at hrdn
        have hSS : ∀ W, Below wq.heap.size wq W → (Below wq.heap.size wq W ∧ W.cell? ⟨w.heap.size, 0, none⟩ = some (.string ⟨q.1.name.toArray⟩) ∧ W.cell? ⟨w.heap.size, 1, none⟩ = some (.slice a2 q.1.b.length cap2) ∧ W.cell? ⟨w.heap.size, 2, none⟩ = some (.int .i64 (q.1.dur : Int))) := fun W h => ⟨h, (h.cell (p := ⟨w.heap.size, 0, none⟩) hlt3).trans cq0', (h.cell (p := ⟨w.heap.size, 1, none⟩) hlt3).trans cq1', (h.cell (p := ⟨w.heap.size, 2, none⟩) hlt3).trans cq2'⟩
        have hSA : ∀ W C, (Below wq.heap.size wq W ∧ W.cell? ⟨w.heap.size, 0, none⟩ = some (.string ⟨q.1.name.toArray⟩) ∧ W.cell? ⟨w.heap.size, 1, none⟩ = some (.slice a2 q.1.b.length cap2) ∧ W.cell? ⟨w.heap.size, 2, none⟩ = some (.int .i64 (q.1.dur : Int))) → Below wq.heap.size wq (W.alloc C) ∧ (W.alloc C).cell? ⟨w.heap.size, 0, none⟩ = some (.string ⟨q.1.name.toArray⟩) ∧ (W.alloc C).cell? ⟨w.heap.size, 1, none⟩ = some (.slice a2 q.1.b.length cap2) ∧ (W.alloc C).cell? ⟨w.heap.size, 2, none⟩ = some (.int .i64 (q.1.dur : Int)) := fun W C h => hSS _ (h.1.alloc h.1.size C)
        have hST : ∀ W W', (Below wq.heap.size wq W ∧ W.cell? ⟨w.heap.size, 0, none⟩ = some (.string ⟨q.1.name.toArray⟩) ∧ W.cell? ⟨w.heap.size, 1, none⟩ = some (.slice a2 q.1.b.length cap2) ∧ W.cell? ⟨w.heap.size, 2, none⟩ = some (.int .i64 (q.1.dur : Int))) → Below wq.heap.size W W' → Below wq.heap.size wq W' := fun W W' h k => h.1.trans k
        have hSz : ∀ W, (Below wq.heap.size wq W ∧ W.cell? ⟨w.heap.size, 0, none⟩ = some (.string ⟨q.1.name.toArray⟩) ∧ W.cell? ⟨w.heap.size, 1, none⟩ = some (.slice a2 q.1.b.length cap2) ∧ W.cell? ⟨w.heap.size, 2, none⟩ = some (.int .i64 (q.1.dur : Int))) → wq.heap.size ≤ W.heap.size := fun W h => h.1.size
        have hSR : ∀ W v n cs, (Below wq.heap.size wq W ∧ W.cell? ⟨w.heap.size, 0, none⟩ = some (.string ⟨q.1.name.toArray⟩) ∧ W.cell? ⟨w.heap.size, 1, none⟩ = some (.slice a2 q.1.b.length cap2) ∧ W.cell? ⟨w.heap.size, 2, none⟩ = some (.int .i64 (q.1.dur : Int))) → Row (fun _ => False) wq v n cs → Row (fun _ => False) W v n cs := fun W v n cs h k => k.below h.1
        have hS0 := hSS wq.drew (Below.refl _ _).drew
        have hone1 : ∀ u ∈ cellsF (zs.take j), u.oneCell' = true := cellsF_one _ (fun p hp => hone0 p (List.mem_of_mem_take hp))
        have hone2 : ∀ u ∈ cellsF (zs.drop j), u.oneCell' = true := cellsF_one _ (fun p hp => hone0 p (List.mem_of_mem_drop hp))
        have hl1 : (cellsF (zs.take j)).length = j * 3 := by rw [cellsF_len, List.length_take]; omega
        have hl2 : (cellsF (zs.drop j)).length = (zs.length - j) * 3 := by rw [cellsF_len, List.length_drop]
        have hx1 : ∀ u ∈ cellsF [q], u.oneCell' = true := cellsF_one _ (fun p hp => by simp at hp; subst hp; rw [hsv]; rfl)
        have hlq : (cellsF [q]).length = 1 * 3 := rfl
        have hz0 : wq.heap.size ≤ wq.heap.size := Nat.le_refl _
        have hlitF : ∀ W : World, Row (fun _ => False) (W.alloc (.cells #[.string ⟨q.1.name.toArray⟩, .slice a2 q.1.b.length cap2, .int .i64 (q.1.dur : Int)] 121)) (.slice (some ⟨W.heap.size, 0, none⟩) 1 1) 1 (cellsF [q]) := fun W => by have h := Row.litF W q 121; rwa [hsv] at h
        have hown3 : ((wq.alloc (.cells #[.string ⟨q.1.name.toArray⟩, .slice a2 q.1.b.length cap2, .int .i64 (q.1.dur : Int)] 121)).alloc (.cells #[] 121)).ownsRow wq.heap.size 121 3 (.slice (some ⟨wq.heap.size + 1, 0, none⟩) 0 0) 0 [] := by
          have h := World.ownsRow_made (base := wq.heap.size) (e := 121) (size := 3) (wq.alloc (.cells #[.string ⟨q.1.name.toArray⟩, .slice a2 q.1.b.length cap2, .int .i64 (q.1.dur : Int)] 121)) #[] 0 (by simp) (by decide) rfl
          rwa [show (wq.alloc (.cells #[.string ⟨q.1.name.toArray⟩, .slice a2 q.1.b.length cap2, .int .i64 (q.1.dur : Int)] 121)).heap.size = wq.heap.size + 1 from by simp] at h
        go_region_held3 (fun W => Below wq.heap.size wq W ∧ W.cell? ⟨w.heap.size, 0, none⟩ = some (.string ⟨q.1.name.toArray⟩) ∧ W.cell? ⟨w.heap.size, 1, none⟩ = some (.slice a2 q.1.b.length cap2) ∧ W.cell? ⟨w.heap.size, 2, none⟩ = some (.int .i64 (q.1.dur : Int))) (first | assumption | exact hSA _ _ (by assumption))
          (first
            | (refine wpH_appB (base := wq.heap.size) tyF rfl (s := .tmp 26) (x := .tmp 29) rfl rfl rfl (n := 0) (xs := []) (World.ownsRow_made wq #[] 0 hz0 (by decide) rfl) (hSR _ _ _ _ (by assumption) hrup) hl1 hone1 (by unfold maxLen; omega) (by omega) (hSz _ (by assumption)) ?_; intro v1 w1 ho1 hg1 hb1; have hS1 := hSS w1 (hST _ _ (by assumption) hb1))
            | (refine wpH_appB (base := wq.heap.size) tyF rfl (s := .tmp 26) (x := .tmp 29) rfl (v := .slice (some ⟨wq.heap.size, 0, none⟩) 0 0) rfl rfl (n := 0) (xs := []) ((World.ownsRow_made wq #[] 0 hz0 (by decide) rfl).alloc _) (hSR _ _ _ _ (by assumption) hrup) hl1 hone1 (by unfold maxLen; omega) (by omega) (hSz _ (by assumption)) ?_; intro v1 w1 ho1 hg1 hb1; have hS1 := hSS w1 (hST _ _ (by assumption) hb1); have hlit := Row.grown (hlitF (wq.alloc (.cells #[] 121))).drew hg1 (by simp [Value.ownBlock]); rw [show (wq.alloc (.cells #[] 121)).heap.size = wq.heap.size + 1 from (by simp)] at hlit)
            | (refine wpH_appB (base := wq.heap.size) tyF rfl (s := .tmp 26) (x := .tmp 29) rfl (v := .slice (some ⟨wq.heap.size + 1, 0, none⟩) 0 0) rfl rfl (n := 0) (xs := []) hown3 (hSR _ _ _ _ (by assumption) hrup) hl1 hone1 (by unfold maxLen; omega) (by omega) (hSz _ (by assumption)) ?_; intro v1 w1 ho1 hg1 hb1; have hS1 := hSS w1 (hST _ _ (by assumption) hb1); have hlit := Row.grown ((hlitF wq).below ((Below.refl _ _).alloc (Nat.le_refl _) (.cells #[] 121))).drew hg1 (by simp [Value.ownBlock]))
            | (refine wpH_appB (base := wq.heap.size) tyF rfl (s := .tmp 30) (x := .tmp 32) rfl rfl rfl (ho1.alloc _) (hlitF w1) hlq hx1 (by unfold maxLen; omega) (by omega) (hSz _ (by assumption)) ?_; intro v2 w2 ho2 hg2 hb2; have hS2 := hSS w2 (hST _ _ (by assumption) hb2))
            | (refine wpH_appB (base := wq.heap.size) tyF rfl (s := .tmp 30) (x := .tmp 32) rfl rfl rfl ho1 hlit hlq hx1 (by unfold maxLen; omega) (by omega) (hSz _ (by assumption)) ?_; intro v2 w2 ho2 hg2 hb2; have hS2 := hSS w2 (hST _ _ (by assumption) hb2))
            | (refine wpH_appB (base := wq.heap.size) tyF rfl (s := .tmp 33) (x := .tmp 36) rfl rfl rfl ho2 (hSR _ _ _ _ (by assumption) hrdn) hl2 hone2 (by unfold maxLen; omega) (by omega) (hSz _ (by assumption)) ?_; intro v3 w3 ho3 hg3 hb3; have hS3 := hSS w3 (hST _ _ (by assumption) hb3)))
        all_goals
          have hE := owns_base ho3 (show w.heap.size ≤ wq.heap.size from Nat.le_of_lt hlt3)
          rw [show 0 + j + 1 + (zs.length - j) = (zs.take j ++ q :: zs.drop j).length by simp; omega, show [] ++ cellsF (zs.take j) ++ cellsF [q] ++ cellsF (zs.drop j) = cellsF (zs.take j ++ q :: zs.drop j) by rw [List.nil_append, ← cellsF_append, ← cellsF_append, List.append_assoc]; rfl] at hE
          rw [← HT3.out] at hE
          have hbE := (hbw.trans (hBq.mono hbw.size)).trans (hS3.1.mono (Nat.le_of_lt hlt3))
          go_wp2
          go_ret
          exact ⟨_, rfl, hE, hbE⟩

end Go.Proofs.YtepceidajmedeaaGreatDoor

namespace Go.Proofs.YtepceidajmedeaaGreatDoor
open Go.RowKit CW

set_option maxHeartbeats 1000000 in
theorem named5_any (s : Bytes) (w : World) (hs : s.length ≤ 9223372036854775807) :
    Calls Tryz.prog 129 #[.string ⟨s.toArray⟩] w fun e w' => e = .returned (.bool (namedB s)) ∧ w = w' := by
  have hsz : (ByteArray.mk s.toArray).size = s.length := by show s.toArray.size = _; simp
  go_enter Tryz.func129, Tryz.ntmps129
  go_wp2
  go_loopw [3] (fun i wr => ∃ k : Nat, k ≤ s.length ∧ i = .int .i64 k ∧ (s.take k).all okC = true ∧ wr = w) (fun i _ => s.length - (intOf i).toNat)
  case atStart => exact ⟨0, by omega, rfl, rfl, rfl⟩
  case round =>
    obtain ⟨k, hk, rfl, hall, rfl⟩ := hrel
    have HA : Hid ((s.take k).all okC = true) := hall
    clear hall
    by_cases hlt : k < s.length
    · have HT : Hid (s.take (k + 1) = s.take k ++ [s[k]]) := List.take_succ_eq_append_getElem hlt
      have hno : okC s[k] = false → Hid (namedB s = false) := fun h => by
        show namedB s = false
        unfold namedB
        have : s.all okC = false := by
          rw [← Bool.not_eq_true, List.all_eq_true]
          intro ha
          have := ha s[k] (List.getElem_mem hlt)
          rw [h] at this
          cases this
        rw [this, Bool.and_false]
      have HA2 : okC s[k] = true → Hid ((s.take (k + 1)).all okC = true) := fun h => by show _ = _; rw [HT.out, List.all_append, HA.out, Bool.true_and, List.all_cons, h]; rfl
      have hx : ∀ (h : k < (ByteArray.mk s.toArray).size), ((ByteArray.mk s.toArray)[k]'h).toNat = (s[k]'hlt).toNat := fun h => rfl
      have i0 : (0 : Int) ≤ (k : Int) := by omega
      have i1 : (k : Int) < (s.length : Int) := by omega
      have hok : okC s[k] = ((decide (97 ≤ s[k].toNat) && decide (s[k].toNat ≤ 122)) || (decide (48 ≤ s[k].toNat) && decide (s[k].toNat ≤ 57)) || decide (s[k].toNat = 45) || decide (s[k].toNat = 46)) := rfl
      clear HT HA
      generalize okC s[k] = ok at *
      generalize s[k].toNat = cn at *
      have hcases : (97 ≤ cn ∧ cn ≤ 122) ∨ (48 ≤ cn ∧ cn ≤ 57) ∨ cn = 45 ∨ cn = 46 ∨ cn < 45 ∨ cn = 47 ∨ (58 ≤ cn ∧ cn ≤ 96) ∨ 123 ≤ cn := by omega
      rcases hcases with h | h | h | h | h | h | h | h
      · have HA3 := HA2 (by rw [hok]; simp <;> omega)
        have d0 : (97 : Int) ≤ (cn : Int) := by omega
        have d1 : (cn : Int) ≤ 122 := by omega
        clear hno HA2 hok
        go_wp2
        go_roundw
        case rel => exact ⟨k + 1, by omega, by go_num, HA3.out, trivial⟩
        case measure => simp [intOf]; omega
      · have HA3 := HA2 (by rw [hok]; simp <;> omega)
        have d0 : ¬ (97 : Int) ≤ (cn : Int) := by omega
        have d1 : (48 : Int) ≤ (cn : Int) := by omega
        have d2 : (cn : Int) ≤ 57 := by omega
        clear hno HA2 hok
        go_wp2
        go_roundw
        case rel => exact ⟨k + 1, by omega, by go_num, HA3.out, trivial⟩
        case measure => simp [intOf]; omega
      · subst h
        have HA3 := HA2 (by rw [hok]; simp <;> omega)
        clear hno HA2 hok
        go_wp2
        go_roundw
        case rel => exact ⟨k + 1, by omega, by go_num, HA3.out, trivial⟩
        case measure => simp [intOf]; omega
      · subst h
        have HA3 := HA2 (by rw [hok]; simp <;> omega)
        clear hno HA2 hok
        go_wp2
        go_roundw
        case rel => exact ⟨k + 1, by omega, by go_num, HA3.out, trivial⟩
        case measure => simp [intOf]; omega
      · have HE := hno (by rw [hok]; simp <;> omega)
        have d0 : ¬ (97 : Int) ≤ (cn : Int) := by omega
        have d1 : ¬ (48 : Int) ≤ (cn : Int) := by omega
        have d2 : ((cn : Int) == 45) = false := by simp; omega
        have d3 : ((cn : Int) == 46) = false := by simp; omega
        clear hno HA2 hok
        go_wp2
        go_ret
        exact ⟨by rw [HE.out] <;> rfl, rfl⟩
      · subst h
        have HE := hno (by rw [hok]; simp <;> omega)
        clear hno HA2 hok
        go_wp2
        go_ret
        exact ⟨by rw [HE.out] <;> rfl, rfl⟩
      · have HE := hno (by rw [hok]; simp <;> omega)
        have d0 : ¬ (97 : Int) ≤ (cn : Int) := by omega
        have d1 : (48 : Int) ≤ (cn : Int) := by omega
        have d2 : ¬ (cn : Int) ≤ 57 := by omega
        have d3 : ((cn : Int) == 45) = false := by simp; omega
        have d4 : ((cn : Int) == 46) = false := by simp; omega
        clear hno HA2 hok
        go_wp2
        go_ret
        exact ⟨by rw [HE.out] <;> rfl, rfl⟩
      · have HE := hno (by rw [hok]; simp <;> omega)
        have d0 : (97 : Int) ≤ (cn : Int) := by omega
        have d1 : ¬ (cn : Int) ≤ 122 := by omega
        have d2 : (48 : Int) ≤ (cn : Int) := by omega
        have d3 : ¬ (cn : Int) ≤ 57 := by omega
        have d4 : ((cn : Int) == 45) = false := by simp; omega
        have d5 : ((cn : Int) == 46) = false := by simp; omega
        clear hno HA2 hok
        go_wp2
        go_ret
        exact ⟨by rw [HE.out] <;> rfl, rfl⟩
    · have htk : s.take k = s := List.take_of_length_le (by omega)
      have hall := HA.out
      rw [htk] at hall
      have HN : Hid (namedB s = (decide (1 ≤ s.length) && decide (s.length ≤ 100))) := by show _ = _; unfold namedB; rw [hall, Bool.and_true]
      clear htk hall HA
      by_cases h1 : 1 ≤ s.length
      · have d1 : (1 : Int) ≤ (s.length : Int) := by omega
        by_cases h2 : s.length ≤ 100
        · have d2 : (s.length : Int) ≤ 100 := by omega
          go_wp2
          go_ret
          exact ⟨by rw [HN.out, decide_eq_true h1, decide_eq_true h2] <;> rfl, rfl⟩
        · have d2 : ¬ (s.length : Int) ≤ 100 := by omega
          go_wp2
          go_ret
          exact ⟨by rw [HN.out, decide_eq_false h2, Bool.and_false] <;> rfl, rfl⟩
      · have d1 : ¬ (1 : Int) ≤ (s.length : Int) := by omega
        go_wp2
        go_ret
        exact ⟨by rw [HN.out, decide_eq_false h1, Bool.false_and] <;> rfl, rfl⟩

end Go.Proofs.YtepceidajmedeaaGreatDoor

namespace Go.Proofs.YtepceidajmedeaaGreatDoor
open Go.RowKit CW

def op5 (k : Int) (n tv bv : Value) : Value := .agg #[.int .i64 k, n, tv, bv]
def Ref5 (M : Nat → Prop) (w : World) (D : DiskA) (v : Value) : Prop := ∃ sv ps, v = .agg (dk5 D.room sv D.plan D.down) ∧ SlF M w sv ps ∧ ps.map (·.1) = D.files
theorem Ref5.below {M : Nat → Prop} {w w' : World} {D : DiskA} {v : Value} (h : Ref5 M w D v) (hf : Below w.heap.size w w') : Ref5 M w' D v := by
  obtain ⟨sv, ps, h1, h2, h3⟩ := h
  exact ⟨sv, ps, h1, h2.below hf, h3⟩

set_option maxHeartbeats 2000000 in
theorem do5_down {M : Nat → Prop} (D : DiskA) (v : Value) (w : World) (h : Ref5 M w D v) (k : Int) (n tv bv : Value) (hd : D.down = true) :
    Calls Tryz.prog 66 #[v, op5 k n tv bv] w fun e w' => e = .returned (.tuple #[v, .int .i64 10]) ∧ Below w.heap.size w w' := by
  obtain ⟨sv, ps, rfl, hs, hps⟩ := h
  obtain ⟨a, cap, rfl, hn, hc, hnone, hcell⟩ := hs.open
  rw [hd]
  unfold op5 dk5
  go_enter Tryz.func66, Tryz.ntmps66
  go_wp2
  refine bodyPost_ret (results_cell_row_tmp (fr := (0, 0)) Tryz.results66 _ _ (w.heap.size + 1 + 1) 35 _ _ rfl (heap3_2 _ _ _ _) Tryz.underlying35 rfl (by kernel_rfl)) rfl ?_
  exact ⟨rfl, below3 _ _ _ _⟩

set_option maxHeartbeats 2000000 in
theorem do5_plan {M : Nat → Prop} (D : DiskA) (v : Value) (w : World) (h : Ref5 M w D v) (k : Int) (n tv bv : Value) (hd : D.down = false) (hp : D.plan = 1) :
    Calls Tryz.prog 66 #[v, op5 k n tv bv] w fun e w' => ∃ v', e = .returned (.tuple #[v', .int .i64 10]) ∧ Ref5 M w' { D with plan := 0, down := true } v' ∧ Below w.heap.size w w' := by
  obtain ⟨sv, ps, rfl, hs, hps⟩ := h
  obtain ⟨a, cap, rfl, hn, hc, hnone, hcell⟩ := hs.open
  rw [hd, hp]
  unfold op5 dk5
  go_enter Tryz.func66, Tryz.ntmps66
  go_wp2
  refine bodyPost_ret (results_cell_row_tmp (fr := (0, 0)) Tryz.results66 _ _ (w.heap.size + 1 + 1) 35 _ _ rfl (heap3_2 _ _ _ _) Tryz.underlying35 rfl (by kernel_rfl)) rfl ?_
  have hB := below3 w (.cells #[.int .i64 D.room, .slice a ps.length cap, .int .i64 0, .bool true] 35) (.cells #[.int .i64 k, n, tv, bv] 114) (.cells #[.int .i64 D.room, .slice a ps.length cap, .int .i64 0, .bool true] 35)
  exact ⟨_, rfl, ⟨_, ps, rfl, hs.below hB, hps⟩, hB⟩

def kindA : OpA → Int
  | .create => 1
  | .append _ => 2
  | .sync => 3
  | .rename _ => 4
  | .remove => 5

/-- The operands of a change. -/
def OpIn (M : Nat → Prop) (w : World) (tv bv : Value) : OpA → Prop
  | .append b => SlB M w bv b ∧ b.length ≤ 1073741824
  | .rename m => tv = stV m ∧ m.length ≤ 1048576
  | _ => True

theorem bodyA_unnamed (D : DiskA) (o : OpA) (n : Bytes) (h : namedB n = false) : bodyA D o n = (D, 6) := by unfold bodyA; rw [if_pos h]
theorem bodyA_new (D : DiskA) (n : Bytes) (h : namedB n = true) (hf : findF D.files n = none) : bodyA D .create n = ({ D with files := putF D.files ⟨n, [], 0⟩ }, 0) := by unfold bodyA; rw [if_neg (by rw [h]; decide), hf]; rfl
theorem bodyA_twice (D : DiskA) (n : Bytes) (i : Nat) (h : namedB n = true) (hf : findF D.files n = some i) : bodyA D .create n = (D, 7) := by
  obtain ⟨hi, _⟩ := findK_some hf
  unfold bodyA; rw [if_neg (by rw [h]; decide), hf]; simp [List.getElem?_eq_getElem hi]
theorem bodyA_miss (D : DiskA) (o : OpA) (n : Bytes) (ho : o ≠ .create) (hf : findF D.files n = none) : bodyA D o n = (D, 6) := by
  unfold bodyA
  split
  · rfl
  · rw [hf]
    cases o <;> first | rfl | exact absurd rfl ho
theorem bodyA_sync (D : DiskA) (n : Bytes) (i : Nat) (h : namedB n = true) (hf : findF D.files n = some i) (f : FileA) (hi : D.files[i]? = some f) : bodyA D .sync n = ({ D with files := putF D.files ⟨f.name, f.b, f.b.length⟩ }, 0) := by
  unfold bodyA; rw [if_neg (by rw [h]; decide), hf]; simp [hi]
theorem bodyA_full (D : DiskA) (n b : Bytes) (i : Nat) (h : namedB n = true) (hf : findF D.files n = some i) (f : FileA) (hi : D.files[i]? = some f) (hr : D.room < ((usedF D.files + b.length : Nat) : Int)) : bodyA D (.append b) n = (D, 5) := by
  unfold bodyA; rw [if_neg (by rw [h]; decide), hf]; simp only [Option.bind_some, hi]; rw [if_pos hr]
theorem bodyA_append (D : DiskA) (n b : Bytes) (i : Nat) (h : namedB n = true) (hf : findF D.files n = some i) (f : FileA) (hi : D.files[i]? = some f) (hr : ¬ D.room < ((usedF D.files + b.length : Nat) : Int)) : bodyA D (.append b) n = ({ D with files := putF D.files ⟨f.name, f.b ++ b, f.dur⟩ }, 0) := by
  unfold bodyA; rw [if_neg (by rw [h]; decide), hf]; simp only [Option.bind_some, hi]; rw [if_neg hr]
theorem bodyA_remove (D : DiskA) (n : Bytes) (i : Nat) (h : namedB n = true) (hf : findF D.files n = some i) : bodyA D .remove n = ({ D with files := withoutK FileA.name D.files n }, 0) := by
  obtain ⟨hi, _⟩ := findK_some hf
  unfold bodyA; rw [if_neg (by rw [h]; decide), hf]; simp [List.getElem?_eq_getElem hi]
theorem bodyA_rename (D : DiskA) (n m : Bytes) (i : Nat) (h : namedB n = true) (hm : namedB m = true) (hf : findF D.files n = some i) (f : FileA) (hi : D.files[i]? = some f) : bodyA D (.rename m) n = ({ D with files := putF (withoutK FileA.name D.files n) ⟨m, f.b, f.dur⟩ }, 0) := by
  unfold bodyA; rw [if_neg (by rw [h]; decide), hf]; simp only [Option.bind_some, hi]; rw [if_neg (by rw [hm]; decide)]
theorem bodyA_rename_bad (D : DiskA) (n m : Bytes) (hm : namedB m = false) : bodyA D (.rename m) n = (D, 6) := by
  unfold bodyA
  split
  · rfl
  · cases (findF D.files n).bind (fun i => D.files[i]?) with
    | none => rfl
    | some f => simp only [hm, if_true]

theorem putF_map (ps : List (FileA × Value)) (q : FileA × Value) : (putK nm ps q).map (·.1) = putF (ps.map (·.1)) q.1 := (putK_map (key' := FileA.name) (key := nm) (fun p : FileA × Value => p.1) (fun _ => rfl) ps q).symm
theorem withoutF_map (ps : List (FileA × Value)) (n : Bytes) : (withoutK nm ps n).map (·.1) = withoutK FileA.name (ps.map (·.1)) n := (withoutK_map (key' := FileA.name) (key := nm) (fun p : FileA × Value => p.1) (fun _ => rfl) ps n).symm

theorem size35 : (Tryz.prog.info? 35).map (·.size) = some 4 := by kernel_rfl

theorem size30 : (Tryz.prog.info? 30).map (·.size) = some 1 := by kernel_rfl
theorem usedP_mem {ps : List (FileA × Value)} {q : FileA × Value} (h : q ∈ ps) : q.1.b.length ≤ usedP ps := by
  obtain ⟨l, r, rfl⟩ := List.append_of_mem h
  simp [usedP]
  omega
theorem size33 : (Tryz.prog.info? 33).map (·.size) = some 1 := by kernel_rfl

set_option maxHeartbeats 4000000 in
set_option maxRecDepth 100000 in
theorem do5_open {M : Nat → Prop} (D : DiskA) (v : Value) (w : World) (h : Ref5 M w D v) (hM : ∀ k, M k → k < w.heap.size) (o : OpA) (n : Bytes) (tv bv : Value) (hin : OpIn M w tv bv o) (hor : ∀ m, o ≠ .rename m) (hd : D.down = false) (hp : D.plan ≠ 1) (hp0 : 0 ≤ D.plan) (hp1 : D.plan ≤ 4611686018427387904) (hn : n.length ≤ 1048576) (hl : D.files.length < 1048576) (hu : usedF D.files ≤ 1099511627776) :
    Calls Tryz.prog 66 #[v, op5 (kindA o) (stV n) tv bv] w fun e w' => ∃ v', e = .returned (.tuple #[v', .int .i64 (bodyA { D with plan := planA D.plan } o n).2]) ∧ Ref5 M w' (bodyA { D with plan := planA D.plan } o n).1 v' ∧ Below w.heap.size w w' := by
  obtain ⟨sv, ps, rfl, hs, hps⟩ := h
  obtain ⟨a, cap, rfl, hn', hc, hnone, hcell⟩ := hs.open
  rw [hd]
  have hd1 : (D.plan == 1) = false := by simpa using hp
  have HP : Hid (planA D.plan = max (D.plan - 1) 0) := rfl
  have hlp : ps.length < 1048576 := by rw [← hps] at hl; simpa using hl
  have hup : usedP ps ≤ 1099511627776 := by rw [usedP_eq, hps]; exact hu
  have HF : Hid (findF D.files n = findK nm ps n) := by show _ = _; rw [← hps]; exact findK_map (key' := FileA.name) (key := nm) (fun p : FileA × Value => p.1) (fun _ => rfl) ps n
  have HPS : Hid (ps.map (·.1) = D.files) := hps
  have HU : Hid (usedF D.files = usedP ps) := by show _ = _; rw [usedP_eq, hps]
  clear hcell hps hl hu
  unfold op5 dk5 stV
  generalize hb : bodyA ⟨D.room, D.files, planA D.plan, false⟩ o n = R at *
  have HR : Hid (bodyA ⟨D.room, D.files, planA D.plan, false⟩ o n = R) := hb
  clear hb
  have hnd := fun W => named5_any n W (by omega)
  generalize hk : kindA o = k at *
  go_enter Tryz.func66, Tryz.ntmps66
  go_wp2_with fail
  generalize max (D.plan - 1) 0 = p2 at *
  have g0 := heap3_0 w (.cells #[.int .i64 D.room, .slice a ps.length cap, .int .i64 p2, .bool false] 35) (.cells #[.int .i64 k, .string ⟨n.toArray⟩, tv, bv] 114) (.cells #[.int .i64 0, .slice none 0 0, .int .i64 0, .bool false] 35)
  have g1 := heap3_1 w (.cells #[.int .i64 D.room, .slice a ps.length cap, .int .i64 p2, .bool false] 35) (.cells #[.int .i64 k, .string ⟨n.toArray⟩, tv, bv] 114) (.cells #[.int .i64 0, .slice none 0 0, .int .i64 0, .bool false] 35)
  have g2 := heap3_2 w (.cells #[.int .i64 D.room, .slice a ps.length cap, .int .i64 p2, .bool false] 35) (.cells #[.int .i64 k, .string ⟨n.toArray⟩, tv, bv] 114) (.cells #[.int .i64 0, .slice none 0 0, .int .i64 0, .bool false] 35)
  have hB3 := below3 w (.cells #[.int .i64 D.room, .slice a ps.length cap, .int .i64 p2, .bool false] 35) (.cells #[.int .i64 k, .string ⟨n.toArray⟩, tv, bv] 114) (.cells #[.int .i64 0, .slice none 0 0, .int .i64 0, .bool false] 35)
  have hz3 := size3 w (.cells #[.int .i64 D.room, .slice a ps.length cap, .int .i64 p2, .bool false] 35) (.cells #[.int .i64 k, .string ⟨n.toArray⟩, tv, bv] 114) (.cells #[.int .i64 0, .slice none 0 0, .int .i64 0, .bool false] 35)
  generalize ((w.alloc (.cells #[.int .i64 D.room, .slice a ps.length cap, .int .i64 p2, .bool false] 35)).alloc (.cells #[.int .i64 k, .string ⟨n.toArray⟩, tv, bv] 114)).alloc (.cells #[.int .i64 0, .slice none 0 0, .int .i64 0, .bool false] 35) = W3 at *
  have hs3 := hs.below hB3
  have hf5 := find5_any D.room p2 false _ ps n W3 hs3.any
  unfold dk5 stV at hf5
  refine hf5.mono ?_
  rintro e w2 ⟨rfl, hb2⟩
  have k0 := (hb2.block w.heap.size (by omega)).trans g0
  have k1 := (hb2.block (w.heap.size + 1) (by omega)).trans g1
  have k2 := (hb2.block (w.heap.size + 1 + 1) (by omega)).trans g2
  have hz2 := hb2.size
  have hBw : Below w.heap.size w w2 := hB3.trans (hb2.mono (by omega))
  have hs2 := hs.below hBw
  clear hb2 hs3 hf5 hB3 g0 g1 g2
  obtain ⟨c00, c01, c02, c03⟩ := cells4 k0
  obtain ⟨c10, c11, c12, c13⟩ := cells4 k1
  by_cases hnam : namedB n = true
  · rw [hnam] at hnd
    rcases hfi : findK nm ps n with _ | i
    · rw [hfi] at HF
      cases o with
      | create =>
        simp only [kindA] at hk
        subst hk
        have hR : R = (⟨D.room, putF D.files ⟨n, [], 0⟩, planA D.plan, false⟩, 0) := by rw [← HR.out]; exact bodyA_new _ _ hnam HF.out
        subst hR
        have hput := put5_any (.slice a ps.length cap) ps (⟨n, [], 0⟩, .slice none 0 0) w2 hs2.any SlB.nil (by omega)
        change Calls _ _ #[_, .agg #[.string ⟨n.toArray⟩, .slice none 0 0, .int .i64 0]] _ _ at hput
        go_wp2_with fail
        refine (hnd w2).mono ?_
        rintro e w' ⟨rfl, rfl⟩
        go_wp2_with fail
        refine hput.mono ?_
        rintro e w3 ⟨v3, rfl, ho, hb3⟩
        have k0p := k0
        have k2p := k2
        have hbb := hBw
        have k0' := (hb3.block w.heap.size (by omega)).trans k0p
        have k2' := (hb3.block (w.heap.size + 1 + 1) (by omega)).trans k2p
        have hz3' := hb3.size
        obtain ⟨a3, cap3, rfl, hc31, hc32, _⟩ := (Row.of_owns ho).open
        go_wp2_with (first | ((with_reducible refine at_sto ?_); refine wpList_store_fld rfl (ty := 33) (x := .tmp 63) (y := .tmp 62) rfl w.heap.size 1 35 (.slice a3 (putK nm ps (⟨n, [], 0⟩, .slice none 0 0)).length cap3) [.int .i64 D.room, .slice a ps.length cap, .int .i64 p2, .bool false] rfl rfl k0' (by simp) size33 rfl rfl ?_; intro W4 hV1 hV2 hV3; replace hV1 : W4.heap[w.heap.size]? = some (.cells #[.int .i64 D.room, .slice a3 (putK nm ps (⟨n, [], 0⟩, .slice none 0 0)).length cap3, .int .i64 p2, .bool false] 35 (0, 0)) := hV1; obtain ⟨d00, d01, d02, d03⟩ := cells4 hV1; have k2q := (hV2.block (w.heap.size + 1 + 1) (by omega) (by intro e; omega)).trans k2') | ((with_reducible refine at_sto ?_); refine wpList_store4 rfl (ty := 35) (x := .tmp 4) (y := .tmp 64) rfl (w.heap.size + 1 + 1) 35 _ _ _ _ (.int .i64 D.room) (.slice a3 (putK nm ps (⟨n, [], 0⟩, .slice none 0 0)).length cap3) (.int .i64 p2) (.bool false) rfl rfl k2q size35 rfl rfl rfl rfl ?_; intro W hW1 hW2 hW3))
        refine bodyPost_ret (results_cell_row_tmp (fr := (0, 0)) Tryz.results66 _ _ (w.heap.size + 1 + 1) 35 _ _ rfl hW1 Tryz.underlying35 rfl (by kernel_rfl)) rfl ?_
        have hF3 : Fr (fun k => k = w.heap.size ∨ k = w.heap.size + 1 + 1) w3 W := (hV2.mono (fun k _ h => .inl h)).trans hW2 (fun k _ h => .inr h)
        have hB3w : Below w.heap.size w w3 := hbb.trans (hb3.mono (by omega))
        have hBf : Below w.heap.size w W := hB3w.trans (hF3.below (by omega) (by intro q h1 h2; omega))
        have hrow := (Row.of_owns ho).fr (M' := M) hF3 (by intro q h; rcases h with rfl | rfl <;> omega) (by intro q h1 h2; have := hM q h2; omega)
        have hsh : ShowF M W ((putK nm ps (⟨n, [], 0⟩, .slice none 0 0))) := fun p hp => by
          rcases mem_putK.1 hp with rfl | ⟨h, _⟩
          · exact SlB.nil
          · exact (hs.2 p h).below hBf
        exact ⟨_, rfl, ⟨_, (putK nm ps (⟨n, [], 0⟩, .slice none 0 0)), by show _ = Value.agg (dk5 D.room _ (planA D.plan) false); rw [HP.out]; rfl, ⟨hrow, hsh⟩, by rw [putF_map, HPS.out]⟩, hBf⟩
      | append b =>
        simp only [kindA] at hk
        subst hk
        have hR : R = (⟨D.room, D.files, planA D.plan, false⟩, 6) := by rw [← HR.out]; exact bodyA_miss _ _ _ (by intro h; cases h) HF.out
        subst hR
        go_wp2_with fail
        refine (hnd w2).mono ?_
        rintro e w' ⟨rfl, rfl⟩
        go_wp2_with ((with_reducible refine at_sto ?_); refine wpList_store4 rfl (ty := 35) (x := .tmp 4) (y := .tmp 50) rfl (w.heap.size + 1 + 1) 35 _ _ _ _ (.int .i64 D.room) (.slice a ps.length cap) (.int .i64 p2) (.bool false) rfl rfl k2 size35 rfl rfl rfl rfl ?_; intro W hW1 hW2 hW3)
        refine bodyPost_ret (results_cell_row_tmp (fr := (0, 0)) Tryz.results66 _ _ (w.heap.size + 1 + 1) 35 _ _ rfl hW1 Tryz.underlying35 rfl (by kernel_rfl)) rfl ?_
        have hBf : Below w.heap.size w W := hBw.trans (hW2.below (by omega) (by intro q h1 h2; omega))
        exact ⟨_, rfl, ⟨.slice a ps.length cap, ps, by show _ = Value.agg (dk5 D.room _ (planA D.plan) false); rw [HP.out]; rfl, hs.below hBf, HPS.out⟩, hBf⟩
      | sync =>
        simp only [kindA] at hk
        subst hk
        have hR : R = (⟨D.room, D.files, planA D.plan, false⟩, 6) := by rw [← HR.out]; exact bodyA_miss _ _ _ (by intro h; cases h) HF.out
        subst hR
        go_wp2_with fail
        refine (hnd w2).mono ?_
        rintro e w' ⟨rfl, rfl⟩
        go_wp2_with ((with_reducible refine at_sto ?_); refine wpList_store4 rfl (ty := 35) (x := .tmp 4) (y := .tmp 50) rfl (w.heap.size + 1 + 1) 35 _ _ _ _ (.int .i64 D.room) (.slice a ps.length cap) (.int .i64 p2) (.bool false) rfl rfl k2 size35 rfl rfl rfl rfl ?_; intro W hW1 hW2 hW3)
        refine bodyPost_ret (results_cell_row_tmp (fr := (0, 0)) Tryz.results66 _ _ (w.heap.size + 1 + 1) 35 _ _ rfl hW1 Tryz.underlying35 rfl (by kernel_rfl)) rfl ?_
        have hBf : Below w.heap.size w W := hBw.trans (hW2.below (by omega) (by intro q h1 h2; omega))
        exact ⟨_, rfl, ⟨.slice a ps.length cap, ps, by show _ = Value.agg (dk5 D.room _ (planA D.plan) false); rw [HP.out]; rfl, hs.below hBf, HPS.out⟩, hBf⟩
      | remove =>
        simp only [kindA] at hk
        subst hk
        have hR : R = (⟨D.room, D.files, planA D.plan, false⟩, 6) := by rw [← HR.out]; exact bodyA_miss _ _ _ (by intro h; cases h) HF.out
        subst hR
        go_wp2_with fail
        refine (hnd w2).mono ?_
        rintro e w' ⟨rfl, rfl⟩
        go_wp2_with ((with_reducible refine at_sto ?_); refine wpList_store4 rfl (ty := 35) (x := .tmp 4) (y := .tmp 50) rfl (w.heap.size + 1 + 1) 35 _ _ _ _ (.int .i64 D.room) (.slice a ps.length cap) (.int .i64 p2) (.bool false) rfl rfl k2 size35 rfl rfl rfl rfl ?_; intro W hW1 hW2 hW3)
        refine bodyPost_ret (results_cell_row_tmp (fr := (0, 0)) Tryz.results66 _ _ (w.heap.size + 1 + 1) 35 _ _ rfl hW1 Tryz.underlying35 rfl (by kernel_rfl)) rfl ?_
        have hBf : Below w.heap.size w W := hBw.trans (hW2.below (by omega) (by intro q h1 h2; omega))
        exact ⟨_, rfl, ⟨.slice a ps.length cap, ps, by show _ = Value.agg (dk5 D.room _ (planA D.plan) false); rw [HP.out]; rfl, hs.below hBf, HPS.out⟩, hBf⟩
      | rename m => exact absurd rfl (hor m)
    · rw [hfi] at HF
      obtain ⟨hi, hkey⟩ := findK_some hfi
      have HFI : Hid (D.files[i]? = some ps[i].1) := by show _ = _; rw [← HPS.out, List.getElem?_map, List.getElem?_eq_getElem hi]; rfl
      obtain ⟨a', cap', e', _, _, _, hcell2⟩ := hs2.open
      cases e'
      obtain ⟨b, off, rfl, hbl, _, hcc⟩ := hcell2 (by omega)
      obtain ⟨q0, q1, q2⟩ := hcc i hi
      rw [show off + (i * 3 + 1) = off + i * 3 + 1 by omega] at q1
      rw [show off + (i * 3 + 2) = off + i * 3 + 2 by omega] at q2
      have hqm : ps[i] ∈ ps := List.getElem_mem hi
      have hkey : ps[i].1.name = n := hkey
      generalize ps[i] = q at *
      clear hcc hcell2
      have hsq := hs2.2 q hqm
      obtain ⟨a2, cap2, hsv, hs21, hs22⟩ := hsq.shape
      rw [hsv] at q1
      subst hkey
      unfold stV at q0
      have hix : ixZ (some i) = (i : Int) := rfl
      have i1 : (i : Int) < (ps.length : Int) := by omega
      have i2 : (0 : Int) ≤ (i : Int) := by omega
      rw [hix]
      have kk0 := fun C => ((box_facts w2 C).1.block w.heap.size (by omega)).trans k0
      have kk1 := fun C => ((box_facts w2 C).1.block (w.heap.size + 1) (by omega)).trans k1
      have e00 := fun C => (cells4 (kk0 C)).1
      have e01 := fun C => (cells4 (kk0 C)).2.1
      have e02 := fun C => (cells4 (kk0 C)).2.2.1
      have e03 := fun C => (cells4 (kk0 C)).2.2.2
      have e10 := fun C => (cells4 (kk1 C)).1
      have e11 := fun C => (cells4 (kk1 C)).2.1
      have e12 := fun C => (cells4 (kk1 C)).2.2.1
      have e13 := fun C => (cells4 (kk1 C)).2.2.2
      clear kk0 kk1
      cases o with
      | create =>
        simp only [kindA] at hk
        subst hk
        have hR : R = (⟨D.room, D.files, planA D.plan, false⟩, 7) := by rw [← HR.out]; exact bodyA_twice _ _ i hnam HF.out
        subst hR
        go_wp2_with fail
        refine (hnd w2).mono ?_
        rintro e w' ⟨rfl, rfl⟩
        go_wp2_with ((with_reducible refine at_sto ?_); refine wpList_store4 rfl (ty := 35) (x := .tmp 4) (y := .tmp 56) rfl (w.heap.size + 1 + 1) 35 _ _ _ _ (.int .i64 D.room) (.slice (some ⟨b, off, none⟩) ps.length cap) (.int .i64 p2) (.bool false) rfl rfl k2 size35 rfl rfl rfl rfl ?_; intro W hW1 hW2 hW3)
        refine bodyPost_ret (results_cell_row_tmp (fr := (0, 0)) Tryz.results66 _ _ (w.heap.size + 1 + 1) 35 _ _ rfl hW1 Tryz.underlying35 rfl (by kernel_rfl)) rfl ?_
        have hBf : Below w.heap.size w W := hBw.trans (hW2.below (by omega) (by intro q h1 h2; omega))
        exact ⟨_, rfl, ⟨.slice (some ⟨b, off, none⟩) ps.length cap, ps, by show _ = Value.agg (dk5 D.room _ (planA D.plan) false); rw [HP.out]; rfl, hs.below hBf, HPS.out⟩, hBf⟩
      | sync =>
        simp only [kindA] at hk
        subst hk
        have hR : R = (⟨D.room, putF D.files ⟨q.1.name, q.1.b, q.1.b.length⟩, planA D.plan, false⟩, 0) := by rw [← HR.out]; exact bodyA_sync ⟨D.room, D.files, planA D.plan, false⟩ _ i hnam HF.out q.1 HFI.out
        subst hR
        go_wp2_with fail
        refine (hnd w2).mono ?_
        rintro e w' ⟨rfl, rfl⟩
        go_wp2_with fail
        have hb4 := box_facts w2 (.cells #[.string ⟨q.1.name.toArray⟩, .slice a2 q.1.b.length cap2, .int .i64 (q.1.b.length : Nat)] 121)
        clear e00 e01 e02 e03 e10 e11 e12 e13
        generalize w2.alloc (.cells #[.string ⟨q.1.name.toArray⟩, .slice a2 q.1.b.length cap2, .int .i64 (q.1.b.length : Nat)] 121) = Wb at *
        obtain ⟨hb41, hb42, hb43⟩ := hb4
        have k0p := (hb41.block w.heap.size (by omega)).trans k0
        have k2p := (hb41.block (w.heap.size + 1 + 1) (by omega)).trans k2
        have hbb : Below w.heap.size w Wb := hBw.trans (hb41.mono (by omega))
        have hput := put5_any (.slice (some ⟨b, off, none⟩) ps.length cap) ps (⟨q.1.name, q.1.b, q.1.b.length⟩, .slice a2 q.1.b.length cap2) Wb (hs2.any.below hb41) (by have := hsq.any.below hb41; rwa [hsv] at this) (by omega)
        unfold stV at hput
        refine hput.mono ?_
        rintro e w3 ⟨v3, rfl, ho, hb3⟩
        have k0' := (hb3.block w.heap.size (by omega)).trans k0p
        have k2' := (hb3.block (w.heap.size + 1 + 1) (by omega)).trans k2p
        have hz3' := hb3.size
        obtain ⟨a3, cap3, rfl, hc31, hc32, _⟩ := (Row.of_owns ho).open
        go_wp2_with (first | ((with_reducible refine at_sto ?_); refine wpList_store_fld rfl (ty := 33) (x := .tmp 107) (y := .tmp 106) rfl w.heap.size 1 35 (.slice a3 (putK nm ps (⟨q.1.name, q.1.b, q.1.b.length⟩, .slice a2 q.1.b.length cap2)).length cap3) [.int .i64 D.room, .slice (some ⟨b, off, none⟩) ps.length cap, .int .i64 p2, .bool false] rfl rfl k0' (by simp) size33 rfl rfl ?_; intro W4 hV1 hV2 hV3; replace hV1 : W4.heap[w.heap.size]? = some (.cells #[.int .i64 D.room, .slice a3 (putK nm ps (⟨q.1.name, q.1.b, q.1.b.length⟩, .slice a2 q.1.b.length cap2)).length cap3, .int .i64 p2, .bool false] 35 (0, 0)) := hV1; obtain ⟨d00, d01, d02, d03⟩ := cells4 hV1; have k2q := (hV2.block (w.heap.size + 1 + 1) (by omega) (by intro e; omega)).trans k2') | ((with_reducible refine at_sto ?_); refine wpList_store4 rfl (ty := 35) (x := .tmp 4) (y := .tmp 132) rfl (w.heap.size + 1 + 1) 35 _ _ _ _ (.int .i64 D.room) (.slice a3 (putK nm ps (⟨q.1.name, q.1.b, q.1.b.length⟩, .slice a2 q.1.b.length cap2)).length cap3) (.int .i64 p2) (.bool false) rfl rfl k2q size35 rfl rfl rfl rfl ?_; intro W hW1 hW2 hW3))
        refine bodyPost_ret (results_cell_row_tmp (fr := (0, 0)) Tryz.results66 _ _ (w.heap.size + 1 + 1) 35 _ _ rfl hW1 Tryz.underlying35 rfl (by kernel_rfl)) rfl ?_
        have hF3 : Fr (fun k => k = w.heap.size ∨ k = w.heap.size + 1 + 1) w3 W := (hV2.mono (fun k _ h => .inl h)).trans hW2 (fun k _ h => .inr h)
        have hB3w : Below w.heap.size w w3 := hbb.trans (hb3.mono (by omega))
        have hBf : Below w.heap.size w W := hB3w.trans (hF3.below (by omega) (by intro q h1 h2; omega))
        have hrow := (Row.of_owns ho).fr (M' := M) hF3 (by intro q h; rcases h with rfl | rfl <;> omega) (by intro q h1 h2; have := hM q h2; omega)
        have hsh : ShowF M W ((putK nm ps (⟨q.1.name, q.1.b, q.1.b.length⟩, .slice a2 q.1.b.length cap2))) := fun p hp => by
          rcases mem_putK.1 hp with rfl | ⟨h, _⟩
          · have := (hs.2 q hqm).below hBf; rwa [hsv] at this
          · exact (hs.2 p h).below hBf
        exact ⟨_, rfl, ⟨_, (putK nm ps (⟨q.1.name, q.1.b, q.1.b.length⟩, .slice a2 q.1.b.length cap2)), by show _ = Value.agg (dk5 D.room _ (planA D.plan) false); rw [HP.out]; rfl, ⟨hrow, hsh⟩, by rw [putF_map, HPS.out]⟩, hBf⟩
      | remove =>
        simp only [kindA] at hk
        subst hk
        have hR : R = (⟨D.room, withoutK FileA.name D.files q.1.name, planA D.plan, false⟩, 0) := by rw [← HR.out]; exact bodyA_remove ⟨D.room, D.files, planA D.plan, false⟩ _ i hnam HF.out
        subst hR
        go_wp2_with fail
        refine (hnd w2).mono ?_
        rintro e w' ⟨rfl, rfl⟩
        go_wp2_with fail
        have hb4 := box_facts w2 (.cells #[.string ⟨q.1.name.toArray⟩, .slice a2 q.1.b.length cap2, .int .i64 (q.1.dur : Nat)] 121)
        clear e00 e01 e02 e03 e10 e11 e12 e13
        generalize w2.alloc (.cells #[.string ⟨q.1.name.toArray⟩, .slice a2 q.1.b.length cap2, .int .i64 (q.1.dur : Nat)] 121) = Wb at *
        obtain ⟨hb41, hb42, hb43⟩ := hb4
        have k0p := (hb41.block w.heap.size (by omega)).trans k0
        have k2p := (hb41.block (w.heap.size + 1 + 1) (by omega)).trans k2
        have hbb : Below w.heap.size w Wb := hBw.trans (hb41.mono (by omega))
        have hput := without_any (.slice (some ⟨b, off, none⟩) ps.length cap) ps q.1.name Wb (hs2.any.below hb41) (by omega)
        unfold stV at hput
        refine hput.mono ?_
        rintro e w3 ⟨v3, rfl, ho, hb3⟩
        have k0' := (hb3.block w.heap.size (by omega)).trans k0p
        have k2' := (hb3.block (w.heap.size + 1 + 1) (by omega)).trans k2p
        have hz3' := hb3.size
        obtain ⟨a3, cap3, rfl, hc31, hc32, _⟩ := (Row.of_owns ho).open
        go_wp2_with (first | ((with_reducible refine at_sto ?_); refine wpList_store_fld rfl (ty := 33) (x := .tmp 131) (y := .tmp 130) rfl w.heap.size 1 35 (.slice a3 (withoutK nm ps q.1.name).length cap3) [.int .i64 D.room, .slice (some ⟨b, off, none⟩) ps.length cap, .int .i64 p2, .bool false] rfl rfl k0' (by simp) size33 rfl rfl ?_; intro W4 hV1 hV2 hV3; replace hV1 : W4.heap[w.heap.size]? = some (.cells #[.int .i64 D.room, .slice a3 (withoutK nm ps q.1.name).length cap3, .int .i64 p2, .bool false] 35 (0, 0)) := hV1; obtain ⟨d00, d01, d02, d03⟩ := cells4 hV1; have k2q := (hV2.block (w.heap.size + 1 + 1) (by omega) (by intro e; omega)).trans k2') | ((with_reducible refine at_sto ?_); refine wpList_store4 rfl (ty := 35) (x := .tmp 4) (y := .tmp 132) rfl (w.heap.size + 1 + 1) 35 _ _ _ _ (.int .i64 D.room) (.slice a3 (withoutK nm ps q.1.name).length cap3) (.int .i64 p2) (.bool false) rfl rfl k2q size35 rfl rfl rfl rfl ?_; intro W hW1 hW2 hW3))
        refine bodyPost_ret (results_cell_row_tmp (fr := (0, 0)) Tryz.results66 _ _ (w.heap.size + 1 + 1) 35 _ _ rfl hW1 Tryz.underlying35 rfl (by kernel_rfl)) rfl ?_
        have hF3 : Fr (fun k => k = w.heap.size ∨ k = w.heap.size + 1 + 1) w3 W := (hV2.mono (fun k _ h => .inl h)).trans hW2 (fun k _ h => .inr h)
        have hB3w : Below w.heap.size w w3 := hbb.trans (hb3.mono (by omega))
        have hBf : Below w.heap.size w W := hB3w.trans (hF3.below (by omega) (by intro q h1 h2; omega))
        have hrow := (Row.of_owns ho).fr (M' := M) hF3 (by intro q h; rcases h with rfl | rfl <;> omega) (by intro q h1 h2; have := hM q h2; omega)
        have hsh : ShowF M W ((withoutK nm ps q.1.name)) := fun p hp => (hs.2 p (List.mem_filter.1 hp).1).below hBf
        exact ⟨_, rfl, ⟨_, (withoutK nm ps q.1.name), by show _ = Value.agg (dk5 D.room _ (planA D.plan) false); rw [HP.out]; rfl, ⟨hrow, hsh⟩, by rw [withoutF_map, HPS.out]⟩, hBf⟩
      | append b' =>
        simp only [kindA] at hk
        subst hk
        obtain ⟨hbv, hbl'⟩ := hin
        obtain ⟨ab, capb, rfl, hab1, hab2⟩ := hbv.shape
        go_wp2_with fail
        refine (hnd w2).mono ?_
        rintro e w' ⟨rfl, rfl⟩
        go_wp2_with fail
        have hb4 := box_facts w2 (.cells #[.string ⟨q.1.name.toArray⟩, .slice a2 q.1.b.length cap2, .int .i64 (q.1.dur : Nat)] 121)
        clear e00 e01 e02 e03 e10 e11 e12 e13
        generalize w2.alloc (.cells #[.string ⟨q.1.name.toArray⟩, .slice a2 q.1.b.length cap2, .int .i64 (q.1.dur : Nat)] 121) = Wb at *
        obtain ⟨hb41, hb42, hb43⟩ := hb4
        have k0p := (hb41.block w.heap.size (by omega)).trans k0
        have k2p := (hb41.block (w.heap.size + 1 + 1) (by omega)).trans k2
        have hbb : Below w.heap.size w Wb := hBw.trans (hb41.mono (by omega))
        have k1p := (hb41.block (w.heap.size + 1) (by omega)).trans k1
        obtain ⟨f00, f01, f02, f03⟩ := cells4 k0p
        obtain ⟨f10, f11, f12, f13⟩ := cells4 k1p
        obtain ⟨x0, x1, x2⟩ := cells3 hb43
        clear c00 c01 c02 c03 c10 c11 c12 c13 q0 q1 q2
        have hlw : w.heap.size < Wb.heap.size := by omega
        have hlw1 : w.heap.size + 1 < Wb.heap.size := by omega
        have hSS : ∀ W, Below Wb.heap.size Wb W → (Below Wb.heap.size Wb W ∧ W.cell? ⟨w.heap.size, 0, none⟩ = some (.int .i64 D.room) ∧ W.cell? ⟨w.heap.size, 1, none⟩ = some (.slice (some ⟨b, off, none⟩) ps.length cap) ∧ W.cell? ⟨w.heap.size, 2, none⟩ = some (.int .i64 p2) ∧ W.cell? ⟨w.heap.size, 3, none⟩ = some (.bool false) ∧ W.cell? ⟨w.heap.size + 1, 3, none⟩ = some (.slice ab b'.length capb)) := fun W h => ⟨h, (h.cell (p := ⟨w.heap.size, 0, none⟩) hlw).trans f00, (h.cell (p := ⟨w.heap.size, 1, none⟩) hlw).trans f01, (h.cell (p := ⟨w.heap.size, 2, none⟩) hlw).trans f02, (h.cell (p := ⟨w.heap.size, 3, none⟩) hlw).trans f03, (h.cell (p := ⟨w.heap.size + 1, 3, none⟩) hlw1).trans f13⟩
        have hSF : ∀ W, (Below Wb.heap.size Wb W ∧ W.cell? ⟨w.heap.size, 0, none⟩ = some (.int .i64 D.room) ∧ W.cell? ⟨w.heap.size, 1, none⟩ = some (.slice (some ⟨b, off, none⟩) ps.length cap) ∧ W.cell? ⟨w.heap.size, 2, none⟩ = some (.int .i64 p2) ∧ W.cell? ⟨w.heap.size, 3, none⟩ = some (.bool false) ∧ W.cell? ⟨w.heap.size + 1, 3, none⟩ = some (.slice ab b'.length capb)) → SlF (fun _ => False) W (.slice (some ⟨b, off, none⟩) ps.length cap) ps := fun W h => (hs2.any.below hb41).below h.1
        have hST : ∀ W W', (Below Wb.heap.size Wb W ∧ W.cell? ⟨w.heap.size, 0, none⟩ = some (.int .i64 D.room) ∧ W.cell? ⟨w.heap.size, 1, none⟩ = some (.slice (some ⟨b, off, none⟩) ps.length cap) ∧ W.cell? ⟨w.heap.size, 2, none⟩ = some (.int .i64 p2) ∧ W.cell? ⟨w.heap.size, 3, none⟩ = some (.bool false) ∧ W.cell? ⟨w.heap.size + 1, 3, none⟩ = some (.slice ab b'.length capb)) → Below W.heap.size W W' → Below Wb.heap.size Wb W' := fun W W' h k => h.1.trans (k.mono h.1.size)
        have hS0 := hSS Wb.drew (Below.refl _ _).drew
        have hup2 : usedP ps ≤ 4611686018427387904 := by omega
        have hUW : ∀ W, (Below Wb.heap.size Wb W ∧ W.cell? ⟨w.heap.size, 0, none⟩ = some (.int .i64 D.room) ∧ W.cell? ⟨w.heap.size, 1, none⟩ = some (.slice (some ⟨b, off, none⟩) ps.length cap) ∧ W.cell? ⟨w.heap.size, 2, none⟩ = some (.int .i64 p2) ∧ W.cell? ⟨w.heap.size, 3, none⟩ = some (.bool false) ∧ W.cell? ⟨w.heap.size + 1, 3, none⟩ = some (.slice ab b'.length capb)) → Calls Tryz.prog 52 #[.agg #[.int .i64 D.room, .slice (some ⟨b, off, none⟩) ps.length cap, .int .i64 p2, .bool false]] W fun e w' => e = .returned (.int .i64 (usedP ps : Nat)) ∧ Below W.heap.size W w' := fun W h => used5_any D.room p2 false _ ps W (hSF W h) hup2
        have hqu : q.1.b.length ≤ usedP ps := usedP_mem hqm
        generalize hug : usedP ps = u at *
        have hwrap : IntKind.i64.wrap ((u : Int) + (b'.length : Int)) = (u : Int) + (b'.length : Int) := IntWalk.i64_in _ (by omega)
        go_region_held3 (fun W => Below Wb.heap.size Wb W ∧ W.cell? ⟨w.heap.size, 0, none⟩ = some (.int .i64 D.room) ∧ W.cell? ⟨w.heap.size, 1, none⟩ = some (.slice (some ⟨b, off, none⟩) ps.length cap) ∧ W.cell? ⟨w.heap.size, 2, none⟩ = some (.int .i64 p2) ∧ W.cell? ⟨w.heap.size, 3, none⟩ = some (.bool false) ∧ W.cell? ⟨w.heap.size + 1, 3, none⟩ = some (.slice ab b'.length capb)) (first | assumption) (first | (go_at_call 52; refine (hUW _ (by assumption)).mono ?_; rintro e W1 ⟨rfl, hbu⟩; have hS1 := hSS W1 (hST _ _ (by assumption) hbu)))
        clear hwrap
        have hB1 : Below Wb.heap.size Wb W1 := hS1.1
        have hbb1 : Below w.heap.size w W1 := hbb.trans (hB1.mono (by omega))
        have hz1' := hB1.size
        have m0 := (hB1.block w.heap.size hlw).trans k0p
        have m2 := (hB1.block (w.heap.size + 1 + 1) (by omega)).trans k2p
        have m3 := (hB1.block w2.heap.size (by omega)).trans hb43
        obtain ⟨y0, y1, y2⟩ := cells3 m3
        have n13 := (hB1.cell (p := ⟨w.heap.size + 1, 3, none⟩) hlw1).trans f13
        obtain ⟨n00, n01, n02, n03⟩ := cells4 m0
        clear hSS hSF hST hS0 hUW hS1 f00 f01 f02 f03 f10 f11 f12 f13 x0 x1 x2
        by_cases hr : D.room < (u : Int) + (b'.length : Int)
        · have hR : R = (⟨D.room, D.files, planA D.plan, false⟩, 5) := by
            rw [← HR.out]
            exact bodyA_full ⟨D.room, D.files, planA D.plan, false⟩ _ _ i hnam HF.out q.1 HFI.out (by show D.room < ((usedF D.files + b'.length : Nat) : Int); rw [HU.out]; omega)
          subst hR
          have hdr : decide (D.room < (u : Int) + (b'.length : Int)) = true := decide_eq_true hr
          go_wp2_with ((with_reducible refine at_sto ?_); refine wpList_store4 rfl (ty := 35) (x := .tmp 4) (y := .tmp 83) rfl (w.heap.size + 1 + 1) 35 _ _ _ _ (.int .i64 D.room) (.slice (some ⟨b, off, none⟩) ps.length cap) (.int .i64 p2) (.bool false) rfl rfl m2 size35 rfl rfl rfl rfl ?_; intro W hW1 hW2 hW3)
          refine bodyPost_ret (results_cell_row_tmp (fr := (0, 0)) Tryz.results66 _ _ (w.heap.size + 1 + 1) 35 _ _ rfl hW1 Tryz.underlying35 rfl (by kernel_rfl)) rfl ?_
          have hBf : Below w.heap.size w W := hbb1.trans (hW2.below (by omega) (by intro q h1 h2; omega))
          exact ⟨_, rfl, ⟨.slice (some ⟨b, off, none⟩) ps.length cap, ps, by show _ = Value.agg (dk5 D.room _ (planA D.plan) false); rw [HP.out]; rfl, hs.below hBf, HPS.out⟩, hBf⟩
        · have hR : R = (⟨D.room, putF D.files ⟨q.1.name, q.1.b ++ b', q.1.dur⟩, planA D.plan, false⟩, 0) := by
            rw [← HR.out]
            exact bodyA_append ⟨D.room, D.files, planA D.plan, false⟩ _ _ i hnam HF.out q.1 HFI.out (by show ¬ D.room < ((usedF D.files + b'.length : Nat) : Int); rw [HU.out]; omega)
          subst hR
          have hdr : decide (D.room < (u : Int) + (b'.length : Int)) = false := decide_eq_false hr
          go_wp2_with fail
          have hrq : SlB (fun k => k = w2.heap.size) W1 (.slice a2 q.1.b.length cap2) q.1.b := by have := hsq.any.fr (M' := fun k => k = w2.heap.size) (F := fun _ => False) (Fr.of_below (hb41.trans (hB1.mono (by omega)))) (fun _ h => h.elim) (fun k h1 h2 => by omega); rwa [hsv] at this
          have hrb : SlB (fun k => k = w2.heap.size) W1 (.slice ab b'.length capb) b' := (hbv.any.below hBw).fr (F := fun _ => False) (Fr.of_below (hb41.trans (hB1.mono (by omega)))) (fun _ h => h.elim) (fun k h1 h2 => by omega)
          have hS0 : Fr (fun k => k = w2.heap.size) W1 W1.drew ∧ (W1.drew).cell? ⟨w.heap.size + 1, 3, none⟩ = some (.slice ab b'.length capb) := ⟨Fr.of_below (Below.refl _ _).drew, n13⟩
          have hS0' : Fr (fun k => k = w2.heap.size) W1 W1 ∧ W1.cell? ⟨w.heap.size + 1, 3, none⟩ = some (.slice ab b'.length capb) := ⟨Fr.refl _ _, n13⟩
          have hSS : ∀ W, Fr (fun k => k = w2.heap.size) W1 W → (Fr (fun k => k = w2.heap.size) W1 W ∧ W.cell? ⟨w.heap.size + 1, 3, none⟩ = some (.slice ab b'.length capb)) := fun W h => ⟨h, by rw [World.cell?_of_block (w := W1) (a := ⟨w.heap.size + 1, 3, none⟩) (h.block (w.heap.size + 1) (by omega) (by omega))]; exact n13⟩
          have hSA : ∀ W C, (Fr (fun k => k = w2.heap.size) W1 W ∧ W.cell? ⟨w.heap.size + 1, 3, none⟩ = some (.slice ab b'.length capb)) → Fr (fun k => k = w2.heap.size) W1 (W.alloc C) := fun W C h => h.1.trans (G := fun _ => False) (Fr.of_below ((Below.refl _ _).alloc (Nat.le_refl _) C)) (fun _ _ h => h.elim)
          have hST : ∀ W W', (Fr (fun k => k = w2.heap.size) W1 W ∧ W.cell? ⟨w.heap.size + 1, 3, none⟩ = some (.slice ab b'.length capb)) → Below W1.heap.size W W' → Fr (fun k => k = w2.heap.size) W1 W' := fun W W' h k => h.1.trans (G := fun i => W1.heap.size ≤ i) ⟨k.os, k.tape, k.output, k.size, fun i hi hn => k.block i (by omega)⟩ (fun i h1 h2 => absurd h2 (by omega))
          have hSz : ∀ W, (Fr (fun k => k = w2.heap.size) W1 W ∧ W.cell? ⟨w.heap.size + 1, 3, none⟩ = some (.slice ab b'.length capb)) → W1.heap.size ≤ W.heap.size := fun W h => h.1.size
          have hSQ : ∀ W, (Fr (fun k => k = w2.heap.size) W1 W ∧ W.cell? ⟨w.heap.size + 1, 3, none⟩ = some (.slice ab b'.length capb)) → SlB (fun _ => False) W (.slice a2 q.1.b.length cap2) q.1.b := fun W h => hrq.fr h.1 (fun _ h => h) (fun _ _ h => h.elim)
          have hSB : ∀ W, (Fr (fun k => k = w2.heap.size) W1 W ∧ W.cell? ⟨w.heap.size + 1, 3, none⟩ = some (.slice ab b'.length capb)) → SlB (fun _ => False) W (.slice ab b'.length capb) b' := fun W h => hrb.fr h.1 (fun _ h => h) (fun _ _ h => h.elim)
          have yA : ∀ C, (W1.alloc C).cell? ⟨w2.heap.size, 1, none⟩ = some (.slice a2 q.1.b.length cap2) := fun C => (((Below.refl W1.heap.size W1).alloc (Nat.le_refl _) C).cell (p := ⟨w2.heap.size, 1, none⟩) (by show w2.heap.size < _; omega)).trans y1
          have hz0 : W1.heap.size ≤ W1.heap.size := Nat.le_refl _
          have hlf : w2.heap.size < W1.heap.size := by omega
          have hSC : ∀ W u, Below W1.heap.size W1 W → Fr (fun k => k = w2.heap.size) W1 (W.setCell ⟨w2.heap.size, 1, none⟩ u) := fun W u h => ⟨h.os, h.tape, h.output, by simpa [World.setCell] using h.size, fun k hk hn => by rw [heap_setCell_other _ _ _ _ (fun e => hn e)]; exact h.block k hk⟩
          go_region_held3 (fun W => Fr (fun k => k = w2.heap.size) W1 W ∧ W.cell? ⟨w.heap.size + 1, 3, none⟩ = some (.slice ab b'.length capb)) (first | assumption | exact hSS _ (hSA _ _ (by assumption)) | exact hSS _ (hSA _ _ hS0') | exact hSS _ ((Fr.mono (Fr.of_below (F := fun _ => False) ((Below.refl _ _).alloc (Nat.le_refl _) _).drew) (fun _ _ h => h.elim))) | exact hSS _ (hSC _ _ hBb))
            (first
              | (refine wpH_appB (base := W1.heap.size) tyB rfl (s := .tmp 84) (x := .tmp 86) rfl rfl rfl (n := 0) (xs := []) (World.ownsRow_made W1 #[] 0 hz0 (by decide) rfl) (hSQ _ (by assumption)) (by simp) (bytes_one _) (by unfold maxLen; omega) (by omega) (hSz _ (by assumption)) ?_; intro v1 w1 ho1 hg1 hb1; have hS1 := hSS w1 (hST _ _ (by assumption) hb1); have hBa : Below W1.heap.size W1 w1 := by first | exact ((Below.refl _ _).alloc (Nat.le_refl _) _).trans hb1 | exact ((Below.refl _ _).alloc (Nat.le_refl _) _).drew.trans hb1)
              | (refine wpH_appB (base := W1.heap.size) tyB rfl (s := .tmp 87) (x := .tmp 89) rfl rfl rfl ho1 (hSB _ (by assumption)) (by simp) (bytes_one _) (by unfold maxLen; omega) (by omega) (hSz _ (by assumption)) ?_; intro v2 w2' ho2 hg2 hb2; have hS2 := hSS w2' (hST _ _ (by assumption) hb2); have hBb : Below W1.heap.size W1 w2' := hBa.trans hb2; obtain ⟨av, cv, rfl, hv1, hv2, _⟩ := (Row.of_owns ho2).open; have hfz := frozen_of_row w2' w2.heap.size 1 _ _ ((hBb.block w2.heap.size (by omega)).trans m3); have hcz := (hBb.cell (p := ⟨w2.heap.size, 1, none⟩) hlf).trans y1))
          all_goals
            have hV1 : (w2'.setCell ⟨w2.heap.size, 1, none⟩ (.slice av (q.1.b.length + b'.length) cv)).heap[w2.heap.size]? = some (.cells #[.string ⟨q.1.name.toArray⟩, .slice av (q.1.b.length + b'.length) cv, .int .i64 (q.1.dur : Nat)] 121 (0, 0)) := heap_setCell_same _ _ _ _ _ _ ((hBb.block w2.heap.size (by omega)).trans m3)
            have hV2 := fr_setCell w2' w2.heap.size 1 (.slice av (q.1.b.length + b'.length) cv)
            have hV3 : (w2'.setCell ⟨w2.heap.size, 1, none⟩ (.slice av (q.1.b.length + b'.length) cv)).heap.size = w2'.heap.size := by simp [World.setCell]
            generalize w2'.setCell ⟨w2.heap.size, 1, none⟩ (.slice av (q.1.b.length + b'.length) cv) = Wv at *
            have hz4 := hBb.size
            have hzv : w.heap.size + 1 + 1 < Wv.heap.size := by omega
            have hbb : Below w.heap.size w Wv := (hbb1.trans (hBb.mono (by omega))).trans (hV2.below (by omega) (by intro q h1 h2; omega))
            have k0p := (hV2.block w.heap.size (by omega) (by intro e; omega)).trans ((hBb.block w.heap.size (by omega)).trans m0)
            have k2p := (hV2.block (w.heap.size + 1 + 1) (by omega) (by intro e; omega)).trans ((hBb.block (w.heap.size + 1 + 1) (by omega)).trans m2)
            have hnv : SlB (fun k => k < W1.heap.size) Wv (.slice av (q.1.b.length + b'.length) cv) (q.1.b ++ b') := by
              have h := (Row.of_owns ho2).fr (M' := fun k => k < W1.heap.size) hV2 (by intro k h; omega) (fun _ _ h => h)
              unfold SlB
              rw [List.map_append, List.length_append]
              rw [Nat.zero_add, List.nil_append] at h
              exact h
            obtain ⟨f00, f01, f02, f03⟩ := cells4 k0p
            obtain ⟨x0, x1, x2⟩ := cells3 hV1
            clear hSS hSA hST hSz hSQ hSB hSC hfz hcz hS0 hS0' yA ho2 n00 n01 n02 n03 y0 y1 y2 hS1 hS2
            go_wp2_with fail
            have hput := put5_any (.slice (some ⟨b, off, none⟩) ps.length cap) ps (⟨q.1.name, q.1.b ++ b', q.1.dur⟩, .slice av (q.1.b.length + b'.length) cv) Wv (hs.any.below hbb) hnv.any (by omega)
            unfold stV at hput
            refine hput.mono ?_
            rintro e w3 ⟨v3, rfl, ho, hb3⟩
            have k0' := (hb3.block w.heap.size (by omega)).trans k0p
            have k2' := (hb3.block (w.heap.size + 1 + 1) (by omega)).trans k2p
            have hz3' := hb3.size
            obtain ⟨a3, cap3, rfl, hc31, hc32, _⟩ := (Row.of_owns ho).open
            go_wp2_with (first | ((with_reducible refine at_sto ?_); refine wpList_store_fld rfl (ty := 33) (x := .tmp 96) (y := .tmp 95) rfl w.heap.size 1 35 (.slice a3 (putK nm ps (⟨q.1.name, q.1.b ++ b', q.1.dur⟩, .slice av (q.1.b.length + b'.length) cv)).length cap3) [.int .i64 D.room, .slice (some ⟨b, off, none⟩) ps.length cap, .int .i64 p2, .bool false] rfl rfl k0' (by simp) size33 rfl rfl ?_; intro W4 hV1 hV2 hV3; replace hV1 : W4.heap[w.heap.size]? = some (.cells #[.int .i64 D.room, .slice a3 (putK nm ps (⟨q.1.name, q.1.b ++ b', q.1.dur⟩, .slice av (q.1.b.length + b'.length) cv)).length cap3, .int .i64 p2, .bool false] 35 (0, 0)) := hV1; obtain ⟨d00, d01, d02, d03⟩ := cells4 hV1; have k2q := (hV2.block (w.heap.size + 1 + 1) (by omega) (by intro e; omega)).trans k2') | ((with_reducible refine at_sto ?_); refine wpList_store4 rfl (ty := 35) (x := .tmp 4) (y := .tmp 132) rfl (w.heap.size + 1 + 1) 35 _ _ _ _ (.int .i64 D.room) (.slice a3 (putK nm ps (⟨q.1.name, q.1.b ++ b', q.1.dur⟩, .slice av (q.1.b.length + b'.length) cv)).length cap3) (.int .i64 p2) (.bool false) rfl rfl k2q size35 rfl rfl rfl rfl ?_; intro W hW1 hW2 hW3))
            refine bodyPost_ret (results_cell_row_tmp (fr := (0, 0)) Tryz.results66 _ _ (w.heap.size + 1 + 1) 35 _ _ rfl hW1 Tryz.underlying35 rfl (by kernel_rfl)) rfl ?_
            have hF3 : Fr (fun k => k = w.heap.size ∨ k = w.heap.size + 1 + 1) w3 W := (hV2.mono (fun k _ h => .inl h)).trans hW2 (fun k _ h => .inr h)
            have hB3w : Below w.heap.size w w3 := hbb.trans (hb3.mono (by omega))
            have hBf : Below w.heap.size w W := hB3w.trans (hF3.below (by omega) (by intro q h1 h2; omega))
            have hrow := (Row.of_owns ho).fr (M' := M) hF3 (by intro q h; rcases h with rfl | rfl <;> omega) (by intro q h1 h2; have := hM q h2; omega)
            have hsh : ShowF M W ((putK nm ps (⟨q.1.name, q.1.b ++ b', q.1.dur⟩, .slice av (q.1.b.length + b'.length) cv))) := fun p hp => by
              rcases mem_putK.1 hp with rfl | ⟨h, _⟩
              · exact (hnv.below hb3).fr hF3 (by intro q h; rcases h with rfl | rfl <;> omega) (by intro q h1 h2; have := hM q h2; omega)
              · exact (hs.2 p h).below hBf
            exact ⟨_, rfl, ⟨_, (putK nm ps (⟨q.1.name, q.1.b ++ b', q.1.dur⟩, .slice av (q.1.b.length + b'.length) cv)), by show _ = Value.agg (dk5 D.room _ (planA D.plan) false); rw [HP.out]; rfl, ⟨hrow, hsh⟩, by rw [putF_map, HPS.out]⟩, hBf⟩
      | rename m => exact absurd rfl (hor m)
  · have hnam' : namedB n = false := by simpa using hnam
    have hR : R = (⟨D.room, D.files, planA D.plan, false⟩, 6) := by rw [← HR.out]; exact bodyA_unnamed _ _ _ hnam'
    subst hR
    rw [hnam'] at hnd
    go_wp2_with fail
    refine (hnd w2).mono ?_
    rintro e w' ⟨rfl, rfl⟩
    go_wp2_with ((with_reducible refine at_sto ?_); refine wpList_store4 rfl (ty := 35) (x := .tmp 4) (y := .tmp 50) rfl (w.heap.size + 1 + 1) 35 _ _ _ _ (.int .i64 D.room) (.slice a ps.length cap) (.int .i64 p2) (.bool false) rfl rfl k2 size35 rfl rfl rfl rfl ?_; intro W hW1 hW2 hW3)
    refine bodyPost_ret (results_cell_row_tmp (fr := (0, 0)) Tryz.results66 _ _ (w.heap.size + 1 + 1) 35 _ _ rfl hW1 Tryz.underlying35 rfl (by kernel_rfl)) rfl ?_
    have hBf : Below w.heap.size w W := hBw.trans (hW2.below (by omega) (by intro q h1 h2; omega))
    exact ⟨_, rfl, ⟨.slice a ps.length cap, ps, by show _ = Value.agg (dk5 D.room _ (planA D.plan) false); rw [HP.out]; rfl, hs.below hBf, HPS.out⟩, hBf⟩

theorem do5_any {M : Nat → Prop} (D : DiskA) (v : Value) (w : World) (h : Ref5 M w D v) (hM : ∀ k, M k → k < w.heap.size) (o : OpA) (n : Bytes) (tv bv : Value) (hin : OpIn M w tv bv o) (hor : ∀ m, o ≠ .rename m) (hp0 : 0 ≤ D.plan) (hp1 : D.plan ≤ 4611686018427387904) (hn : n.length ≤ 1048576) (hl : D.files.length < 1048576) (hu : usedF D.files ≤ 1099511627776) :
    Calls Tryz.prog 66 #[v, op5 (kindA o) (stV n) tv bv] w fun e w' => ∃ v', e = .returned (.tuple #[v', .int .i64 (doA D o n).2]) ∧ Ref5 M w' (doA D o n).1 v' ∧ Below w.heap.size w w' := by
  cases hd : D.down with
  | true =>
    have e : doA D o n = (D, 10) := by unfold doA; rw [if_pos hd]
    rw [e]
    refine (do5_down D v w h _ _ tv bv hd).mono ?_
    rintro e w' ⟨rfl, hb⟩
    exact ⟨v, rfl, h.below hb, hb⟩
  | false =>
    by_cases hp : D.plan = 1
    · have e : doA D o n = ({ D with plan := 0, down := true }, 10) := by unfold doA; rw [if_neg (by rw [hd]; decide), if_pos hp]
      rw [e]
      exact do5_plan D v w h _ _ tv bv hd hp
    · have e : doA D o n = bodyA { D with plan := planA D.plan } o n := by unfold doA; rw [if_neg (by rw [hd]; decide), if_neg hp]
      rw [e]
      exact do5_open D v w h hM o n tv bv hin hor hd hp hp0 hp1 hn hl hu

end Go.Proofs.YtepceidajmedeaaGreatDoor

namespace Go.Proofs.YtepceidajmedeaaGreatDoor
open Go.RowKit CW

def lg8 (room : Int) (sv : Value) (plan : Int) (down : Bool) (most : Int) (n size waiting : Nat) : Array Value := #[.int .i64 room, sv, .int .i64 plan, .bool down, .int .i64 most, .int .i64 (n : Int), .int .i64 (size : Int), .int .i64 (waiting : Int)]
def Ref8 (M : Nat → Prop) (w : World) (L : LogA) (v : Value) : Prop := ∃ sv ps, v = .agg (lg8 L.D.room sv L.D.plan L.D.down L.most L.n L.size L.waiting) ∧ SlF M w sv ps ∧ ps.map (·.1) = L.D.files
theorem Ref8.below {M : Nat → Prop} {w w' : World} {L : LogA} {v : Value} (h : Ref8 M w L v) (hf : Below w.heap.size w w') : Ref8 M w' L v := by
  obtain ⟨sv, ps, h1, h2, h3⟩ := h
  exact ⟨sv, ps, h1, h2.below hf, h3⟩

theorem set4 {W : World} {g : Nat} {t : TypeId} {c0 c1 c2 c3 a b c d : Value} (h : W.heap[g]? = some (.cells #[c0, c1, c2, c3] t (0, 0))) :
    ((((W.setCell ⟨g, 0, none⟩ a).setCell ⟨g, 1, none⟩ b).setCell ⟨g, 2, none⟩ c).setCell ⟨g, 3, none⟩ d).heap[g]? = some (.cells #[a, b, c, d] t (0, 0)) ∧ Fr (fun k => k = g) W ((((W.setCell ⟨g, 0, none⟩ a).setCell ⟨g, 1, none⟩ b).setCell ⟨g, 2, none⟩ c).setCell ⟨g, 3, none⟩ d) := by
  have e0 := heap_setCell_same W g 0 _ t a h
  have e1 := heap_setCell_same _ g 1 _ t b e0
  have e2 := heap_setCell_same _ g 2 _ t c e1
  have e3 := heap_setCell_same _ g 3 _ t d e2
  exact ⟨e3, (((fr_setCell W g 0 a).trans (fr_setCell _ g 1 b) (fun _ _ h => h)).trans (fr_setCell _ g 2 c) (fun _ _ h => h)).trans (fr_setCell _ g 3 d) (fun _ _ h => h)⟩

theorem cells8 {w : World} {g : Nat} {t : TypeId} {fr : Nat × Nat} {a b c d e f i j : Value} (h : w.heap[g]? = some (.cells #[a, b, c, d, e, f, i, j] t fr)) :
    w.cell? ⟨g, 0, none⟩ = some a ∧ w.cell? ⟨g, 1, none⟩ = some b ∧ w.cell? ⟨g, 2, none⟩ = some c ∧ w.cell? ⟨g, 3, none⟩ = some d ∧ w.cell? ⟨g, 4, none⟩ = some e ∧ w.cell? ⟨g, 5, none⟩ = some f ∧ w.cell? ⟨g, 6, none⟩ = some i ∧ w.cell? ⟨g, 7, none⟩ = some j :=
  ⟨by rw [Go.cell_of_row _ g 0 _ _ _ h]; rfl, by rw [Go.cell_of_row _ g 1 _ _ _ h]; rfl, by rw [Go.cell_of_row _ g 2 _ _ _ h]; rfl, by rw [Go.cell_of_row _ g 3 _ _ _ h]; rfl, by rw [Go.cell_of_row _ g 4 _ _ _ h]; rfl, by rw [Go.cell_of_row _ g 5 _ _ _ h]; rfl, by rw [Go.cell_of_row _ g 6 _ _ _ h]; rfl, by rw [Go.cell_of_row _ g 7 _ _ _ h]; rfl⟩

theorem name8_any (c0 c1 c2 c3 c4 c6 c7 : Value) (n : Nat) (w : World) (h1 : 1 ≤ n) (h2 : n ≤ 99999999) :
    Calls Tryz.prog 69 #[.agg #[c0, c1, c2, c3, c4, .int .i64 (n : Int), c6, c7]] w fun e w' => e = .returned (.string ⟨(nameB n).toArray⟩) ∧ Below w.heap.size w w' := by
  have hc := fun W => name7_any n W (by omega)
  have hB := (boxF w (.cells #[c0, c1, c2, c3, c4, .int .i64 (n : Int), c6, c7] 37)).1
  have hc' : ∀ W, Calls Tryz.prog 73 #[.int .i64 (n : Int)] W fun e w' => w' = W ∧ e = .returned (.tuple #[.string ⟨(nameB n).toArray⟩, .bool true]) := fun W => (hc W).mono (by
    rintro e w' ⟨rfl, ⟨_, _, h⟩ | ⟨h, _⟩⟩
    · exact ⟨rfl, h⟩
    · exact absurd ⟨h1, h2⟩ h)
  clear hc
  generalize nameB n = nb at *
  go_enter Tryz.func69, Tryz.ntmps69
  go_wp2_with (go_at_call 73; refine (hc' _).mono ?_; rintro e w1 ⟨rfl, rfl⟩)
  go_ret
  exact ⟨rfl, hB⟩

theorem size37 : (Tryz.prog.info? 37).map (·.size) = some 8 := by kernel_rfl

end Go.Proofs.YtepceidajmedeaaGreatDoor

namespace Go.Proofs.YtepceidajmedeaaGreatDoor
open Go.RowKit CW

set_option maxHeartbeats 2000000 in
set_option maxRecDepth 100000 in
theorem new8_any {M : Nat → Prop} (room most : Int) (w : World) (hM : ∀ k, M k → k < w.heap.size) :
    Calls Tryz.prog 18 #[.int .i64 room, .int .i64 most] w fun e w' => ∃ v', e = .returned v' ∧ Ref8 M w' (startL room most) v' ∧ Below w.heap.size w w' := by
  have hA := boxF w (.cells #[.int .i64 0, .slice none 0 0, .int .i64 0, .bool false, .int .i64 0, .int .i64 0, .int .i64 0, .int .i64 0] 37)
  have hdo : ∀ W, Below w.heap.size w W → Calls Tryz.prog 66 #[.agg (dk5 (max room 0) (.slice none 0 0) 0 false), op5 1 (stV (nameB 1)) (.string ⟨#[]⟩) (.slice none 0 0)] W fun e w' => ∃ v', e = .returned (.tuple #[v', .int .i64 (doA (newA room) .create (nameB 1)).2]) ∧ Ref5 (fun k => k < W.heap.size) w' (doA (newA room) .create (nameB 1)).1 v' ∧ Below W.heap.size W w' := fun W hW =>
    do5_any (M := fun k => k < W.heap.size) (newA room) _ W ⟨.slice none 0 0, [], rfl, ⟨.inl ⟨⟨_, rfl⟩, rfl, rfl⟩, fun p hp => by cases hp⟩, rfl⟩ (fun k hk => hk) .create (nameB 1) _ _ trivial (fun m h => by cases h) (by rw [(newA_ok room).1]; omega) (by rw [(newA_ok room).1]; omega) (by rw [nameB_length]; omega) (by rw [(newA_ok room).2]; omega) (by show (0 : Nat) ≤ _; omega)
  have hnb : stV (nameB 1) = .string ⟨#[108, 111, 103, 45, 48, 48, 48, 48, 48, 48, 48, 49]⟩ := by kernel_rfl
  rw [hnb] at hdo
  have HR : Hid (startL room most = ⟨(doA (newA room) .create (nameB 1)).1, most, 1, 0, 0⟩) := rfl
  obtain ⟨R, hR⟩ : ∃ R, doA (newA room) .create (nameB 1) = R := ⟨_, rfl⟩
  rw [hR] at hdo HR
  clear hR hnb
  unfold dk5 op5 at hdo
  go_enter Tryz.func18, Tryz.ntmps18
  go_wp2_with fail
  have hdo1 := hdo _ hA.1
  refine hdo1.mono ?_
  rintro e w2 ⟨v2, rfl, hr2, hb2⟩
  obtain ⟨sv2, ps2, rfl, hs2, hps2⟩ := hr2
  obtain ⟨a2, cap2, rfl, hn2, hc2, _, _⟩ := hs2.open
  unfold dk5
  have k0 := (hb2.block w.heap.size (by rw [hA.2.1]; omega)).trans hA.2.2
  have hz2 := hb2.size
  rw [hA.2.1] at hz2
  have hB2 := hA.1.trans (hb2.mono (by rw [hA.2.1]; omega))
  have hs2' := hs2.fr (M' := fun k => M k ∨ k = w.heap.size) (F := fun _ => False) (Fr.refl _ _) (fun _ h => h.elim) (fun k hk h => by
    rw [hA.2.1]
    rcases h with h | h
    · have := hM k h; omega
    · omega)
  clear hdo hdo1 hb2 hA hs2
  have kA : ∀ C, (w2.alloc C).heap[w.heap.size]? = some (.cells #[.int .i64 0, .slice none 0 0, .int .i64 0, .bool false, .int .i64 0, .int .i64 0, .int .i64 0, .int .i64 0] 37 (0, 0)) := fun C => ((boxF w2 C).1.block w.heap.size (by omega)).trans k0
  have hBA : ∀ C, Below w2.heap.size w2 (w2.alloc C) := fun C => (boxF w2 C).1
  go_wp2_with ((with_reducible refine at_sto ?_); refine wpList_store_in rfl (ty := 37) (x := .tmp 4) (y := .tmp 17) rfl w.heap.size 0 37 (.agg #[.int .i64 R.1.room, .slice a2 ps2.length cap2, .int .i64 R.1.plan, .bool R.1.down, .int .i64 most, .int .i64 1, .int .i64 0, .int .i64 0]) [.int .i64 0, .slice none 0 0, .int .i64 0, .bool false, .int .i64 0, .int .i64 0, .int .i64 0, .int .i64 0] rfl rfl (kA _) (by simp [Value.cells]) size37 (by intro u hu; simp [Value.cells] at hu; rcases hu with rfl | rfl | rfl | rfl | rfl | rfl | rfl | rfl <;> rfl) ?_; intro W9 hE1 hE2 hE3; have hF9 := (Fr.of_below (hBA _) (F := fun k => k = w.heap.size)).trans hE2 (fun _ _ h => h); replace hE1 : W9.heap[w.heap.size]? = some (.cells #[.int .i64 R.1.room, .slice a2 ps2.length cap2, .int .i64 R.1.plan, .bool R.1.down, .int .i64 most, .int .i64 1, .int .i64 0, .int .i64 0] 37 (0, 0)) := hE1)
  refine bodyPost_ret (results_cell_row (fr := (0, 0)) Tryz.results18 _ _ w.heap.size 37 _ _ rfl hE1 Tryz.underlying37 rfl (by kernel_rfl)) rfl ?_
  have hBf : Below w.heap.size w W9 := hB2.trans (hF9.below (by omega) (by intro q h1 h2; omega))
  rw [HR.out]
  exact ⟨_, rfl, ⟨.slice a2 ps2.length cap2, ps2, rfl, hs2'.fr hF9 (fun k hk => .inr hk) (fun _ _ h => .inl h), hps2⟩, hBf⟩

end Go.Proofs.YtepceidajmedeaaGreatDoor

namespace Go.Proofs.YtepceidajmedeaaGreatDoor
open Go.RowKit CW

def records8 (D : DiskA) : List Bytes := (list7 (D.files.map FileA.name)).flatMap (recOf D)

/-- A slice of slices of bytes, of the call's own; its elements may lie in older memory. -/
def OwnBX (B : Nat) (w : World) (v : Value) (rs : List Bytes) : Prop :=
  ∃ vs : List Value, vs.length = rs.length ∧ w.ownsRow B 30 1 v rs.length vs ∧ ∀ (i : Nat) (u : Value) (bs : Bytes), vs[i]? = some u → rs[i]? = some bs → SlB (fun k => some k = v.ownBlock) w u bs

theorem OwnBX.nil {B : Nat} {w : World} : OwnBX B w (.slice none 0 0) [] := ⟨[], rfl, World.ownsRow_nil _ _ _ _, fun i u bs h => by simp at h⟩
theorem OwnBX.below {B : Nat} {w w' : World} {v : Value} {rs : List Bytes} (h : OwnBX B w v rs) (hb : Below w.heap.size w w') : OwnBX B w' v rs := by
  obtain ⟨vs, h1, h2, h3⟩ := h
  exact ⟨vs, h1, owns_below h2 hb, fun i u bs hu hs => (h3 i u bs hu hs).below hb⟩
theorem OwnBX.sl {B : Nat} {w : World} {v : Value} {rs : List Bytes} (h : OwnBX B w v rs) : SlBB (fun _ => False) w v rs := by
  obtain ⟨vs, h1, h2, h3⟩ := h
  exact ⟨vs, h1, (Row.of_owns h2).mono (fun k _ hk => hk.elim), fun i u bs hu hs => (h3 i u bs hu hs).mono (fun k _ hk => hk.elim)⟩

theorem OwnBX.app {B : Nat} {w w' : World} {rs xs : List Bytes} {vs us : List Value} {v v' : Value} (hl : vs.length = rs.length) (h3 : ∀ (i : Nat) (u : Value) (bs : Bytes), vs[i]? = some u → rs[i]? = some bs → SlB (fun k => some k = v.ownBlock) w u bs)
    (hl2 : us.length = xs.length) (h4 : ∀ (i : Nat) (u : Value) (bs : Bytes), us[i]? = some u → xs[i]? = some bs → SlB (fun k => some k = v.ownBlock) w u bs)
    (ho : w'.ownsRow B 30 1 v' (rs.length + xs.length) (vs ++ us)) (hg : w.grownBy w' v.ownBlock) (hat : v'.ownBlock = v.ownBlock ∨ v'.ownBlock = some w.heap.size) : OwnBX B w' v' (rs ++ xs) := by
  have hf : Fr (fun k => some k = v.ownBlock) w w' := ⟨hg.os, hg.tape, hg.output, hg.size, fun k hk hn => hg.block k hk hn⟩
  have hsub : ∀ (u : Value) (bs : Bytes), SlB (fun k => some k = v.ownBlock) w u bs → SlB (fun k => some k = v'.ownBlock) w' u bs := fun u bs h => h.fr hf (fun k hk => hk) (fun k hk hk' => by
    rcases hat with e | e
    · rw [← e]; exact hk'
    · rw [e] at hk'
      have := Option.some.inj hk'
      omega)
  refine ⟨vs ++ us, by simp [hl, hl2], by rw [List.length_append]; exact ho, fun i u bs hu hs => ?_⟩
  rcases Nat.lt_or_ge i vs.length with hi | hi
  · rw [List.getElem?_append_left hi] at hu
    rw [List.getElem?_append_left (by omega)] at hs
    exact hsub _ _ (h3 i u bs hu hs)
  · rw [List.getElem?_append_right hi] at hu
    rw [List.getElem?_append_right (by omega)] at hs
    rw [← hl] at hs
    exact hsub _ _ (h4 _ u bs hu hs)

theorem own_lt {w : World} {base e size n : Nat} {v : Value} {cs : List Value} (h : w.ownsRow base e size v n cs) (k : Nat) (hk : some k = v.ownBlock) : base ≤ k ∧ k < w.heap.size := by
  rcases h.2 with ⟨hv, _⟩ | ⟨g, cap, cur, hv, hg, hh, _⟩
  · rw [hv] at hk; cases hk
  · rw [hv] at hk
    have e : k = g := Option.some.inj hk
    have := (Array.getElem?_eq_some_iff.1 hh).1
    omega

set_option maxHeartbeats 4000000 in
set_option maxRecDepth 100000 in
theorem records8_any (D : DiskA) (v : Value) (w : World) (h : Ref5 (fun _ => False) w D v) (hl : D.files.length ≤ 1048576) (hu : usedF D.files ≤ 1099511627776)
    (hz : ∀ z ∈ list7 (D.files.map FileA.name), 1 ≤ z ∧ z ≤ 99999999 ∧ ∃ f ∈ D.files, f.name = nameB z.toNat) (hc : (records8 D).length ≤ 1048576) :
    Calls Tryz.prog 22 #[v] w fun e w' => ∃ v', e = .returned v' ∧ SlBB (fun _ => False) w' v' (records8 D) ∧ Below w.heap.size w w' := by
  obtain ⟨sv, ps, rfl, hs, hps⟩ := h
  obtain ⟨a, cap, rfl, hn', hcp, hnone, hcell⟩ := hs.open
  have hpl : ps.length = D.files.length := by rw [← hps, List.length_map]
  have hB0 := (boxF w (.cells #[.int .i64 D.room, .slice a ps.length cap, .int .i64 D.plan, .bool D.down] 35))
  have hnm := names5_any D.room D.plan D.down (.slice a ps.length cap) ps
  have hnv : namesV ps = (D.files.map FileA.name).map stV := by rw [← hps, List.map_map, List.map_map]; rfl
  have hfd : ∀ (n : Bytes) (W : World), Below w.heap.size w W → Calls Tryz.prog 75 #[.agg (dk5 D.room (.slice a ps.length cap) D.plan D.down), stV n] W fun e w' => e = .returned (.int .i64 (ixZ (findK nm ps n))) ∧ Below W.heap.size W w' := fun n W hW => find5_any D.room D.plan D.down _ ps n W (hs.below hW)
  have hfind : ∀ z ∈ list7 (D.files.map FileA.name), ∃ i, ∃ hi : i < ps.length, findK nm ps (nameB z.toNat) = some i ∧ recOf D z = (splitB ps[i].1.b).1 ∧ ps[i].1.b.length ≤ 1099511627776 := fun z hzm => by
    obtain ⟨_, _, f, hf, hfn⟩ := hz z hzm
    have hfk : findF D.files (nameB z.toNat) = findK nm ps (nameB z.toNat) := by rw [← hps]; exact findK_map (fun p : FileA × Value => p.1) (fun _ => rfl) ps _
    rcases hx : findK nm ps (nameB z.toNat) with _ | i
    · rw [hx] at hfk
      exact absurd hfn (findK_none.1 hfk f hf)
    · rw [hx] at hfk
      obtain ⟨hi, _⟩ := findK_some hx
      have hi2 : i < D.files.length := by omega
      have hfi : D.files[i] = ps[i].1 := by simp [← hps]
      refine ⟨i, hi, rfl, ?_, ?_⟩
      · unfold recOf readA
        rw [hfk]
        simp only [Option.bind_some, List.getElem?_eq_getElem hi2, hfi]
      · rw [← hfi]
        exact Nat.le_trans (usedF_mem (List.getElem_mem hi2)) hu
  have hrA : records8 D = (list7 (D.files.map FileA.name)).flatMap (recOf D) := rfl
  have hzl := list7_len (D.files.map FileA.name)
  rw [List.length_map] at hzl
  have hsg := fun (v : Value) (W : World) (hv : SlS (fun _ => False) W v (D.files.map FileA.name)) => list7_any v (D.files.map FileA.name) W hv (by rw [List.length_map]; omega)
  have HLEN : Hid (ps.length = (D.files.map FileA.name).length) := by show _ = _; rw [List.length_map]; exact hpl
  rw [hnv] at hnm
  generalize D.files.map FileA.name = ss at *
  generalize list7 ss = zs at *
  clear hnv hps
  have hpl2 : ps.length ≤ 1048576 := by omega
  clear hpl hl
  unfold stV at hfd
  unfold dk5 at hfd hnm ⊢
  go_enter Tryz.func22, Tryz.ntmps22
  go_wp2_with (first
    | (go_at_call 50; refine (hnm _ (hs.below hB0.1) (by omega)).mono ?_; rintro e w1 ⟨v1, rfl, ho1, hB1⟩; have hs1 := hsg v1 w1 (by have := (Row.of_owns ho1).mono (M' := fun _ => False) (fun _ _ h => h.elim); rw [HLEN.out] at this; exact this))
    | (go_at_call 72; refine hs1.mono ?_; rintro e w2 ⟨v2, rfl, ho2, hB2⟩; have hrz := (Row.of_owns ho2).open; obtain ⟨az, cz, rfl, hz1, hz2, hz3, hz4⟩ := hrz))
  have hz0 := hB0.2.1
  have hB12 : Below (w.heap.size + 1) (w.alloc (.cells #[.int .i64 D.room, .slice a ps.length cap, .int .i64 D.plan, .bool D.down] 35)) w2 := by
    have h2 := hB1.trans (hB2.mono hB1.size)
    rw [hz0] at h2
    exact h2
  have hBw2 : Below w.heap.size w w2 := hB0.1.trans (hB12.mono (by omega))
  have kb := (hB12.block w.heap.size (by omega)).trans hB0.2.2
  have hsz2 : w.heap.size < w2.heap.size := by have := hB12.size; omega
  clear hB0 hz0 hB12 hB1 hB2 ho1 hs1 ho2 hnm hsg
  go_loopw [4, 5] (fun out i wr => ∃ k : Nat, k ≤ zs.length ∧ i = .int .i64 k ∧ OwnBX w2.heap.size wr out ((zs.take k).flatMap (recOf D)) ∧ Hid (Below w2.heap.size w2 wr)) (fun _ i _ => zs.length - (intOf i).toNat)
  case atStart => exact ⟨0, by omega, rfl, OwnBX.nil, Below.refl _ _⟩
  case round =>
    obtain ⟨k, hk, rfl, hown, HB⟩ := hrel
    have hBr := HB.out
    have hBw : Below w.heap.size w wr := hBw2.trans (hBr.mono hBw2.size)
    by_cases hlt : k < zs.length
    · obtain ⟨bz, oz, rfl, hbz, _, hcz⟩ := hz4 (by omega)
      have c1 := (hBr.cell (p := ⟨bz, oz + k, none⟩) hbz).trans (hcz k (.int .i64 zs[k]) (by simp [ints, hlt]))
      have hmem := List.getElem_mem hlt
      obtain ⟨hzk1, hzk2, _⟩ := hz zs[k] hmem
      obtain ⟨i, hi, hfi, hrec, hbl⟩ := hfind zs[k] hmem
      have HT : Hid ((zs.take (k + 1)).flatMap (recOf D) = (zs.take k).flatMap (recOf D) ++ recOf D zs[k]) := flatMap_take_succ D zs k hlt
      have hle := flatMap_take_le D zs (k + 1)
      rw [HT.out, List.length_append, ← hrA] at hle
      rw [hrec] at HT hle
      obtain ⟨b, off, rfl, hb, _, hcc⟩ := hcell (by omega)
      obtain ⟨_, c2, _⟩ := hcc i hi
      have hsh : SlB (fun k => w.heap.size ≤ k) w ps[i].2 ps[i].1.b := (hs.2 ps[i] (List.getElem_mem hi)).mono (fun q hq h => by omega)
      have hBc : Below w.heap.size w wr := hBw
      clear hcz hz4 hcc hcell hz hfind hrec hmem
      generalize (zs.take k).flatMap (recOf D) = rs at *
      obtain ⟨n, hn⟩ : ∃ n : Nat, zs[k] = (n : Int) := ⟨zs[k].toNat, by omega⟩
      rw [hn] at c1 hzk1 hzk2 hfi
      rw [Int.toNat_natCast] at hfi
      clear hn
      have hn1 := fun W => (name7_any n W (by omega)).mono (R' := fun e w' => W = w' ∧ e = .returned (.tuple #[.string ⟨(nameB n).toArray⟩, .bool true])) (by
        rintro e w' ⟨rfl, ⟨_, _, h⟩ | ⟨h, _⟩⟩
        · exact ⟨rfl, h⟩
        · exact absurd ⟨by omega, by omega⟩ h)
      have hfd1 := hfd (nameB n)
      rw [hfi] at hfd1
      unfold ixZ at hfd1
      simp only at hfd1
      clear hfd hfi
      generalize nameB n = nb at *
      generalize ps[i].1.b = bs at *
      obtain ⟨a2, cap2, hsv, hs1, hs2⟩ := hsh.shape
      rw [hsv] at c2 hsh
      clear hsv
      obtain ⟨vs, hvl, hvo, hve⟩ := hown
      have i1 : (k : Int) < (zs.length : Int) := by omega
      have i2 : (i : Int) < (ps.length : Int) := by omega
      rw [show off + (i * 3 + 1) = off + i * 3 + 1 by omega] at c2
      have kbr := (hBr.block w.heap.size hsz2).trans kb
      have hlr : w.heap.size < wr.heap.size := Nat.lt_of_lt_of_le hsz2 hBr.size
      have hblr : b < wr.heap.size := Nat.lt_of_lt_of_le hb hBw.size
      have c2r := (hBw.cell (p := ⟨b, off + i * 3 + 1, none⟩) hb).trans c2
      have hSS : ∀ W, Below wr.heap.size wr W → (Below wr.heap.size wr W ∧ W.cell? ⟨w.heap.size, 0, none⟩ = some (.int .i64 D.room) ∧ W.cell? ⟨w.heap.size, 1, none⟩ = some (.slice (some ⟨b, off, none⟩) ps.length cap) ∧ W.cell? ⟨w.heap.size, 2, none⟩ = some (.int .i64 D.plan) ∧ W.cell? ⟨w.heap.size, 3, none⟩ = some (.bool D.down) ∧ W.cell? ⟨b, off + i * 3 + 1, none⟩ = some (.slice a2 bs.length cap2)) := fun W hW => ⟨hW, (cells4 ((hW.block _ hlr).trans kbr)).1, (cells4 ((hW.block _ hlr).trans kbr)).2.1, (cells4 ((hW.block _ hlr).trans kbr)).2.2.1, (cells4 ((hW.block _ hlr).trans kbr)).2.2.2, (hW.cell (p := ⟨b, off + i * 3 + 1, none⟩) hblr).trans c2r⟩
      have hSw : ∀ W, Below wr.heap.size wr W → Below w.heap.size w W := fun W hW => hBw.trans (hW.mono hBw.size)
      have hMlt : ∀ k, some k = u4.ownBlock → w2.heap.size ≤ k ∧ k < wr.heap.size := fun k hk => own_lt hvo k hk
      have hsp : ∀ W, Below wr.heap.size wr W → Calls Tryz.prog 74 #[.slice a2 bs.length cap2] W fun e w' => ∃ v', e = .returned (.tuple #[v', .int .i64 ((splitB bs).2 : Nat)]) ∧ SlBB (fun k => some k = u4.ownBlock) w' v' (splitB bs).1 ∧ Below W.heap.size W w' := fun W hW =>
        split6_any (fun k => some k = u4.ownBlock) _ bs W (fun k hk => Nat.lt_of_lt_of_le (hMlt k hk).2 hW.size) (hsh.fr (F := fun _ => False) (Fr.of_below (hSw W hW)) (fun _ h => h.elim) (fun k hk h => by have := (hMlt k h).1; omega)) (by omega)
      have hS0 := hSS wr (Below.refl _ _)
      have hSd := hSS wr.drew (Below.refl _ _).drew
      clear hsh c2 kb kbr
      generalize splitB bs = SB at *
      go_wp2_with (go_at_call 73; refine (hn1 _).mono ?_; rintro e w3 ⟨rfl, rfl⟩)
      go_region_held3 (fun W => Below wr.heap.size wr W ∧ W.cell? ⟨w.heap.size, 0, none⟩ = some (.int .i64 D.room) ∧ W.cell? ⟨w.heap.size, 1, none⟩ = some (.slice (some ⟨b, off, none⟩) ps.length cap) ∧ W.cell? ⟨w.heap.size, 2, none⟩ = some (.int .i64 D.plan) ∧ W.cell? ⟨w.heap.size, 3, none⟩ = some (.bool D.down) ∧ W.cell? ⟨b, off + i * 3 + 1, none⟩ = some (.slice a2 bs.length cap2)) (first | assumption)
        (first
          | (go_at_call 75; refine (hfd1 _ (hSw _ hSd.1)).mono ?_; rintro e w3 ⟨rfl, hb3⟩; have hS3 := hSS w3 ((Below.refl _ _).drew.trans hb3))
          | (go_at_call 74; refine (hsp _ hS3.1).mono ?_; rintro e w5 ⟨v5, rfl, hs5, hb5⟩; have hS5 := hSS w5 (hS3.1.trans (hb5.mono hS3.1.size))))
      obtain ⟨us, hul, hur, hue⟩ := hs5
      have hvo5 := owns_below hvo hS5.1
      have hB5 := hS5.1
      have hBr5 := hBr.trans (hS5.1.mono hBr.size)
      clear hS5 hS3 hSd hS0 hSS hSw hsp hfd1 hn1 hMlt
      go_wp2_with (at_builtin; refine wpList_app_at tyBB rfl rfl rfl rfl hvo5 hur (by simp; omega) (one_of_slbb hul hue) (by unfold maxLen; omega) (by omega) hBr5.size ?_; intro v6 w6 ho6 hg6 hat6)
      have hve5 : ∀ (i : Nat) (u : Value) (bs : Bytes), vs[i]? = some u → rs[i]? = some bs → SlB _ w5 u bs := fun i u bs h1 h2 => (hve i u bs h1 h2).below hB5
      have hfin := OwnBX.app hvl hve5 hul hue ho6 hg6 hat6
      have hB6 : Hid (Below w2.heap.size w2 w6) := hBr5.trans (below_grown hvo5 hg6 hBr5.size)
      go_roundw
      case rel => exact ⟨k + 1, by omega, by go_num, by rw [HT.out]; exact hfin, hB6⟩
      case measure => simp [intOf]; omega
    · have htk : zs.take k = zs := List.take_of_length_le (by omega)
      rw [htk, ← hrA] at hown
      go_wp2
      go_ret
      exact ⟨_, rfl, hown.sl, hBw⟩

end Go.Proofs.YtepceidajmedeaaGreatDoor

namespace Go.Proofs.YtepceidajmedeaaGreatDoor
open Go.RowKit CW

/-- Records that were taken, in a slice of the call's own; they lie in older memory. -/
def OwnW (S : Nat → Prop) (w wr : World) (v : Value) (ws : List Bytes) : Prop :=
  ∃ vs : List Value, vs.length = ws.length ∧ wr.ownsRow w.heap.size 30 1 v ws.length vs ∧ (∀ g, v.ownBlock = some g → ¬ S g) ∧ ∀ (i : Nat) (u : Value) (bs : Bytes), vs[i]? = some u → ws[i]? = some bs → SlB (fun q => w.heap.size ≤ q) w u bs

theorem OwnW.nil {S : Nat → Prop} {w wr : World} : OwnW S w wr (.slice none 0 0) [] := ⟨[], rfl, World.ownsRow_nil _ _ _ _, (fun g h => by cases h), fun i u bs h => by simp at h⟩

theorem OwnW.fr {S S' F : Nat → Prop} {w wr W : World} {v : Value} {ws : List Bytes} (h : OwnW S w wr v ws) (hf : Fr F wr W) (hF : ∀ g, g < wr.heap.size → F g → S g ∨ v.ownBlock ≠ some g) (hS : ∀ k, k < wr.heap.size → S' k → S k) : OwnW S' w W v ws := by
  obtain ⟨vs, h1, h2, h3, h4⟩ := h
  have hlt := fun g hg => (own_lt h2 g hg).2
  refine ⟨vs, h1, ownsRow_block h2 (fun g hg => hf.block g (hlt g hg.symm) (fun hfg => ?_)), fun g hg hs => h3 g hg (hS g (hlt g hg.symm) hs), h4⟩
  rcases hF g (hlt g hg.symm) hfg with h | h
  · exact h3 g hg h
  · exact h hg

theorem OwnW.sl {S : Nat → Prop} {w wr : World} {v : Value} {ws : List Bytes} (h : OwnW S w wr v ws) (hB : Below w.heap.size w wr) : SlBB (fun _ => False) wr v ws := by
  obtain ⟨vs, h1, h2, h3, h4⟩ := h
  exact ⟨vs, h1, (Row.of_owns h2).mono (fun k _ hk => hk.elim), fun i u bs hu hs => (h4 i u bs hu hs).fr (F := fun _ => False) (Fr.of_below hB) (fun _ h => h.elim) (fun k _ h => h.elim)⟩

/-- A log and what was taken, on the way. -/
structure Way (w : World) (l d : Nat) (L : LogA) (want : Value) (ws : List Bytes) (wr : World) : Prop where
  ex : ∃ S, LogAt S wr l d L ∧ (∀ q, S q → w.heap.size ≤ q) ∧ OwnW S w wr want ws
  below : Below w.heap.size w wr

theorem Way.fr {F : Nat → Prop} {w wr W : World} {l d : Nat} {L : LogA} {want : Value} {ws : List Bytes} (h : Way w l d L want ws wr) (hf : Fr F wr W) (hF : ∀ g, F g → wr.heap.size ≤ g) : Way w l d L want ws W := by
  obtain ⟨S, h1, h2, h3⟩ := h.ex
  have hlt : ∀ k, S k → k < wr.heap.size := by obtain ⟨_, _, _, _, _, _, h6⟩ := h1; exact h6
  refine ⟨⟨S, h1.fr hf (fun k hk hfk => by have := hF k hfk; have := hlt k hk; omega), h2, h3.fr hf (fun g hg hfg => by have := hF g hfg; omega) (fun _ _ h => h)⟩, h.below.trans (hf.below h.below.size (fun q h1 h2 => ?_))⟩
  have := hF q h2
  have := h.below.size
  omega

theorem Way.lt {w wr : World} {l d : Nat} {L : LogA} {want : Value} {ws : List Bytes} (h : Way w l d L want ws wr) : ∃ T, DiskAt T wr d L.D := by
  obtain ⟨S, ⟨T, _, h2, _⟩, _⟩ := h.ex
  exact ⟨T, h2⟩

/-- A record was refused. -/
theorem Way.skip {w wr W : World} {l d : Nat} {L : LogA} {R : LogA × Int} {want : Value} {ws : List Bytes} {c : Int} {S : Nat → Prop} (h1 : LogAt S wr l d L) (h2 : ∀ q, S q → w.heap.size ≤ q) (h3 : OwnW S w wr want ws) (hb : Below w.heap.size w wr) (hp : LogPost S wr l d R c W) : Way w l d R.1 want ws W := by
  obtain ⟨S', _, h4, h5, h6⟩ := hp
  refine ⟨⟨S', h4, fun q hq => ?_, h3.fr h5 (fun g _ h => .inl h) h6⟩, hb.trans (h5.below hb.size (fun q k1 k2 => by have := h2 q k2; omega))⟩
  rcases Nat.lt_or_ge q wr.heap.size with h | h
  · exact h2 q (h6 q h hq)
  · have := hb.size; omega

/-- A record was taken. -/
theorem Way.took {w wr W W' : World} {l d : Nat} {L : LogA} {want want' u : Value} {x : Bytes} {ws : List Bytes} {vs : List Value} (h : Way w l d L want ws wr) (hl : vs.length = ws.length) (hve : ∀ (i : Nat) (u : Value) (bs : Bytes), vs[i]? = some u → ws[i]? = some bs → SlB (fun q => w.heap.size ≤ q) w u bs)
    (hu : SlB (fun q => w.heap.size ≤ q) w u x) (hB : Below wr.heap.size wr W) (ho : W'.ownsRow w.heap.size 30 1 want' (ws.length + 1) (vs ++ [u])) (hg : W.grownBy W' want.ownBlock) (hat : want'.ownBlock = want.ownBlock ∨ want'.ownBlock = some W.heap.size) (hge : ∀ g, want.ownBlock = some g → w.heap.size ≤ g) : Way w l d L want' (ws ++ [x]) W' := by
  obtain ⟨S, h1, h2, vs0, _, h3, h4, _⟩ := h.ex
  have hlt : ∀ k, S k → k < wr.heap.size := by obtain ⟨_, _, _, _, _, _, h6⟩ := h1; exact h6
  have hf : Fr (fun k => some k = want.ownBlock) W W' := ⟨hg.os, hg.tape, hg.output, hg.size, fun k hk hn => hg.block k hk hn⟩
  refine ⟨⟨S, (h1.below hB).fr hf (fun k hk hn => h4 k hn.symm hk), h2, vs ++ [u], by simp [hl], by rw [List.length_append]; exact ho, fun g hgg hs => ?_, fun i u' bs hu' hs => ?_⟩, (h.below.trans (hB.mono h.below.size)).trans (hf.below (Nat.le_trans h.below.size hB.size) (fun q k1 k2 => by have := hge q k2.symm; omega))⟩
  · rcases hat with e | e
    · rw [e] at hgg; exact h4 g hgg hs
    · rw [e] at hgg
      have := Option.some.inj hgg
      have := hlt g hs
      have := hB.size
      omega
  · rcases Nat.lt_or_ge i vs.length with hi | hi
    · rw [List.getElem?_append_left hi] at hu'
      rw [List.getElem?_append_left (by omega)] at hs
      exact hve i u' bs hu' hs
    · rw [List.getElem?_append_right hi] at hu'
      rw [List.getElem?_append_right (by omega), ← hl] at hs
      rcases h0 : i - vs.length with _ | j
      · rw [h0] at hu' hs
        simp at hu' hs
        subst hu' hs
        exact hu
      · rw [h0] at hu'
        simp at hu'

end Go.Proofs.YtepceidajmedeaaGreatDoor

namespace Go.Proofs.YtepceidajmedeaaGreatDoor
open Go.RowKit CW

/-- The first drawn statement: the change of the disk, laid into a new variable. -/
theorem lg8_eq (room : Int) (sv : Value) (plan : Int) (down : Bool) (most : Int) (n size waiting : Nat) : lg8 room sv plan down most n size waiting = #[.int .i64 room, sv, .int .i64 plan, .bool down, .int .i64 most, .int .i64 (n : Int), .int .i64 (size : Int), .int .i64 (waiting : Int)] := rfl

theorem size134' : (Tryz.prog.info? 3).map (·.size) = some 1 := by kernel_rfl

set_option maxHeartbeats 4000000 in
set_option maxRecDepth 100000 in
theorem rot8_any {M : Nat → Prop} (L : LogA) (v : Value) (w : World) (h : Ref8 M w L v) (hM : ∀ k, M k → k < w.heap.size) (hn1 : 1 ≤ L.n) (hn : L.n + 1 < 100) (hp0 : 0 ≤ L.D.plan) (hp1 : L.D.plan ≤ 4611686018427387904) (hfl : L.D.files.length < 1048576) (hus : usedF L.D.files ≤ 1099511627776)
    (hq0 : 0 ≤ (doA L.D .sync (nameB L.n)).1.plan) (hq1 : (doA L.D .sync (nameB L.n)).1.plan ≤ 4611686018427387904) (hqf : (doA L.D .sync (nameB L.n)).1.files.length < 1048576) (hqu : usedF (doA L.D .sync (nameB L.n)).1.files ≤ 1099511627776) :
    Calls Tryz.prog 68 #[v] w fun e w' => ∃ v', e = .returned (.tuple #[v', .int .i64 (rotA L).2]) ∧ Ref8 M w' (rotA L).1 v' ∧ Below w.heap.size w w' := by
  obtain ⟨sv, ps, rfl, hs, hps⟩ := h
  obtain ⟨a, cap, rfl, hn', hc, hnone, _⟩ := hs.open
  have hrA : rotA L = if (doA L.D .sync (nameB L.n)).2 ≠ 0 then ({ L with D := (doA L.D .sync (nameB L.n)).1 }, (doA L.D .sync (nameB L.n)).2) else if (doA (doA L.D .sync (nameB L.n)).1 .create (nameB (L.n + 1))).2 ≠ 0 then ({ L with D := (doA (doA L.D .sync (nameB L.n)).1 .create (nameB (L.n + 1))).1 }, (doA (doA L.D .sync (nameB L.n)).1 .create (nameB (L.n + 1))).2) else (⟨(doA (doA L.D .sync (nameB L.n)).1 .create (nameB (L.n + 1))).1, L.most, L.n + 1, 0, 0⟩, 0) := rfl
  obtain ⟨⟨room, files, plan, down⟩, most, n, sz, wt⟩ := L
  simp only at hn1 hn hp0 hp1 hfl hus hps
  have hdo : ∀ W, Below w.heap.size w W → Calls Tryz.prog 66 #[.agg (dk5 room (.slice a ps.length cap) plan down), op5 3 (stV (nameB n)) (.string ⟨#[]⟩) (.slice none 0 0)] W fun e w' => ∃ v', e = .returned (.tuple #[v', .int .i64 (doA ⟨room, files, plan, down⟩ .sync (nameB n)).2]) ∧ Ref5 (fun k => M k ∨ (w.heap.size ≤ k ∧ k < W.heap.size)) w' (doA ⟨room, files, plan, down⟩ .sync (nameB n)).1 v' ∧ Below W.heap.size W w' := fun W hW =>
    do5_any (M := (fun k => M k ∨ (w.heap.size ≤ k ∧ k < W.heap.size))) ⟨room, files, plan, down⟩ _ W ⟨_, ps, rfl, hs.fr (F := fun _ => False) (Fr.of_below hW) (fun _ h => h.elim) (fun k hk h => h.elim id (fun h => by omega)), hps⟩ (fun k hk => by have := hW.size; rcases hk with hk | hk; exact Nat.lt_of_lt_of_le (hM k hk) hW.size; exact hk.2) .sync (nameB n) _ _ trivial (fun m h => by cases h) hp0 hp1 (by rw [nameB_length]; omega) hfl hus
  have hnm := fun W (c0 c1 c2 c3 c4 c6 c7 : Value) => name8_any c0 c1 c2 c3 c4 c6 c7 n W hn1 (by omega)
  simp only at hrA hq0 hq1 hqf hqu
  obtain ⟨R1, hR1⟩ : ∃ R, doA ⟨room, files, plan, down⟩ .sync (nameB n) = R := ⟨_, rfl⟩
  rw [hR1] at hrA hq0 hq1 hqf hqu hdo
  have HRA : Hid (rotA ⟨⟨room, files, plan, down⟩, most, n, sz, wt⟩ = if R1.2 ≠ 0 then (⟨R1.1, most, n, sz, wt⟩, R1.2) else if (doA R1.1 .create (nameB (n + 1))).2 ≠ 0 then (⟨(doA R1.1 .create (nameB (n + 1))).1, most, n, sz, wt⟩, (doA R1.1 .create (nameB (n + 1))).2) else (⟨(doA R1.1 .create (nameB (n + 1))).1, most, n + 1, 0, 0⟩, 0)) := hrA
  clear hrA hR1 hus hfl hp0 hp1
  generalize rotA ⟨⟨room, files, plan, down⟩, most, n, sz, wt⟩ = RR at *
  unfold dk5 op5 stV at hdo
  unfold lg8
  generalize nameB n = nb at *
  have hB0 := (boxF w (.cells #[.int .i64 room, .slice a ps.length cap, .int .i64 plan, .bool down, .int .i64 most, .int .i64 (n : Int), .int .i64 (sz : Int), .int .i64 (wt : Int)] 37))
  have hB2 := (boxF (w.alloc (.cells #[.int .i64 room, .slice a ps.length cap, .int .i64 plan, .bool down, .int .i64 most, .int .i64 (n : Int), .int .i64 (sz : Int), .int .i64 (wt : Int)] 37)) (.cells #[.int .i64 0, .slice none 0 0, .int .i64 0, .bool false, .int .i64 0, .int .i64 0, .int .i64 0, .int .i64 0] 37))
  have i1 : ¬ (99999999 : Int) ≤ (n : Int) := by omega
  go_enter Tryz.func68, Tryz.ntmps68
  go_wp2_with fail
  have k0 := (hB2.1.block w.heap.size (by rw [hB0.2.1]; omega)).trans hB0.2.2
  have k1 := hB2.2.2
  rw [hB0.2.1] at k1
  have hz0 := hB2.2.1
  rw [hB0.2.1] at hz0
  have hBW := hB0.1.trans (hB2.1.mono (by rw [hB0.2.1]; omega))
  generalize ((w.alloc (.cells #[.int .i64 room, .slice a ps.length cap, .int .i64 plan, .bool down, .int .i64 most, .int .i64 (n : Int), .int .i64 (sz : Int), .int .i64 (wt : Int)] 37)).alloc (.cells #[.int .i64 0, .slice none 0 0, .int .i64 0, .bool false, .int .i64 0, .int .i64 0, .int .i64 0, .int .i64 0] 37)) = W0 at *
  have hl0 : w.heap.size < W0.heap.size := by omega
  have hSS : ∀ W, Below W0.heap.size W0 W → (Below W0.heap.size W0 W ∧ W.cell? ⟨w.heap.size, 0, none⟩ = some (.int .i64 room) ∧ W.cell? ⟨w.heap.size, 1, none⟩ = some (.slice a ps.length cap) ∧ W.cell? ⟨w.heap.size, 2, none⟩ = some (.int .i64 plan) ∧ W.cell? ⟨w.heap.size, 3, none⟩ = some (.bool down) ∧ W.cell? ⟨w.heap.size, 4, none⟩ = some (.int .i64 most) ∧ W.cell? ⟨w.heap.size, 5, none⟩ = some (.int .i64 (n : Int)) ∧ W.cell? ⟨w.heap.size, 6, none⟩ = some (.int .i64 (sz : Int)) ∧ W.cell? ⟨w.heap.size, 7, none⟩ = some (.int .i64 (wt : Int))) := fun W hW => ⟨hW, cells8 ((hW.block _ hl0).trans k0)⟩
  have hSd : ∀ W, (Below W0.heap.size W0 W ∧ W.cell? ⟨w.heap.size, 0, none⟩ = some (.int .i64 room) ∧ W.cell? ⟨w.heap.size, 1, none⟩ = some (.slice a ps.length cap) ∧ W.cell? ⟨w.heap.size, 2, none⟩ = some (.int .i64 plan) ∧ W.cell? ⟨w.heap.size, 3, none⟩ = some (.bool down) ∧ W.cell? ⟨w.heap.size, 4, none⟩ = some (.int .i64 most) ∧ W.cell? ⟨w.heap.size, 5, none⟩ = some (.int .i64 (n : Int)) ∧ W.cell? ⟨w.heap.size, 6, none⟩ = some (.int .i64 (sz : Int)) ∧ W.cell? ⟨w.heap.size, 7, none⟩ = some (.int .i64 (wt : Int))) → Below w.heap.size w W := fun W h => hBW.trans (h.1.mono (by omega))
  have hAl : ∀ W C, Below W0.heap.size W0 W → Below W0.heap.size W0 (W.alloc C) := fun W C h => h.alloc h.size C
  have hTr : ∀ W W', (Below W0.heap.size W0 W ∧ W.cell? ⟨w.heap.size, 0, none⟩ = some (.int .i64 room) ∧ W.cell? ⟨w.heap.size, 1, none⟩ = some (.slice a ps.length cap) ∧ W.cell? ⟨w.heap.size, 2, none⟩ = some (.int .i64 plan) ∧ W.cell? ⟨w.heap.size, 3, none⟩ = some (.bool down) ∧ W.cell? ⟨w.heap.size, 4, none⟩ = some (.int .i64 most) ∧ W.cell? ⟨w.heap.size, 5, none⟩ = some (.int .i64 (n : Int)) ∧ W.cell? ⟨w.heap.size, 6, none⟩ = some (.int .i64 (sz : Int)) ∧ W.cell? ⟨w.heap.size, 7, none⟩ = some (.int .i64 (wt : Int))) → Below W.heap.size W W' → Below W0.heap.size W0 W' := fun W W' h k => h.1.trans (k.mono h.1.size)
  have hX2 : ∀ W' g c d e f, Below W0.heap.size W0 W' → W0.heap.size ≤ g → Below W0.heap.size W0 ((((W'.setCell ⟨g, 0, none⟩ c).setCell ⟨g, 1, none⟩ d).setCell ⟨g, 2, none⟩ e).setCell ⟨g, 3, none⟩ f) := fun W' g c d e f h hg => (((h.setCell hg c).setCell hg d).setCell hg e).setCell hg f
  have hSf0 := hSS W0.drew (Below.refl _ _).drew
  have hZz : ∀ W : World, (W.alloc (.cells #[.int .i64 0, .slice none 0 0, .int .i64 0, .bool false] 35)).heap[W.heap.size]? = some (.cells #[.int .i64 0, .slice none 0 0, .int .i64 0, .bool false] 35) := fun W => heap_alloc_new W _
  have hZl : ∀ W : World, W.heap.size < (W.alloc (.cells #[.int .i64 0, .slice none 0 0, .int .i64 0, .bool false] 35)).heap.size := fun W => by simp
  have HZ0 : Hid (W0.heap.size = w.heap.size + 1 + 1) := hz0
  clear hB0 hB2 hz0
  go_region_held3 (fun W => Below W0.heap.size W0 W ∧ W.cell? ⟨w.heap.size, 0, none⟩ = some (.int .i64 room) ∧ W.cell? ⟨w.heap.size, 1, none⟩ = some (.slice a ps.length cap) ∧ W.cell? ⟨w.heap.size, 2, none⟩ = some (.int .i64 plan) ∧ W.cell? ⟨w.heap.size, 3, none⟩ = some (.bool down) ∧ W.cell? ⟨w.heap.size, 4, none⟩ = some (.int .i64 most) ∧ W.cell? ⟨w.heap.size, 5, none⟩ = some (.int .i64 (n : Int)) ∧ W.cell? ⟨w.heap.size, 6, none⟩ = some (.int .i64 (sz : Int)) ∧ W.cell? ⟨w.heap.size, 7, none⟩ = some (.int .i64 (wt : Int))) (first | assumption | exact hSS _ (hAl _ _ (And.left (by assumption))) | exact hSS _ (hAl _ _ (Below.refl _ _)) | exact hSS _ (hX2 _ _ _ _ _ _ hS2.1 (by first | exact Nat.le_refl _ | exact hS1.1.size)) | exact hSS _ (hAl _ _ (Below.refl _ _)).drew)
    (first
      | (go_at_call 69; refine (hnm _ _ _ _ _ _ _ _).mono ?_; rintro e W1 ⟨rfl, hb1⟩; have hS1 := hSS W1 (hTr _ _ (by assumption) hb1); (first | (have hk1 := (hb1.block W0.heap.size (hZl W0)).trans (hZz W0); have hlt1 := Nat.lt_of_lt_of_le (hZl W0) hb1.size) | skip))
      | (go_at_call 66; refine (hdo _ (hSd _ (by assumption))).mono ?_; rintro e W2 ⟨v2, rfl, hr2, hb2⟩; obtain ⟨sv2, ps2, rfl, hs2, hps2⟩ := hr2; obtain ⟨a2, cap2, rfl, hn2', hc2, _, _⟩ := hs2.open; unfold dk5; have hS2 := hSS W2 (hTr _ _ (by assumption) hb2); (first | (have hk2 := (hb2.block W0.heap.size hlt1).trans hk1; clear hk1) | have hk2 := (hb2.block W1.heap.size (hZl W1)).trans (hZz W1) | skip); (try (obtain ⟨u0, u1, u2, u3⟩ := cells4 hk2; have hf0 := frozen_of_row _ _ 0 _ _ hk2; have hf1 := frozen_of_row _ _ 1 _ _ hk2; have hf2 := frozen_of_row _ _ 2 _ _ hk2; have hf3 := frozen_of_row _ _ 3 _ _ hk2))))
  all_goals
    have HLT : Hid (w.heap.size < W0.heap.size) := hl0
    first
      | (have hk3 := (set4 (a := .int .i64 R1.1.room) (b := .slice a2 ps2.length cap2) (c := .int .i64 R1.1.plan) (d := .bool R1.1.down) hk2).1
         have hf3' := (set4 (a := .int .i64 R1.1.room) (b := .slice a2 ps2.length cap2) (c := .int .i64 R1.1.plan) (d := .bool R1.1.down) hk2).2
         have hgle : W0.heap.size ≤ W0.heap.size := Nat.le_refl _
         have hB3 := hX2 W2 W0.heap.size (.int .i64 R1.1.room) (.slice a2 ps2.length cap2) (.int .i64 R1.1.plan) (.bool R1.1.down) hS2.1 hgle
         have hgw : w.heap.size + 1 < W0.heap.size := by have := HZ0.out; omega
         generalize ((((W2.setCell ⟨W0.heap.size, 0, none⟩ (.int .i64 R1.1.room)).setCell ⟨W0.heap.size, 1, none⟩ (.slice a2 ps2.length cap2)).setCell ⟨W0.heap.size, 2, none⟩ (.int .i64 R1.1.plan)).setCell ⟨W0.heap.size, 3, none⟩ (.bool R1.1.down)) = Wf at *
         have hs3 : SlF (fun k => M k ∨ (w.heap.size ≤ k ∧ k < w.heap.size + 2) ∨ k = W0.heap.size) Wf (.slice a2 ps2.length cap2) ps2 := hs2.fr hf3' (by intro k hk; have := hS1.1.size; have := HLT.out; exact .inr ⟨by omega, by first | assumption | omega⟩) (by intro k hk h; have := hS1.1.size; have := HZ0.out; rcases h with h | h | h; exact .inl h; exact .inr ⟨by omega, by omega⟩; exact .inr ⟨by omega, by omega⟩)
         have hgWf : W0.heap.size < Wf.heap.size := (Array.getElem?_eq_some_iff.1 hk3).1
         have kk0 := (hB3.block w.heap.size hl0).trans k0
         have kk1 := (hB3.block (w.heap.size + 1) (by have := HZ0.out; omega)).trans k1
         have hBw3 : Below w.heap.size w Wf := hBW.trans (hB3.mono (by have := HLT.out; omega))
         generalize hgg : W0.heap.size = g at hk3 hgw hgWf hs3 ⊢)
      | (have hk3 := (set4 (a := .int .i64 R1.1.room) (b := .slice a2 ps2.length cap2) (c := .int .i64 R1.1.plan) (d := .bool R1.1.down) hk2).1
         have hf3' := (set4 (a := .int .i64 R1.1.room) (b := .slice a2 ps2.length cap2) (c := .int .i64 R1.1.plan) (d := .bool R1.1.down) hk2).2
         have hgle : W0.heap.size ≤ W1.heap.size := hS1.1.size
         have hB3 := hX2 W2 W1.heap.size (.int .i64 R1.1.room) (.slice a2 ps2.length cap2) (.int .i64 R1.1.plan) (.bool R1.1.down) hS2.1 hgle
         have hgw : w.heap.size + 1 < W1.heap.size := by have := HZ0.out; omega
         generalize ((((W2.setCell ⟨W1.heap.size, 0, none⟩ (.int .i64 R1.1.room)).setCell ⟨W1.heap.size, 1, none⟩ (.slice a2 ps2.length cap2)).setCell ⟨W1.heap.size, 2, none⟩ (.int .i64 R1.1.plan)).setCell ⟨W1.heap.size, 3, none⟩ (.bool R1.1.down)) = Wf at *
         have hs3 : SlF (fun k => M k ∨ (w.heap.size ≤ k ∧ k < w.heap.size + 2) ∨ k = W1.heap.size) Wf (.slice a2 ps2.length cap2) ps2 := hs2.fr hf3' (by intro k hk; have := HLT.out; have := hZl W1; exact .inr ⟨by omega, by omega⟩) (by intro k hk h; have := hS1.1.size; have := HZ0.out; have := hZl W1; rcases h with h | h | h; exact .inl h; exact .inr ⟨by omega, by omega⟩; exact .inr ⟨by omega, by omega⟩)
         have hgWf : W1.heap.size < Wf.heap.size := (Array.getElem?_eq_some_iff.1 hk3).1
         have kk0 := (hB3.block w.heap.size hl0).trans k0
         have kk1 := (hB3.block (w.heap.size + 1) (by have := HZ0.out; omega)).trans k1
         have hBw3 : Below w.heap.size w Wf := hBW.trans (hB3.mono (by have := HLT.out; omega))
         generalize hgg : W1.heap.size = g at hk3 hgw hgWf hs3 ⊢)
      | (have hk3 := heap_alloc_new W2 (.cells #[.int .i64 R1.1.room, .slice a2 ps2.length cap2, .int .i64 R1.1.plan, .bool R1.1.down] 35)
         have hgle : W0.heap.size ≤ W2.heap.size := hS2.1.size
         have hB3 := hAl W2 (.cells #[.int .i64 R1.1.room, .slice a2 ps2.length cap2, .int .i64 R1.1.plan, .bool R1.1.down] 35) hS2.1
         have hs3 : SlF (fun k => M k ∨ (w.heap.size ≤ k ∧ k < w.heap.size + 2) ∨ k = W2.heap.size) (W2.alloc (.cells #[.int .i64 R1.1.room, .slice a2 ps2.length cap2, .int .i64 R1.1.plan, .bool R1.1.down] 35)) (.slice a2 ps2.length cap2) ps2 := hs2.fr (F := fun _ => False) (Fr.of_below ((Below.refl _ _).alloc (Nat.le_refl _) _)) (fun _ h => h.elim) (by intro k hk h; have := hS1.1.size; have := HZ0.out; rcases h with h | h | h; exact .inl h; exact .inr ⟨by omega, by omega⟩; exact absurd h (by omega))
         have hgw : w.heap.size + 1 < W2.heap.size := by have := HZ0.out; omega
         generalize (W2.alloc (.cells #[.int .i64 R1.1.room, .slice a2 ps2.length cap2, .int .i64 R1.1.plan, .bool R1.1.down] 35)) = Wf at *
         have hgWf : W2.heap.size < Wf.heap.size := (Array.getElem?_eq_some_iff.1 hk3).1
         have kk0 := (hB3.block w.heap.size hl0).trans k0
         have kk1 := (hB3.block (w.heap.size + 1) (by have := HZ0.out; omega)).trans k1
         have hBw3 : Below w.heap.size w Wf := hBW.trans (hB3.mono (by have := HLT.out; omega))
         generalize hgg : W2.heap.size = g at hk3 hgw hgWf hs3 ⊢)
    clear hgg hSS hSd hAl hTr hX2 hSf0 hZz hZl hS1 hS2 hgle hB3 hs2
    rename_i hh
    clear hh
    have HDO := hdo
    clear hdo hnm hb1 hb2 k0 k1 i1 HDO
    obtain ⟨u0, u1, u2, u3⟩ := cells4 hk3
    by_cases hcz : R1.2 = 0
    · have hcb : (R1.2 != 0) = false := by rw [hcz]; rfl
      have HRB : Hid (RR = if (doA R1.1 .create (nameB (n + 1))).2 ≠ 0 then (⟨(doA R1.1 .create (nameB (n + 1))).1, most, n, sz, wt⟩, (doA R1.1 .create (nameB (n + 1))).2) else (⟨(doA R1.1 .create (nameB (n + 1))).1, most, n + 1, 0, 0⟩, 0)) := by show _ = _; rw [HRA.out, if_neg (by rw [hcz]; decide)]
      have hnl : (nameB (n + 1)).length ≤ 1048576 := by rw [nameB_length]; omega
      have hnm2 := fun W (c0 c1 c2 c3 c4 c6 c7 : Value) => name8_any c0 c1 c2 c3 c4 c6 c7 (n + 1) W (by omega) (by omega)
      rw [show ((n + 1 : Nat) : Int) = (n : Int) + 1 by omega] at hnm2
      have hd5 := fun (M' : Nat → Prop) W (hW : SlF M' W (.slice a2 ps2.length cap2) ps2) (hMW : ∀ k, M' k → k < W.heap.size) => do5_any (M := M') R1.1 _ W ⟨_, ps2, rfl, hW, hps2⟩ hMW .create (nameB (n + 1)) (.string ⟨#[]⟩) (.slice none 0 0) trivial (fun m h => by cases h) hq0 hq1 hnl hqf hqu
      obtain ⟨R2, hR2⟩ : ∃ R, doA R1.1 .create (nameB (n + 1)) = R := ⟨_, rfl⟩
      rw [hR2] at HRB hd5
      clear hR2 HRA hnl
      generalize nameB (n + 1) = nb2 at *
      unfold dk5 op5 stV at hd5
      have HNM : Hid (∀ (W : World) (c0 c1 c2 c3 c4 c6 c7 : Value), Calls Tryz.prog 69 #[.agg #[c0, c1, c2, c3, c4, .int .i64 ((n : Int) + 1), c6, c7]] W fun e w' => e = .returned (.string ⟨nb2.toArray⟩) ∧ Below W.heap.size W w') := hnm2
      clear hnm2
      have hnn : (n : Int) + 1 ≤ 9223372036854775807 := by omega
      go_wp2_with ((with_reducible refine at_sto ?_); refine wpList_store_in rfl (ty := 35) (x := .tmp 21) (y := .tmp 20) rfl w.heap.size 0 37 (.agg #[.int .i64 R1.1.room, .slice a2 ps2.length cap2, .int .i64 R1.1.plan, .bool R1.1.down]) [.int .i64 room, .slice a ps.length cap, .int .i64 plan, .bool down, .int .i64 most, .int .i64 (n : Int), .int .i64 (sz : Int), .int .i64 (wt : Int)] rfl rfl kk0 (by simp [Value.cells]) size35 (by intro u hu; simp [Value.cells] at hu; rcases hu with rfl | rfl | rfl | rfl <;> rfl) ?_; intro W4 hV1 hV2 hV3; replace hV1 : W4.heap[w.heap.size]? = some (.cells #[.int .i64 R1.1.room, .slice a2 ps2.length cap2, .int .i64 R1.1.plan, .bool R1.1.down, .int .i64 most, .int .i64 (n : Int), .int .i64 (sz : Int), .int .i64 (wt : Int)] 37 (0, 0)) := hV1; obtain ⟨y0, y1, y2, y3, y4, y5, y6, y7⟩ := cells8 hV1; have kk1' := (hV2.block (w.heap.size + 1) (by omega) (by intro e; omega)).trans kk1)
      have hA := boxF W4 (.cells #[.int .i64 R1.1.room, .slice a2 ps2.length cap2, .int .i64 R1.1.plan, .bool R1.1.down, .int .i64 most, .int .i64 ((n : Int) + 1), .int .i64 (sz : Int), .int .i64 (wt : Int)] 37)
      generalize W4.alloc (.cells #[.int .i64 R1.1.room, .slice a2 ps2.length cap2, .int .i64 R1.1.plan, .bool R1.1.down, .int .i64 most, .int .i64 ((n : Int) + 1), .int .i64 (sz : Int), .int .i64 (wt : Int)] 37) = W5 at *
      obtain ⟨hA1, hA2, hA3⟩ := hA
      have l0 := (hA1.block w.heap.size (by omega)).trans hV1
      have l1 := (hA1.block (w.heap.size + 1) (by omega)).trans kk1'
      have lg := (hA1.block g (by omega)).trans ((hV2.block g hgWf (by intro e; omega)).trans hk3)
      have hFr5 : Fr (fun k => k = w.heap.size) Wf W5 := hV2.trans (Fr.of_below hA1 (F := fun _ => False)) (fun _ _ h => h.elim)
      have hB5 : Below w.heap.size w W5 := hBw3.trans (hFr5.below (by omega) (by intro q h1 h2; omega))
      rw [hV3] at hA2 hA3
      obtain ⟨b6, hb6⟩ : ∃ b6, Wf.heap.size = b6 := ⟨_, rfl⟩
      rw [hb6] at hA2 hA3
      have hb6w : w.heap.size + 1 < b6 := by omega
      have hb6f : Wf.heap.size ≤ b6 := by omega
      have hgb : g < b6 := by omega
      rw [hb6]
      have hSS : ∀ W, Below W5.heap.size W5 W → (W.cell? ⟨w.heap.size, 0, none⟩ = some (.int .i64 R1.1.room) ∧ W.cell? ⟨w.heap.size, 1, none⟩ = some (.slice a2 ps2.length cap2) ∧ W.cell? ⟨w.heap.size, 2, none⟩ = some (.int .i64 R1.1.plan) ∧ W.cell? ⟨w.heap.size, 3, none⟩ = some (.bool R1.1.down) ∧ W.cell? ⟨b6, 0, none⟩ = some (.int .i64 R1.1.room) ∧ W.cell? ⟨b6, 1, none⟩ = some (.slice a2 ps2.length cap2) ∧ W.cell? ⟨b6, 2, none⟩ = some (.int .i64 R1.1.plan) ∧ W.cell? ⟨b6, 3, none⟩ = some (.bool R1.1.down) ∧ W.cell? ⟨b6, 4, none⟩ = some (.int .i64 most) ∧ W.cell? ⟨b6, 5, none⟩ = some (.int .i64 ((n : Int) + 1)) ∧ W.cell? ⟨b6, 6, none⟩ = some (.int .i64 (sz : Int)) ∧ W.cell? ⟨b6, 7, none⟩ = some (.int .i64 (wt : Int))) := fun W hW => by
        obtain ⟨a0, a1, a2, a3, _⟩ := cells8 ((hW.block w.heap.size (by omega)).trans l0)
        exact ⟨a0, a1, a2, a3, cells8 ((hW.block b6 (by omega)).trans hA3)⟩
      have hSX : ∀ W c d e f, Below W5.heap.size W5 W → (fun W => W.cell? ⟨w.heap.size, 0, none⟩ = some (.int .i64 R1.1.room) ∧ W.cell? ⟨w.heap.size, 1, none⟩ = some (.slice a2 ps2.length cap2) ∧ W.cell? ⟨w.heap.size, 2, none⟩ = some (.int .i64 R1.1.plan) ∧ W.cell? ⟨w.heap.size, 3, none⟩ = some (.bool R1.1.down) ∧ W.cell? ⟨b6, 0, none⟩ = some (.int .i64 R1.1.room) ∧ W.cell? ⟨b6, 1, none⟩ = some (.slice a2 ps2.length cap2) ∧ W.cell? ⟨b6, 2, none⟩ = some (.int .i64 R1.1.plan) ∧ W.cell? ⟨b6, 3, none⟩ = some (.bool R1.1.down) ∧ W.cell? ⟨b6, 4, none⟩ = some (.int .i64 most) ∧ W.cell? ⟨b6, 5, none⟩ = some (.int .i64 ((n : Int) + 1)) ∧ W.cell? ⟨b6, 6, none⟩ = some (.int .i64 (sz : Int)) ∧ W.cell? ⟨b6, 7, none⟩ = some (.int .i64 (wt : Int))) ((((W.setCell ⟨g, 0, none⟩ c).setCell ⟨g, 1, none⟩ d).setCell ⟨g, 2, none⟩ e).setCell ⟨g, 3, none⟩ f) := fun W c d e f hW => by
        have hs := (set4 (a := c) (b := d) (c := e) (d := f) ((hW.block g (by omega)).trans lg)).2
        have hz := hW.size
        obtain ⟨a0, a1, a2, a3, _⟩ := cells8 ((hs.block w.heap.size (by omega) (by intro e; omega)).trans ((hW.block w.heap.size (by omega)).trans l0))
        exact ⟨a0, a1, a2, a3, cells8 ((hs.block b6 (by omega) (by intro e; omega)).trans ((hW.block b6 (by omega)).trans hA3))⟩
      have hdo2 : ∀ W, Below W5.heap.size W5 W → Calls Tryz.prog 66 #[.agg #[.int .i64 R1.1.room, .slice a2 ps2.length cap2, .int .i64 R1.1.plan, .bool R1.1.down], .agg #[.int .i64 1, .string ⟨nb2.toArray⟩, .string ⟨#[]⟩, .slice none 0 0]] W fun e w' => ∃ v', e = .returned (.tuple #[v', .int .i64 R2.2]) ∧ Ref5 (fun k => M k ∨ (w.heap.size ≤ k ∧ k < w.heap.size + 2) ∨ k = g ∨ (Wf.heap.size ≤ k ∧ k < W.heap.size)) w' R2.1 v' ∧ Below W.heap.size W w' := fun W hW =>
        hd5 (fun k => M k ∨ (w.heap.size ≤ k ∧ k < w.heap.size + 2) ∨ k = g ∨ (Wf.heap.size ≤ k ∧ k < W.heap.size)) W ((hs3.fr (M' := (fun k => M k ∨ (w.heap.size ≤ k ∧ k < w.heap.size + 2) ∨ k = g ∨ (Wf.heap.size ≤ k ∧ k < W5.heap.size))) hFr5 (fun k hk => by rw [hk]; exact .inr (.inl ⟨by omega, by omega⟩)) (fun k hk h => by
          rcases h with h | h | h | h
          · exact .inl h
          · exact .inr (.inl h)
          · exact .inr (.inr h)
          · omega)).fr (F := fun _ => False) (Fr.of_below hW) (fun _ h => h.elim) (fun k hk h => by
          rcases h with h | h | h | h
          · exact .inl h
          · exact .inr (.inl h)
          · exact .inr (.inr (.inl h))
          · exact .inr (.inr (.inr ⟨h.1, hk⟩)))) (fun k hk => by
          have h1 := hW.size
          have h2 := hB5.size
          rcases hk with h | h | h | h
          · have := hM k h; omega
          · omega
          · omega
          · exact h.2)
      have hSf := hSS W5.drew (Below.refl _ _).drew
      have HZA : Hid (W5.heap.size = b6 + 1) := hA2
      clear hd5 hV3 hb6 y0 y1 y2 y3 y4 y5 y6 y7 u0 u1 u2 u3 kk0 kk1 kk1' hk3 hFr5 hA2 hV1 hA1
      go_region_held3 (fun W => W.cell? ⟨w.heap.size, 0, none⟩ = some (.int .i64 R1.1.room) ∧ W.cell? ⟨w.heap.size, 1, none⟩ = some (.slice a2 ps2.length cap2) ∧ W.cell? ⟨w.heap.size, 2, none⟩ = some (.int .i64 R1.1.plan) ∧ W.cell? ⟨w.heap.size, 3, none⟩ = some (.bool R1.1.down) ∧ W.cell? ⟨b6, 0, none⟩ = some (.int .i64 R1.1.room) ∧ W.cell? ⟨b6, 1, none⟩ = some (.slice a2 ps2.length cap2) ∧ W.cell? ⟨b6, 2, none⟩ = some (.int .i64 R1.1.plan) ∧ W.cell? ⟨b6, 3, none⟩ = some (.bool R1.1.down) ∧ W.cell? ⟨b6, 4, none⟩ = some (.int .i64 most) ∧ W.cell? ⟨b6, 5, none⟩ = some (.int .i64 ((n : Int) + 1)) ∧ W.cell? ⟨b6, 6, none⟩ = some (.int .i64 (sz : Int)) ∧ W.cell? ⟨b6, 7, none⟩ = some (.int .i64 (wt : Int))) (first | assumption | exact hSX _ _ _ _ _ hB7)
        (first
          | (go_at_call 69; refine (HNM.out _ _ _ _ _ _ _ _).mono ?_; rintro e W6 ⟨rfl, hb1⟩; have hBn : Below W5.heap.size W5 W6 := (Below.refl _ _).drew.trans hb1; have hSn := hSS W6 hBn)
          | (go_at_call 66; refine (hdo2 _ hBn).mono ?_; rintro e W7 ⟨v7, rfl, hr7, hb7⟩; obtain ⟨sv7, ps7, rfl, hs7, hps7⟩ := hr7; obtain ⟨a7, cap7, rfl, hn7, hc7, _, _⟩ := hs7.open; unfold dk5; have hB7 : Below W5.heap.size W5 W7 := hBn.trans (hb7.mono hBn.size); have hS7 := hSS W7 hB7; have hk7 := (hB7.block g (by have := HZA.out; omega)).trans lg; obtain ⟨r0, r1, r2, r3⟩ := cells4 hk7; have hf0 := frozen_of_row _ _ 0 _ _ hk7; have hf1 := frozen_of_row _ _ 1 _ _ hk7; have hf2 := frozen_of_row _ _ 2 _ _ hk7; have hf3 := frozen_of_row _ _ 3 _ _ hk7))
      have HSX := set4 (a := .int .i64 R2.1.room) (b := .slice a7 ps7.length cap7) (c := .int .i64 R2.1.plan) (d := .bool R2.1.down) hk7
      generalize ((((W7.setCell ⟨g, 0, none⟩ (.int .i64 R2.1.room)).setCell ⟨g, 1, none⟩ (.slice a7 ps7.length cap7)).setCell ⟨g, 2, none⟩ (.int .i64 R2.1.plan)).setCell ⟨g, 3, none⟩ (.bool R2.1.down)) = Wx at *
      obtain ⟨hk8, hf8⟩ := HSX
      have z5 := HZA.out
      have z7 := hB7.size
      have z6 := hBn.size
      have m0 := (hf8.block w.heap.size (by omega) (by intro e; omega)).trans ((hB7.block w.heap.size (by omega)).trans l0)
      have m1 := (hf8.block (w.heap.size + 1) (by omega) (by intro e; omega)).trans ((hB7.block (w.heap.size + 1) (by omega)).trans l1)
      have m6 := (hf8.block b6 (by omega) (by intro e; omega)).trans ((hB7.block b6 (by omega)).trans hA3)
      have hs9 := hs7.fr (M' := fun k => M k ∨ (w.heap.size ≤ k ∧ k < w.heap.size + 2) ∨ k = b6) hf8 (fun k hk => .inr (.inr (.inl hk))) (fun k hk h => by
        rcases h with h | h | h
        · exact .inl h
        · exact .inr (.inl h)
        · exact .inr (.inr (.inr ⟨by omega, by omega⟩)))
      have hBx : Below w.heap.size w Wx := (hB5.trans (hB7.mono (by omega))).trans (hf8.below (by omega) (by intro q h1 h2; omega))
      have hzx := hf8.size
      have hlx1 : w.heap.size + 1 < Wx.heap.size := by omega
      have hlx6 : b6 < Wx.heap.size := by omega
      have hlxg : g < Wx.heap.size := by omega
      clear hSS hSX hdo2 hSf hSn hS7 r0 r1 r2 r3 hf0 hf1 hf2 hf3 hk7 l0 l1 lg hA3 hb1 hb7 hBn hB7 z5 z6 z7 hf8 HNM hs7
      rename_i hh2
      clear hh2
      obtain ⟨t0, t1, t2, t3⟩ := cells4 hk8
      by_cases hcz2 : R2.2 = 0
      · have hcb2 : (R2.2 != 0) = false := by rw [hcz2]; rfl
        have HE : Hid (RR = (⟨R2.1, most, n + 1, 0, 0⟩, 0)) := by show _ = _; rw [HRB.out, if_neg (by rw [hcz2]; decide)]
        go_wp2_with (first
          | ((with_reducible refine at_sto ?_); refine wpList_store_in rfl (ty := 35) (x := .tmp 41) (y := .tmp 40) rfl w.heap.size 0 37 (.agg #[.int .i64 R2.1.room, .slice a7 ps7.length cap7, .int .i64 R2.1.plan, .bool R2.1.down]) [.int .i64 R1.1.room, .slice a2 ps2.length cap2, .int .i64 R1.1.plan, .bool R1.1.down, .int .i64 most, .int .i64 (n : Int), .int .i64 (sz : Int), .int .i64 (wt : Int)] rfl rfl m0 (by simp [Value.cells]) size35 (by intro u hu; simp [Value.cells] at hu; rcases hu with rfl | rfl | rfl | rfl <;> rfl) ?_; intro Wa hP1 hP2 hP3; replace hP1 : Wa.heap[w.heap.size]? = some (.cells #[.int .i64 R2.1.room, .slice a7 ps7.length cap7, .int .i64 R2.1.plan, .bool R2.1.down, .int .i64 most, .int .i64 (n : Int), .int .i64 (sz : Int), .int .i64 (wt : Int)] 37 (0, 0)) := hP1; obtain ⟨p0, p1, p2, p3, p4, p5, p6, p7⟩ := cells8 hP1; have n1 := (hP2.block (w.heap.size + 1) (by omega) (by intro e; omega)).trans m1; have n6 := (hP2.block b6 (by omega) (by intro e; omega)).trans m6; have ng := (hP2.block g (by omega) (by intro e; omega)).trans hk8; obtain ⟨t0, t1, t2, t3⟩ := cells4 ng)
          | ((with_reducible refine at_sto ?_); refine wpList_store_in rfl (ty := 35) (x := .tmp 47) (y := .tmp 46) rfl b6 0 37 (.agg #[.int .i64 R2.1.room, .slice a7 ps7.length cap7, .int .i64 R2.1.plan, .bool R2.1.down]) [.int .i64 R1.1.room, .slice a2 ps2.length cap2, .int .i64 R1.1.plan, .bool R1.1.down, .int .i64 most, .int .i64 ((n : Int) + 1), .int .i64 (sz : Int), .int .i64 (wt : Int)] rfl rfl n6 (by simp [Value.cells]) size35 (by intro u hu; simp [Value.cells] at hu; rcases hu with rfl | rfl | rfl | rfl <;> rfl) ?_; intro Wb hQ1 hQ2 hQ3; replace hQ1 : Wb.heap[b6]? = some (.cells #[.int .i64 R2.1.room, .slice a7 ps7.length cap7, .int .i64 R2.1.plan, .bool R2.1.down, .int .i64 most, .int .i64 ((n : Int) + 1), .int .i64 (sz : Int), .int .i64 (wt : Int)] 37 (0, 0)) := hQ1; have n1' := (hQ2.block (w.heap.size + 1) (by omega) (by intro e; omega)).trans n1)
          | ((with_reducible refine at_sto ?_); refine wpList_store_in rfl (ty := 3) (x := .tmp 48)  rfl b6 6 37 (.int .i64 0) [.int .i64 R2.1.room, .slice a7 ps7.length cap7, .int .i64 R2.1.plan, .bool R2.1.down, .int .i64 most, .int .i64 ((n : Int) + 1), .int .i64 (sz : Int), .int .i64 (wt : Int)] rfl rfl hQ1 (by simp [Value.cells]) size134' (by intro u hu; simp [Value.cells] at hu; subst hu; rfl) ?_; intro Wc hR1 hR2 hR3; replace hR1 : Wc.heap[b6]? = some (.cells #[.int .i64 R2.1.room, .slice a7 ps7.length cap7, .int .i64 R2.1.plan, .bool R2.1.down, .int .i64 most, .int .i64 ((n : Int) + 1), .int .i64 0, .int .i64 (wt : Int)] 37 (0, 0)) := hR1; have n1c := (hR2.block (w.heap.size + 1) (by omega) (by intro e; omega)).trans n1')
          | ((with_reducible refine at_sto ?_); refine wpList_store_in rfl (ty := 3) (x := .tmp 49)  rfl b6 7 37 (.int .i64 0) [.int .i64 R2.1.room, .slice a7 ps7.length cap7, .int .i64 R2.1.plan, .bool R2.1.down, .int .i64 most, .int .i64 ((n : Int) + 1), .int .i64 0, .int .i64 (wt : Int)] rfl rfl hR1 (by simp [Value.cells]) size134' (by intro u hu; simp [Value.cells] at hu; subst hu; rfl) ?_; intro Wd hT1 hT2 hT3; replace hT1 : Wd.heap[b6]? = some (.cells #[.int .i64 R2.1.room, .slice a7 ps7.length cap7, .int .i64 R2.1.plan, .bool R2.1.down, .int .i64 most, .int .i64 ((n : Int) + 1), .int .i64 0, .int .i64 0] 37 (0, 0)) := hT1; have n1d := (hT2.block (w.heap.size + 1) (by omega) (by intro e; omega)).trans n1c; obtain ⟨q0, q1, q2, q3, q4, q5, q6, q7⟩ := cells8 hT1)
          | ((with_reducible refine at_sto ?_); refine wpList_store_in rfl (ty := 37) (x := .tmp 2) (y := .tmp 50) rfl (w.heap.size + 1) 0 37 (.agg #[.int .i64 R2.1.room, .slice a7 ps7.length cap7, .int .i64 R2.1.plan, .bool R2.1.down, .int .i64 most, .int .i64 ((n : Int) + 1), .int .i64 0, .int .i64 0]) [.int .i64 0, .slice none 0 0, .int .i64 0, .bool false, .int .i64 0, .int .i64 0, .int .i64 0, .int .i64 0] rfl rfl n1d (by simp [Value.cells]) size37 (by intro u hu; simp [Value.cells] at hu; rcases hu with rfl | rfl | rfl | rfl | rfl | rfl | rfl | rfl <;> rfl) ?_; intro W9 hE1 hE2 hE3; replace hE1 : W9.heap[(w.heap.size + 1)]? = some (.cells #[.int .i64 R2.1.room, .slice a7 ps7.length cap7, .int .i64 R2.1.plan, .bool R2.1.down, .int .i64 most, .int .i64 ((n : Int) + 1), .int .i64 0, .int .i64 0] 37 (0, 0)) := hE1))
        refine bodyPost_ret (results_cell_row_tmp (fr := (0, 0)) Tryz.results68 _ _ (w.heap.size + 1) 37 _ _ rfl hE1 Tryz.underlying37 rfl (by kernel_rfl)) rfl ?_
        have hF : Fr (fun k => k = w.heap.size ∨ k = w.heap.size + 1 ∨ k = b6) Wx W9 := ((((hP2.mono (fun k _ h => .inl h)).trans hQ2 (fun k _ h => .inr (.inr h))).trans hR2 (fun k _ h => .inr (.inr h))).trans hT2 (fun k _ h => .inr (.inr h))).trans hE2 (fun k _ h => .inr (.inl h))
        have hBf : Below w.heap.size w W9 := hBx.trans (hF.below (by omega) (by intro q h1 h2; omega))
        rw [HE.out]
        refine ⟨_, rfl, ⟨.slice a7 ps7.length cap7, ps7, rfl, hs9.fr hF (by intro k hk; rcases hk with rfl | rfl | rfl; exact .inr (.inl ⟨by omega, by omega⟩); exact .inr (.inl ⟨by omega, by omega⟩); exact .inr (.inr rfl)) (fun _ _ h => .inl h), hps7⟩, hBf⟩
      · have hcb2 : (R2.2 != 0) = true := by simpa using hcz2
        have HE : Hid (RR = (⟨R2.1, most, n, sz, wt⟩, R2.2)) := by show _ = _; rw [HRB.out, if_pos hcz2]
        go_wp2_with (first
          | ((with_reducible refine at_sto ?_); refine wpList_store_in rfl (ty := 35) (x := .tmp 41) (y := .tmp 40) rfl w.heap.size 0 37 (.agg #[.int .i64 R2.1.room, .slice a7 ps7.length cap7, .int .i64 R2.1.plan, .bool R2.1.down]) [.int .i64 R1.1.room, .slice a2 ps2.length cap2, .int .i64 R1.1.plan, .bool R1.1.down, .int .i64 most, .int .i64 (n : Int), .int .i64 (sz : Int), .int .i64 (wt : Int)] rfl rfl m0 (by simp [Value.cells]) size35 (by intro u hu; simp [Value.cells] at hu; rcases hu with rfl | rfl | rfl | rfl <;> rfl) ?_; intro Wa hP1 hP2 hP3; replace hP1 : Wa.heap[w.heap.size]? = some (.cells #[.int .i64 R2.1.room, .slice a7 ps7.length cap7, .int .i64 R2.1.plan, .bool R2.1.down, .int .i64 most, .int .i64 (n : Int), .int .i64 (sz : Int), .int .i64 (wt : Int)] 37 (0, 0)) := hP1; obtain ⟨p0, p1, p2, p3, p4, p5, p6, p7⟩ := cells8 hP1; have n1 := (hP2.block (w.heap.size + 1) (by omega) (by intro e; omega)).trans m1; have n6 := (hP2.block b6 (by omega) (by intro e; omega)).trans m6; have ng := (hP2.block g (by omega) (by intro e; omega)).trans hk8; obtain ⟨t0, t1, t2, t3⟩ := cells4 ng)
          | ((with_reducible refine at_sto ?_); refine wpList_store_in rfl (ty := 37) (x := .tmp 2) (y := .tmp 44) rfl (w.heap.size + 1) 0 37 (.agg #[.int .i64 R2.1.room, .slice a7 ps7.length cap7, .int .i64 R2.1.plan, .bool R2.1.down, .int .i64 most, .int .i64 (n : Int), .int .i64 (sz : Int), .int .i64 (wt : Int)]) [.int .i64 0, .slice none 0 0, .int .i64 0, .bool false, .int .i64 0, .int .i64 0, .int .i64 0, .int .i64 0] rfl rfl n1 (by simp [Value.cells]) size37 (by intro u hu; simp [Value.cells] at hu; rcases hu with rfl | rfl | rfl | rfl | rfl | rfl | rfl | rfl <;> rfl) ?_; intro W9 hE1 hE2 hE3; replace hE1 : W9.heap[(w.heap.size + 1)]? = some (.cells #[.int .i64 R2.1.room, .slice a7 ps7.length cap7, .int .i64 R2.1.plan, .bool R2.1.down, .int .i64 most, .int .i64 (n : Int), .int .i64 (sz : Int), .int .i64 (wt : Int)] 37 (0, 0)) := hE1))
        refine bodyPost_ret (results_cell_row_tmp (fr := (0, 0)) Tryz.results68 _ _ (w.heap.size + 1) 37 _ _ rfl hE1 Tryz.underlying37 rfl (by kernel_rfl)) rfl ?_
        have hF : Fr (fun k => k = w.heap.size ∨ k = w.heap.size + 1 ∨ k = b6) Wx W9 := (hP2.mono (fun k _ h => .inl h)).trans hE2 (fun k _ h => .inr (.inl h))
        have hBf : Below w.heap.size w W9 := hBx.trans (hF.below (by omega) (by intro q h1 h2; omega))
        rw [HE.out]
        refine ⟨_, rfl, ⟨.slice a7 ps7.length cap7, ps7, rfl, hs9.fr hF (by intro k hk; rcases hk with rfl | rfl | rfl; exact .inr (.inl ⟨by omega, by omega⟩); exact .inr (.inl ⟨by omega, by omega⟩); exact .inr (.inr rfl)) (fun _ _ h => .inl h), hps7⟩, hBf⟩
    · have hcb : (R1.2 != 0) = true := by simpa using hcz
      have HE : Hid (RR = (⟨R1.1, most, n, sz, wt⟩, R1.2)) := by show _ = _; rw [HRA.out, if_pos hcz]
      go_wp2_with (first
        | ((with_reducible refine at_sto ?_); refine wpList_store_in rfl (ty := 35) (x := .tmp 21) (y := .tmp 20) rfl w.heap.size 0 37 (.agg #[.int .i64 R1.1.room, .slice a2 ps2.length cap2, .int .i64 R1.1.plan, .bool R1.1.down]) [.int .i64 room, .slice a ps.length cap, .int .i64 plan, .bool down, .int .i64 most, .int .i64 (n : Int), .int .i64 (sz : Int), .int .i64 (wt : Int)] rfl rfl kk0 (by simp [Value.cells]) size35 (by intro u hu; simp [Value.cells] at hu; rcases hu with rfl | rfl | rfl | rfl <;> rfl) ?_; intro W4 hV1 hV2 hV3; replace hV1 : W4.heap[w.heap.size]? = some (.cells #[.int .i64 R1.1.room, .slice a2 ps2.length cap2, .int .i64 R1.1.plan, .bool R1.1.down, .int .i64 most, .int .i64 (n : Int), .int .i64 (sz : Int), .int .i64 (wt : Int)] 37 (0, 0)) := hV1; obtain ⟨y0, y1, y2, y3, y4, y5, y6, y7⟩ := cells8 hV1; have kk1' := (hV2.block (w.heap.size + 1) (by omega) (by intro e; omega)).trans kk1)
        | ((with_reducible refine at_sto ?_); refine wpList_store_in rfl (ty := 37) (x := .tmp 2) (y := .tmp 24) rfl (w.heap.size + 1) 0 37 (.agg #[.int .i64 R1.1.room, .slice a2 ps2.length cap2, .int .i64 R1.1.plan, .bool R1.1.down, .int .i64 most, .int .i64 (n : Int), .int .i64 (sz : Int), .int .i64 (wt : Int)]) [.int .i64 0, .slice none 0 0, .int .i64 0, .bool false, .int .i64 0, .int .i64 0, .int .i64 0, .int .i64 0] rfl rfl kk1' (by simp [Value.cells]) size37 (by intro u hu; simp [Value.cells] at hu; rcases hu with rfl | rfl | rfl | rfl | rfl | rfl | rfl | rfl <;> rfl) ?_; intro W9 hE1 hE2 hE3; replace hE1 : W9.heap[w.heap.size + 1]? = some (.cells #[.int .i64 R1.1.room, .slice a2 ps2.length cap2, .int .i64 R1.1.plan, .bool R1.1.down, .int .i64 most, .int .i64 (n : Int), .int .i64 (sz : Int), .int .i64 (wt : Int)] 37 (0, 0)) := hE1))
      refine bodyPost_ret (results_cell_row_tmp (fr := (0, 0)) Tryz.results68 _ _ (w.heap.size + 1) 37 _ _ rfl hE1 Tryz.underlying37 rfl (by kernel_rfl)) rfl ?_
      have hF : Fr (fun k => k = w.heap.size ∨ k = w.heap.size + 1) Wf W9 := (hV2.mono (fun k _ h => .inl h)).trans hE2 (fun k _ h => .inr h)
      have hBf : Below w.heap.size w W9 := hBw3.trans (hF.below (by omega) (by intro q h1 h2; omega))
      rw [HE.out]
      refine ⟨_, rfl, ⟨.slice a2 ps2.length cap2, ps2, rfl, hs3.fr hF (by intro k hk; rcases hk with rfl | rfl; exact .inr (.inl ⟨by omega, by omega⟩); exact .inr (.inl ⟨by omega, by omega⟩)) (fun _ _ h => .inl h), hps2⟩, hBf⟩

end Go.Proofs.YtepceidajmedeaaGreatDoor

namespace Go.Proofs.YtepceidajmedeaaGreatDoor
open Go.RowKit CW

theorem Ref8.any {M : Nat → Prop} {w : World} {L : LogA} {v : Value} (h : Ref8 M w L v) : Ref8 (fun _ => False) w L v := by
  obtain ⟨sv, ps, h1, h2, h3⟩ := h
  exact ⟨sv, ps, h1, h2.any, h3⟩

/-- What Put gives, shut. -/
def IsPut (L : LogA) (x : Bytes) (R : LogA × Int) : Prop := putA L x = R

set_option maxHeartbeats 6000000 in
set_option maxRecDepth 100000 in
theorem put8_any {M : Nat → Prop} (L : LogA) (v : Value) (w : World) (h : Ref8 M w L v) (hM : ∀ k, M k → k < w.heap.size) (vx : Value) (x : Bytes) (hx : SlB (fun _ => False) w vx x) (hxl : x.length ≤ 1073741816) (ok1 : OkL L)
    (okr : 0 < L.size → L.n + 1 < 100 ∧ 0 ≤ (doA L.D .sync (nameB L.n)).1.plan ∧ (doA L.D .sync (nameB L.n)).1.plan ≤ 4611686018427387904 ∧ (doA L.D .sync (nameB L.n)).1.files.length < 1048576 ∧ usedF (doA L.D .sync (nameB L.n)).1.files ≤ 1099511627776 ∧ OkL (rotA L).1) :
    Calls Tryz.prog 19 #[v, vx] w fun e w' => ∃ v', e = .returned (.tuple #[v', .int .i64 (putA L x).2]) ∧ Ref8 M w' (putA L x).1 v' ∧ Below w.heap.size w w' := by
  obtain ⟨sv, ps, rfl, hs, hps⟩ := h
  obtain ⟨a, cap, rfl, hn', hc, hnone, _⟩ := hs.open
  obtain ⟨RR, hRR⟩ : ∃ R, putA L x = R := ⟨_, rfl⟩
  have HIP : IsPut L x RR := hRR
  rw [hRR]
  clear hRR
  have hrt := fun (M' : Nat → Prop) (W : World) (v : Value) (h : Ref8 M' W L v) (hM : ∀ k, M' k → k < W.heap.size) (hr : 0 < L.size) => rot8_any L v W h hM ok1.n1 (okr hr).1 ok1.p0 ok1.p1 ok1.files ok1.used (okr hr).2.1 (okr hr).2.2.1 (okr hr).2.2.2.1 (okr hr).2.2.2.2.1
  have hok2 := fun (hr : 0 < L.size) => (okr hr).2.2.2.2.2
  clear okr
  obtain ⟨⟨room, files, plan, down⟩, most, n, sz, wt⟩ := L
  simp only at hps
  unfold lg8
  obtain ⟨ax, capx, rfl, hx1, hx2⟩ := hx.shape
  have hB0 := (boxF w (.cells #[.int .i64 room, .slice a ps.length cap, .int .i64 plan, .bool down, .int .i64 most, .int .i64 (n : Int), .int .i64 (sz : Int), .int .i64 (wt : Int)] 37))
  have hB2 := (boxF (w.alloc (.cells #[.int .i64 room, .slice a ps.length cap, .int .i64 plan, .bool down, .int .i64 most, .int .i64 (n : Int), .int .i64 (sz : Int), .int .i64 (wt : Int)] 37)) (.cells #[.int .i64 0, .slice none 0 0, .int .i64 0, .bool false, .int .i64 0, .int .i64 0, .int .i64 0, .int .i64 0] 37))
  go_enter Tryz.func19, Tryz.ntmps19
  go_wp2_with fail
  have k0 := (hB2.1.block w.heap.size (by rw [hB0.2.1]; omega)).trans hB0.2.2
  have k1 := hB2.2.2
  rw [hB0.2.1] at k1
  have hz0 := hB2.2.1
  rw [hB0.2.1] at hz0
  have hBW := hB0.1.trans (hB2.1.mono (by rw [hB0.2.1]; omega))
  generalize ((w.alloc (.cells #[.int .i64 room, .slice a ps.length cap, .int .i64 plan, .bool down, .int .i64 most, .int .i64 (n : Int), .int .i64 (sz : Int), .int .i64 (wt : Int)] 37)).alloc (.cells #[.int .i64 0, .slice none 0 0, .int .i64 0, .bool false, .int .i64 0, .int .i64 0, .int .i64 0, .int .i64 0] 37)) = W00 at *
  have hmk := make6_any _ x W00 (hx.below hBW) (by omega)
  refine hmk.mono ?_
  rintro e W0 ⟨v', okb, rfl, hB, hcase⟩
  have kq0 := (hB.block w.heap.size (by omega)).trans k0
  have kq1 := (hB.block (w.heap.size + 1) (by omega)).trans k1
  have hBQ : Below w.heap.size w W0 := hBW.trans (hB.mono (by omega))
  have hzB := hB.size
  have hlQ : w.heap.size + 1 < W0.heap.size := by omega
  obtain ⟨c0, c1, c2, c3, c4, c5, c6, c7⟩ := cells8 kq0
  by_cases h0 : x.length = 0
  · have HE : Hid (RR = (⟨⟨room, files, plan, down⟩, most, n, sz, wt⟩, 2)) := by show _ = _; rw [← (HIP : putA _ _ = _)]; exact putA_empty _ _ h0
    obtain ⟨av, cv, hvv⟩ : ∃ av n' cv, v' = .slice av n' cv := by
      rcases hcase with ⟨_, rfl, _⟩ | ⟨_, _, hb⟩
      · exact ⟨_, _, _, rfl⟩
      · obtain ⟨q1, q2, q3, _⟩ := hb.shape; exact ⟨_, _, _, q3⟩
    have hxb : (((x.length : Nat) : Int) == 0) = true := by rw [h0]; rfl
    clear hcase hmk hB0 hB2 k0 k1 hB hzB
    go_wp2_with ((with_reducible refine at_sto ?_); refine wpList_store_in rfl (ty := 37) (x := .tmp 4) (y := .tmp 20) rfl (w.heap.size + 1) 0 37 (.agg #[.int .i64 room, .slice a ps.length cap, .int .i64 plan, .bool down, .int .i64 most, .int .i64 (n : Int), .int .i64 (sz : Int), .int .i64 (wt : Int)]) [.int .i64 0, .slice none 0 0, .int .i64 0, .bool false, .int .i64 0, .int .i64 0, .int .i64 0, .int .i64 0] rfl rfl kq1 (by simp [Value.cells]) size37 (by intro u hu; simp [Value.cells] at hu; rcases hu with rfl | rfl | rfl | rfl | rfl | rfl | rfl | rfl <;> rfl) ?_; intro W9 hE1 hE2 hE3; replace hE1 : W9.heap[(w.heap.size + 1)]? = some (.cells #[.int .i64 room, .slice a ps.length cap, .int .i64 plan, .bool down, .int .i64 most, .int .i64 (n : Int), .int .i64 (sz : Int), .int .i64 (wt : Int)] 37 (0, 0)) := hE1)
    refine bodyPost_ret (results_cell_row_tmp (fr := (0, 0)) Tryz.results19 _ _ (w.heap.size + 1) 37 _ _ rfl hE1 Tryz.underlying37 rfl (by kernel_rfl)) rfl ?_
    have hBf : Below w.heap.size w W9 := hBQ.trans (hE2.below (by omega) (by intro q h1 h2; omega))
    rw [HE.out]
    exact ⟨_, rfl, ⟨.slice a ps.length cap, ps, rfl, hs.below hBf, hps⟩, hBf⟩
  · have hxb : (((x.length : Nat) : Int) == 0) = false := beq_eq_false_iff_ne.2 (by omega)
    rcases hcase with ⟨hm, rfl, rfl⟩ | ⟨hm, rfl, hbs⟩
    · have HE : Hid (RR = (⟨⟨room, files, plan, down⟩, most, n, sz, wt⟩, 4)) := by show _ = _; rw [← (HIP : putA _ _ = _)]; exact putA_long _ _ h0 hm
      clear hmk hB0 hB2 k0 k1 hB hzB
      go_wp2_with ((with_reducible refine at_sto ?_); refine wpList_store_in rfl (ty := 37) (x := .tmp 4) (y := .tmp 30) rfl (w.heap.size + 1) 0 37 (.agg #[.int .i64 room, .slice a ps.length cap, .int .i64 plan, .bool down, .int .i64 most, .int .i64 (n : Int), .int .i64 (sz : Int), .int .i64 (wt : Int)]) [.int .i64 0, .slice none 0 0, .int .i64 0, .bool false, .int .i64 0, .int .i64 0, .int .i64 0, .int .i64 0] rfl rfl kq1 (by simp [Value.cells]) size37 (by intro u hu; simp [Value.cells] at hu; rcases hu with rfl | rfl | rfl | rfl | rfl | rfl | rfl | rfl <;> rfl) ?_; intro W9 hE1 hE2 hE3; replace hE1 : W9.heap[(w.heap.size + 1)]? = some (.cells #[.int .i64 room, .slice a ps.length cap, .int .i64 plan, .bool down, .int .i64 most, .int .i64 (n : Int), .int .i64 (sz : Int), .int .i64 (wt : Int)] 37 (0, 0)) := hE1)
      refine bodyPost_ret (results_cell_row_tmp (fr := (0, 0)) Tryz.results19 _ _ (w.heap.size + 1) 37 _ _ rfl hE1 Tryz.underlying37 rfl (by kernel_rfl)) rfl ?_
      have hBf : Below w.heap.size w W9 := hBQ.trans (hE2.below (by omega) (by intro q h1 h2; omega))
      rw [HE.out]
      exact ⟨_, rfl, ⟨.slice a ps.length cap, ps, rfl, hs.below hBf, hps⟩, hBf⟩
    · have hpB := putA_big ⟨⟨room, files, plan, down⟩, most, n, sz, wt⟩ x h0 hm
      have hpA := putA_app ⟨⟨room, files, plan, down⟩, most, n, sz, wt⟩ x h0 hm
      have hpR := putA_rot ⟨⟨room, files, plan, down⟩, most, n, sz, wt⟩ x h0 hm
      rw [(HIP : putA _ _ = _)] at hpB hpA hpR
      have hfl : (frameB x).length = x.length + 8 := frameB_length x
      obtain ⟨b, hbb⟩ : ∃ b, frameB x = b := ⟨_, rfl⟩
      rw [hbb] at hpB hpA hpR hbs hfl
      have hbl : b.length ≤ 1073741824 := by omega
      clear hbb HIP hfl
      obtain ⟨ab, capb, rfl, hab1, hab2⟩ := hbs.shape
      by_cases hbig : most < (b.length : Int)
      · have HE : Hid (RR = (⟨⟨room, files, plan, down⟩, most, n, sz, wt⟩, 4)) := hpB hbig
        clear hmk hB0 hB2 k0 k1 hB hzB hpB hpA hpR
        go_wp2_with ((with_reducible refine at_sto ?_); refine wpList_store_in rfl (ty := 37) (x := .tmp 4) (y := .tmp 30) rfl (w.heap.size + 1) 0 37 (.agg #[.int .i64 room, .slice a ps.length cap, .int .i64 plan, .bool down, .int .i64 most, .int .i64 (n : Int), .int .i64 (sz : Int), .int .i64 (wt : Int)]) [.int .i64 0, .slice none 0 0, .int .i64 0, .bool false, .int .i64 0, .int .i64 0, .int .i64 0, .int .i64 0] rfl rfl kq1 (by simp [Value.cells]) size37 (by intro u hu; simp [Value.cells] at hu; rcases hu with rfl | rfl | rfl | rfl | rfl | rfl | rfl | rfl <;> rfl) ?_; intro W9 hE1 hE2 hE3; replace hE1 : W9.heap[(w.heap.size + 1)]? = some (.cells #[.int .i64 room, .slice a ps.length cap, .int .i64 plan, .bool down, .int .i64 most, .int .i64 (n : Int), .int .i64 (sz : Int), .int .i64 (wt : Int)] 37 (0, 0)) := hE1)
        refine bodyPost_ret (results_cell_row_tmp (fr := (0, 0)) Tryz.results19 _ _ (w.heap.size + 1) 37 _ _ rfl hE1 Tryz.underlying37 rfl (by kernel_rfl)) rfl ?_
        have hBf : Below w.heap.size w W9 := hBQ.trans (hE2.below (by omega) (by intro q h1 h2; omega))
        rw [HE.out]
        exact ⟨_, rfl, ⟨.slice a ps.length cap, ps, rfl, hs.below hBf, hps⟩, hBf⟩
      · replace hpA := hpA hbig
        replace hpR := hpR hbig
        clear hpB
        have hbQ : SlB (fun k => M k ∨ (w.heap.size ≤ k ∧ k < w.heap.size + 2)) W0 (.slice ab b.length capb) b := hbs.mono (fun k _ hk => by rcases hk with hk | hk; have := hM k hk; omega; omega)
        have hszw : (sz : Int) + (b.length : Int) ≤ 9223372036854775807 := by have := ok1.size; simp only at this; omega
        by_cases hrot : 0 < sz ∧ most < (sz : Int) + (b.length : Int)
        · skip
          have hszp : 0 < sz := hrot.1
          have hMR : ∀ k, (fun k => M k ∨ (w.heap.size ≤ k ∧ k < w.heap.size + 2)) k → k < W0.heap.size := fun k hk => by
            rcases hk with hk | hk
            · have := hM k hk; omega
            · omega
          have hsQ0 : SlF (fun k => M k ∨ (w.heap.size ≤ k ∧ k < w.heap.size + 2)) W0 (.slice a ps.length cap) ps := hs.fr (F := fun _ => False) (Fr.of_below hBQ) (fun _ h => h.elim) (fun k hk h => h.elim id (fun h => by omega))
          have hr := hrt (fun k => M k ∨ (w.heap.size ≤ k ∧ k < w.heap.size + 2)) W0 _ ⟨_, ps, rfl, hsQ0, hps⟩ hMR hszp
          have okQ0 := hok2 hszp
          have hpR1 := hpR hrot
          obtain ⟨RT, hRT⟩ : ∃ R, rotA ⟨⟨room, files, plan, down⟩, most, n, sz, wt⟩ = R := ⟨_, rfl⟩
          rw [hRT] at hr okQ0 hpR1
          clear hRT
          have ir1 : (0 : Int) < (sz : Int) := by omega
          have ir2 : most < (sz : Int) + (b.length : Int) := hrot.2
          unfold lg8 at hr
          clear hmk hB0 hB2 k0 k1 hB hzB hpA hpR hrt hok2 ok1 hbs hrot hsQ0 hMR
          by_cases hrc : RT.2 = 0
          · have hcb0 : (RT.2 != 0) = false := by rw [hrc]; rfl
            have HRES0 : Hid (RR = appA RT.1 b) := by show _ = _; rw [hpR1, if_neg (fun h => h hrc)]
            clear hpR1 hrc
            go_wp2_with (first
              | (go_at_call 68; refine hr.mono ?_; rintro e w1 ⟨v1, rfl, hr1, hb1⟩; obtain ⟨sv1, ps1, rfl, hs1, hps1⟩ := hr1; obtain ⟨a1, cap1, rfl, hn1, hc1, _, _⟩ := hs1.open; unfold lg8; have hb1z := hb1.size; have kr0 := (hb1.block w.heap.size (by omega)).trans kq0; have kr1 := (hb1.block (w.heap.size + 1) (by omega)).trans kq1)
              | ((with_reducible refine at_sto ?_); refine wpList_store_in rfl (ty := 37) (x := .tmp 8) (y := .tmp 47) rfl w1.heap.size 0 37 (.agg #[.int .i64 RT.1.D.room, .slice a1 ps1.length cap1, .int .i64 RT.1.D.plan, .bool RT.1.D.down, .int .i64 RT.1.most, .int .i64 (RT.1.n : Int), .int .i64 (RT.1.size : Int), .int .i64 (RT.1.waiting : Int)]) [.int .i64 0, .slice none 0 0, .int .i64 0, .bool false, .int .i64 0, .int .i64 0, .int .i64 0, .int .i64 0] rfl rfl (heap_alloc_new _ _) (by simp [Value.cells]) size37 (by intro u hu; simp [Value.cells] at hu; rcases hu with rfl | rfl | rfl | rfl | rfl | rfl | rfl | rfl <;> rfl) ?_; intro W3 hV1 hV2 hV3; replace hV1 : W3.heap[w1.heap.size]? = some (.cells #[.int .i64 RT.1.D.room, .slice a1 ps1.length cap1, .int .i64 RT.1.D.plan, .bool RT.1.D.down, .int .i64 RT.1.most, .int .i64 (RT.1.n : Int), .int .i64 (RT.1.size : Int), .int .i64 (RT.1.waiting : Int)] 37 (0, 0)) := hV1; obtain ⟨y0, y1, y2, y3, y4, y5, y6, y7⟩ := cells8 hV1; have hB13 : Below w1.heap.size w1 W3 := (boxF w1 _).1.trans (hV2.below (by have := (boxF w1 (.cells #[.int .i64 0, .slice none 0 0, .int .i64 0, .bool false, .int .i64 0, .int .i64 0, .int .i64 0, .int .i64 0] 37)).2.1; omega) (by intro q h1 h2; omega)); have ks0 := (hB13.block w.heap.size (by omega)).trans kr0; have ks1 := (hB13.block (w.heap.size + 1) (by omega)).trans kr1)
              | ((with_reducible refine at_sto ?_); refine wpList_store_in rfl (ty := 37) (x := .tmp 2) (y := .tmp 53) rfl w.heap.size 0 37 (.agg #[.int .i64 RT.1.D.room, .slice a1 ps1.length cap1, .int .i64 RT.1.D.plan, .bool RT.1.D.down, .int .i64 RT.1.most, .int .i64 (RT.1.n : Int), .int .i64 (RT.1.size : Int), .int .i64 (RT.1.waiting : Int)]) [.int .i64 room, .slice a ps.length cap, .int .i64 plan, .bool down, .int .i64 most, .int .i64 (n : Int), .int .i64 (sz : Int), .int .i64 (wt : Int)] rfl rfl ks0 (by simp [Value.cells]) size37 (by intro u hu; simp [Value.cells] at hu; rcases hu with rfl | rfl | rfl | rfl | rfl | rfl | rfl | rfl <;> rfl) ?_; intro W4 hU1 hU2 hU3; replace hU1 : W4.heap[w.heap.size]? = some (.cells #[.int .i64 RT.1.D.room, .slice a1 ps1.length cap1, .int .i64 RT.1.D.plan, .bool RT.1.D.down, .int .i64 RT.1.most, .int .i64 (RT.1.n : Int), .int .i64 (RT.1.size : Int), .int .i64 (RT.1.waiting : Int)] 37 (0, 0)) := hU1; have kt1 := (hU2.block (w.heap.size + 1) (by have := hB13.size; omega) (by intro e; omega)).trans ks1))
            have hBQ4 : Below w.heap.size w W4 := ((hBQ.trans (hb1.mono (by omega))).trans (hB13.mono (by omega))).trans (hU2.below (by have := hB13.size; omega) (by intro q h1 h2; omega))
            have hlQ4 : w.heap.size + 1 < W4.heap.size := by have := hB13.size; have := hU2.size; omega
            have hsQ4 : SlF (fun k => M k ∨ (w.heap.size ≤ k ∧ k < w.heap.size + 2)) W4 (.slice a1 ps1.length cap1) ps1 := (hs1.below hB13).fr hU2 (by intro k hk; exact .inr (by omega)) (fun _ _ h => h)
            have hbQ4 : SlB (fun k => M k ∨ (w.heap.size ≤ k ∧ k < w.heap.size + 2)) W4 (.slice ab b.length capb) b := ((hbQ.below hb1).below hB13).fr hU2 (by intro k hk; exact .inr (by omega)) (fun _ _ h => h)
            have okQ : OkL ⟨⟨RT.1.D.room, RT.1.D.files, RT.1.D.plan, RT.1.D.down⟩, RT.1.most, RT.1.n, RT.1.size, RT.1.waiting⟩ := okQ0
            have HRES : Hid (RR = appA ⟨⟨RT.1.D.room, RT.1.D.files, RT.1.D.plan, RT.1.D.down⟩, RT.1.most, RT.1.n, RT.1.size, RT.1.waiting⟩ b) := HRES0
            clear hs hn' hc hnone kq0 kq1 hBQ hlQ hbQ c0 c1 c2 c3 c4 c5 c6 c7 hszp hr okQ0 ir1 ir2 hcb0 HRES0 hb1 hs1 hn1 hc1 hb1z kr0 kr1 hV1 hV2 hV3 y0 y1 y2 y3 y4 y5 y6 y7 hB13 ks0 ks1 hU2 hU3 hps hszw
            generalize RT.1.D.room = room at *
            generalize RT.1.D.files = files at *
            generalize RT.1.D.plan = plan at *
            generalize RT.1.D.down = down at *
            generalize RT.1.most = most at *
            generalize RT.1.n = n at *
            generalize RT.1.size = sz at *
            generalize RT.1.waiting = wt at *
            obtain ⟨W0, hW0e⟩ : ∃ x, x = W4 := ⟨_, rfl⟩
            subst hW0e
            obtain ⟨ps, hpe⟩ : ∃ x, x = ps1 := ⟨_, rfl⟩
            subst hpe
            obtain ⟨a, hae⟩ : ∃ x, x = a1 := ⟨_, rfl⟩
            subst hae
            obtain ⟨cap, hce⟩ : ∃ x, x = cap1 := ⟨_, rfl⟩
            subst hce
            have kq0 := hU1
            have kq1 := kt1
            have hBQ := hBQ4
            have hlQ := hlQ4
            have hsQ := hsQ4
            have hbQ := hbQ4
            have hpsQ := hps1
            clear hU1 kt1 hBQ4 hlQ4 hsQ4 hbQ4 hps1
            have hdo : ∀ W, Below W0.heap.size W0 W → Calls Tryz.prog 66 #[.agg (dk5 room (.slice a ps.length cap) plan down), op5 2 (stV (nameB n)) (.string ⟨#[]⟩) (.slice ab b.length capb)] W fun e w' => ∃ v', e = .returned (.tuple #[v', .int .i64 (doA ⟨room, files, plan, down⟩ (.append b) (nameB n)).2]) ∧ Ref5 (fun k => M k ∨ (w.heap.size ≤ k ∧ k < w.heap.size + 2) ∨ (W0.heap.size ≤ k ∧ k < W.heap.size)) w' (doA ⟨room, files, plan, down⟩ (.append b) (nameB n)).1 v' ∧ Below W.heap.size W w' := fun W hW =>
              do5_any (M := (fun k => M k ∨ (w.heap.size ≤ k ∧ k < w.heap.size + 2) ∨ (W0.heap.size ≤ k ∧ k < W.heap.size))) ⟨room, files, plan, down⟩ _ W ⟨_, ps, rfl, hsQ.fr (F := fun _ => False) (Fr.of_below hW) (fun _ h => h.elim) (fun k hk h => by rcases h with h | h | h; exact .inl h; exact .inr h; exact absurd hk (by omega)), hpsQ⟩ (fun k hk => by have := hW.size; rcases hk with hk | hk | hk; have := hM k hk; omega; omega; exact hk.2) (.append b) (nameB n) _ _ ⟨hbQ.fr (F := fun _ => False) (Fr.of_below hW) (fun _ h => h.elim) (fun k hk h => by rcases h with h | h | h; exact .inl h; exact .inr h; exact absurd hk (by omega)), hbl⟩ (fun m h => by cases h) okQ.p0 okQ.p1 (by rw [nameB_length]; omega) okQ.files okQ.used
            have hnm := fun W (c0 c1 c2 c3 c4 c6 c7 : Value) => name8_any c0 c1 c2 c3 c4 c6 c7 n W okQ.n1 (by have h2 : n < 100 := okQ.n2; omega)
            have hszb : (sz : Int) + (b.length : Int) ≤ 9223372036854775807 := by have := okQ.size; simp only at this; omega
            have hwtb : (wt : Int) + 1 ≤ 9223372036854775807 := by have := okQ.wait; simp only at this; omega
            have HAP : Hid (RR = if (doA ⟨room, files, plan, down⟩ (.append b) (nameB n)).2 ≠ 0 then (⟨(doA ⟨room, files, plan, down⟩ (.append b) (nameB n)).1, most, n, sz, wt⟩, (doA ⟨room, files, plan, down⟩ (.append b) (nameB n)).2) else (⟨(doA ⟨room, files, plan, down⟩ (.append b) (nameB n)).1, most, n, sz + b.length, wt + 1⟩, 0)) := HRES.out
            obtain ⟨R1, hR1⟩ : ∃ R, doA ⟨room, files, plan, down⟩ (.append b) (nameB n) = R := ⟨_, rfl⟩
            rw [hR1] at hdo HAP
            clear hR1 HRES okQ
            unfold dk5 op5 stV at hdo
            generalize nameB n = nb at *
            have hl0 : w.heap.size < W0.heap.size := by omega
            have hSS : ∀ W, Below W0.heap.size W0 W → (Below W0.heap.size W0 W ∧ W.cell? ⟨w.heap.size, 0, none⟩ = some (.int .i64 room) ∧ W.cell? ⟨w.heap.size, 1, none⟩ = some (.slice a ps.length cap) ∧ W.cell? ⟨w.heap.size, 2, none⟩ = some (.int .i64 plan) ∧ W.cell? ⟨w.heap.size, 3, none⟩ = some (.bool down) ∧ W.cell? ⟨w.heap.size, 4, none⟩ = some (.int .i64 most) ∧ W.cell? ⟨w.heap.size, 5, none⟩ = some (.int .i64 (n : Int)) ∧ W.cell? ⟨w.heap.size, 6, none⟩ = some (.int .i64 (sz : Int)) ∧ W.cell? ⟨w.heap.size, 7, none⟩ = some (.int .i64 (wt : Int))) := fun W hW => ⟨hW, cells8 ((hW.block _ hl0).trans kq0)⟩
            have hAl : ∀ W C, Below W0.heap.size W0 W → Below W0.heap.size W0 (W.alloc C) := fun W C h => h.alloc h.size C
            have hSd : ∀ W, (Below W0.heap.size W0 W ∧ W.cell? ⟨w.heap.size, 0, none⟩ = some (.int .i64 room) ∧ W.cell? ⟨w.heap.size, 1, none⟩ = some (.slice a ps.length cap) ∧ W.cell? ⟨w.heap.size, 2, none⟩ = some (.int .i64 plan) ∧ W.cell? ⟨w.heap.size, 3, none⟩ = some (.bool down) ∧ W.cell? ⟨w.heap.size, 4, none⟩ = some (.int .i64 most) ∧ W.cell? ⟨w.heap.size, 5, none⟩ = some (.int .i64 (n : Int)) ∧ W.cell? ⟨w.heap.size, 6, none⟩ = some (.int .i64 (sz : Int)) ∧ W.cell? ⟨w.heap.size, 7, none⟩ = some (.int .i64 (wt : Int))) → Below W0.heap.size W0 W := fun W h => h.1
            have hTr : ∀ W W', (Below W0.heap.size W0 W ∧ W.cell? ⟨w.heap.size, 0, none⟩ = some (.int .i64 room) ∧ W.cell? ⟨w.heap.size, 1, none⟩ = some (.slice a ps.length cap) ∧ W.cell? ⟨w.heap.size, 2, none⟩ = some (.int .i64 plan) ∧ W.cell? ⟨w.heap.size, 3, none⟩ = some (.bool down) ∧ W.cell? ⟨w.heap.size, 4, none⟩ = some (.int .i64 most) ∧ W.cell? ⟨w.heap.size, 5, none⟩ = some (.int .i64 (n : Int)) ∧ W.cell? ⟨w.heap.size, 6, none⟩ = some (.int .i64 (sz : Int)) ∧ W.cell? ⟨w.heap.size, 7, none⟩ = some (.int .i64 (wt : Int))) → Below W.heap.size W W' → Below W0.heap.size W0 W' := fun W W' h k => h.1.trans (k.mono h.1.size)
            have hX2 : ∀ W' g c d e f, Below W0.heap.size W0 W' → W0.heap.size ≤ g → Below W0.heap.size W0 ((((W'.setCell ⟨g, 0, none⟩ c).setCell ⟨g, 1, none⟩ d).setCell ⟨g, 2, none⟩ e).setCell ⟨g, 3, none⟩ f) := fun W' g c d e f h hg => (((h.setCell hg c).setCell hg d).setCell hg e).setCell hg f
            have hSf0 := hSS W0.drew (Below.refl _ _).drew
            have hZz : ∀ W : World, (W.alloc (.cells #[.int .i64 0, .slice none 0 0, .int .i64 0, .bool false] 35)).heap[W.heap.size]? = some (.cells #[.int .i64 0, .slice none 0 0, .int .i64 0, .bool false] 35) := fun W => heap_alloc_new W _
            have hZl : ∀ W : World, W.heap.size < (W.alloc (.cells #[.int .i64 0, .slice none 0 0, .int .i64 0, .bool false] 35)).heap.size := fun W => by simp
            have HZ0 : Hid (w.heap.size + 1 < W0.heap.size) := hlQ
            clear hlQ hbQ hsQ hl0
            go_region_held3 (fun W => Below W0.heap.size W0 W ∧ W.cell? ⟨w.heap.size, 0, none⟩ = some (.int .i64 room) ∧ W.cell? ⟨w.heap.size, 1, none⟩ = some (.slice a ps.length cap) ∧ W.cell? ⟨w.heap.size, 2, none⟩ = some (.int .i64 plan) ∧ W.cell? ⟨w.heap.size, 3, none⟩ = some (.bool down) ∧ W.cell? ⟨w.heap.size, 4, none⟩ = some (.int .i64 most) ∧ W.cell? ⟨w.heap.size, 5, none⟩ = some (.int .i64 (n : Int)) ∧ W.cell? ⟨w.heap.size, 6, none⟩ = some (.int .i64 (sz : Int)) ∧ W.cell? ⟨w.heap.size, 7, none⟩ = some (.int .i64 (wt : Int))) (first | assumption | exact hSS _ (hAl _ _ (hSd _ (by assumption))) | exact hSS _ (hAl _ _ (Below.refl _ _)) | exact hSS _ (hX2 _ _ _ _ _ _ hS2.1 (by first | exact Nat.le_refl _ | exact hS1.1.size)) | exact hSS _ (hAl _ _ (Below.refl _ _)).drew)
              (first
                | (go_at_call 69; refine (hnm _ _ _ _ _ _ _ _).mono ?_; rintro e W1 ⟨rfl, hb1⟩; have hS1 := hSS W1 (hTr _ _ (by assumption) hb1); (first | (have hk1 := (hb1.block W0.heap.size (hZl W0)).trans (hZz W0); have hlt1 := Nat.lt_of_lt_of_le (hZl W0) hb1.size) | skip))
                | (go_at_call 66; refine (hdo _ (hSd _ (by assumption))).mono ?_; rintro e W2 ⟨v2, rfl, hr2, hb2⟩; obtain ⟨sv2, ps2, rfl, hs2, hps2⟩ := hr2; obtain ⟨a2, cap2, rfl, hn2', hc2, _, _⟩ := hs2.open; unfold dk5; have hS2 := hSS W2 (hTr _ _ (by assumption) hb2); (first | (have hk2 := (hb2.block W0.heap.size hlt1).trans hk1; clear hk1) | have hk2 := (hb2.block W1.heap.size (hZl W1)).trans (hZz W1) | skip); (try (obtain ⟨u0, u1, u2, u3⟩ := cells4 hk2; have hf0 := frozen_of_row _ _ 0 _ _ hk2; have hf1 := frozen_of_row _ _ 1 _ _ hk2; have hf2 := frozen_of_row _ _ 2 _ _ hk2; have hf3 := frozen_of_row _ _ 3 _ _ hk2))))
            all_goals
              first
                | (have hk3 := (set4 (a := .int .i64 R1.1.room) (b := .slice a2 ps2.length cap2) (c := .int .i64 R1.1.plan) (d := .bool R1.1.down) hk2).1
                   have hf3' := (set4 (a := .int .i64 R1.1.room) (b := .slice a2 ps2.length cap2) (c := .int .i64 R1.1.plan) (d := .bool R1.1.down) hk2).2
                   have hgle : W0.heap.size ≤ W0.heap.size := by first | exact Nat.le_refl _ | exact hS1.1.size
                   have hB3 := hX2 W2 W0.heap.size (.int .i64 R1.1.room) (.slice a2 ps2.length cap2) (.int .i64 R1.1.plan) (.bool R1.1.down) hS2.1 hgle
                   have hgw : w.heap.size + 1 < W0.heap.size := by have := HZ0.out; omega
                   generalize ((((W2.setCell ⟨W0.heap.size, 0, none⟩ (.int .i64 R1.1.room)).setCell ⟨W0.heap.size, 1, none⟩ (.slice a2 ps2.length cap2)).setCell ⟨W0.heap.size, 2, none⟩ (.int .i64 R1.1.plan)).setCell ⟨W0.heap.size, 3, none⟩ (.bool R1.1.down)) = Wf at *
                   have hs3 : SlF (fun k => M k ∨ (w.heap.size ≤ k ∧ k < w.heap.size + 2) ∨ k = W0.heap.size) Wf (.slice a2 ps2.length cap2) ps2 := hs2.fr hf3' (by intro k hk; have := hS1.1.size; have := HZ0.out; exact .inr (.inr ⟨by omega, by first | assumption | omega⟩)) (by intro k hk h; have := hS1.1.size; have := HZ0.out; rcases h with h | h | h; exact .inl h; exact .inr (.inl h); exact .inr (.inr ⟨by omega, by omega⟩))
                   have hgWf : W0.heap.size < Wf.heap.size := (Array.getElem?_eq_some_iff.1 hk3).1
                   have kk0 := (hB3.block w.heap.size (by have := HZ0.out; omega)).trans kq0
                   have kk1 := (hB3.block (w.heap.size + 1) (by have := HZ0.out; omega)).trans kq1
                   have hBw3 : Below w.heap.size w Wf := hBQ.trans (hB3.mono (by have := HZ0.out; omega))
                   generalize hgg : W0.heap.size = g at hk3 hgw hgWf hs3 ⊢)
                | (have hk3 := (set4 (a := .int .i64 R1.1.room) (b := .slice a2 ps2.length cap2) (c := .int .i64 R1.1.plan) (d := .bool R1.1.down) hk2).1
                   have hf3' := (set4 (a := .int .i64 R1.1.room) (b := .slice a2 ps2.length cap2) (c := .int .i64 R1.1.plan) (d := .bool R1.1.down) hk2).2
                   have hgle : W0.heap.size ≤ W1.heap.size := by first | exact Nat.le_refl _ | exact hS1.1.size
                   have hB3 := hX2 W2 W1.heap.size (.int .i64 R1.1.room) (.slice a2 ps2.length cap2) (.int .i64 R1.1.plan) (.bool R1.1.down) hS2.1 hgle
                   have hgw : w.heap.size + 1 < W1.heap.size := by have := HZ0.out; omega
                   generalize ((((W2.setCell ⟨W1.heap.size, 0, none⟩ (.int .i64 R1.1.room)).setCell ⟨W1.heap.size, 1, none⟩ (.slice a2 ps2.length cap2)).setCell ⟨W1.heap.size, 2, none⟩ (.int .i64 R1.1.plan)).setCell ⟨W1.heap.size, 3, none⟩ (.bool R1.1.down)) = Wf at *
                   have hs3 : SlF (fun k => M k ∨ (w.heap.size ≤ k ∧ k < w.heap.size + 2) ∨ k = W1.heap.size) Wf (.slice a2 ps2.length cap2) ps2 := hs2.fr hf3' (by intro k hk; have := hS1.1.size; have := HZ0.out; have := hZl W1; exact .inr (.inr ⟨by omega, by first | assumption | omega⟩)) (by intro k hk h; have := hS1.1.size; have := HZ0.out; have := hZl W1; rcases h with h | h | h; exact .inl h; exact .inr (.inl h); exact .inr (.inr ⟨by omega, by omega⟩))
                   have hgWf : W1.heap.size < Wf.heap.size := (Array.getElem?_eq_some_iff.1 hk3).1
                   have kk0 := (hB3.block w.heap.size (by have := HZ0.out; omega)).trans kq0
                   have kk1 := (hB3.block (w.heap.size + 1) (by have := HZ0.out; omega)).trans kq1
                   have hBw3 : Below w.heap.size w Wf := hBQ.trans (hB3.mono (by have := HZ0.out; omega))
                   generalize hgg : W1.heap.size = g at hk3 hgw hgWf hs3 ⊢)
                | (have hk3 := heap_alloc_new W2 (.cells #[.int .i64 R1.1.room, .slice a2 ps2.length cap2, .int .i64 R1.1.plan, .bool R1.1.down] 35)
                   have hgle : W0.heap.size ≤ W2.heap.size := hS2.1.size
                   have hB3 := hAl W2 (.cells #[.int .i64 R1.1.room, .slice a2 ps2.length cap2, .int .i64 R1.1.plan, .bool R1.1.down] 35) hS2.1
                   have hs3 : SlF (fun k => M k ∨ (w.heap.size ≤ k ∧ k < w.heap.size + 2) ∨ k = W2.heap.size) (W2.alloc (.cells #[.int .i64 R1.1.room, .slice a2 ps2.length cap2, .int .i64 R1.1.plan, .bool R1.1.down] 35)) (.slice a2 ps2.length cap2) ps2 := hs2.fr (F := fun _ => False) (Fr.of_below ((Below.refl _ _).alloc (Nat.le_refl _) _)) (fun _ h => h.elim) (by intro k hk h; rcases h with h | h | h; exact .inl h; exact .inr (.inl h); exact absurd h (by omega))
                   have hgw : w.heap.size + 1 < W2.heap.size := by have := HZ0.out; omega
                   generalize (W2.alloc (.cells #[.int .i64 R1.1.room, .slice a2 ps2.length cap2, .int .i64 R1.1.plan, .bool R1.1.down] 35)) = Wf at *
                   have hgWf : W2.heap.size < Wf.heap.size := (Array.getElem?_eq_some_iff.1 hk3).1
                   have kk0 := (hB3.block w.heap.size (by have := HZ0.out; omega)).trans kq0
                   have kk1 := (hB3.block (w.heap.size + 1) (by have := HZ0.out; omega)).trans kq1
                   have hBw3 : Below w.heap.size w Wf := hBQ.trans (hB3.mono (by have := HZ0.out; omega))
                   generalize hgg : W2.heap.size = g at hk3 hgw hgWf hs3 ⊢)
              clear hgg hSS hSd hAl hTr hX2 hSf0 hZz hZl hS1 hS2 hgle hB3 hs2
              rename_i hh
              clear hh
              clear hdo hnm hb1 hb2 kq0 kq1
              obtain ⟨u0, u1, u2, u3⟩ := cells4 hk3
              by_cases hcz : R1.2 = 0
              · have hcb : (R1.2 == 0) = true := by rw [hcz]; rfl
                have HE : Hid (RR = (⟨R1.1, most, n, sz + b.length, wt + 1⟩, 0)) := by show _ = _; rw [HAP.out, if_neg (by rw [hcz]; decide)]
                go_wp2_with (first
                  | ((with_reducible refine at_sto ?_); refine wpList_store_in rfl (ty := 35) (x := .tmp 65) (y := .tmp 64) rfl w.heap.size 0 37 (.agg #[.int .i64 R1.1.room, .slice a2 ps2.length cap2, .int .i64 R1.1.plan, .bool R1.1.down]) [.int .i64 room, .slice a ps.length cap, .int .i64 plan, .bool down, .int .i64 most, .int .i64 (n : Int), .int .i64 (sz : Int), .int .i64 (wt : Int)] rfl rfl kk0 (by simp [Value.cells]) size35 (by intro u hu; simp [Value.cells] at hu; rcases hu with rfl | rfl | rfl | rfl <;> rfl) ?_; intro W4 hV1 hV2 hV3; replace hV1 : W4.heap[w.heap.size]? = some (.cells #[.int .i64 R1.1.room, .slice a2 ps2.length cap2, .int .i64 R1.1.plan, .bool R1.1.down, .int .i64 most, .int .i64 (n : Int), .int .i64 (sz : Int), .int .i64 (wt : Int)] 37 (0, 0)) := hV1; obtain ⟨y0, y1, y2, y3, y4, y5, y6, y7⟩ := cells8 hV1; have kk1' := (hV2.block (w.heap.size + 1) (by omega) (by intro e; omega)).trans kk1)
                  | ((with_reducible refine at_sto ?_); refine wpList_store_in rfl (ty := 3) (x := .tmp 73)  rfl w.heap.size 6 37 (.int .i64 ((sz : Int) + (b.length : Int))) [.int .i64 R1.1.room, .slice a2 ps2.length cap2, .int .i64 R1.1.plan, .bool R1.1.down, .int .i64 most, .int .i64 (n : Int), .int .i64 (sz : Int), .int .i64 (wt : Int)] rfl rfl hV1 (by simp [Value.cells]) size134' (by intro u hu; simp [Value.cells] at hu; subst hu; rfl) ?_; intro W5 hQ1 hQ2 hQ3; replace hQ1 : W5.heap[w.heap.size]? = some (.cells #[.int .i64 R1.1.room, .slice a2 ps2.length cap2, .int .i64 R1.1.plan, .bool R1.1.down, .int .i64 most, .int .i64 (n : Int), .int .i64 ((sz : Int) + (b.length : Int)), .int .i64 (wt : Int)] 37 (0, 0)) := hQ1; obtain ⟨q0, q1, q2, q3, q4, q5, q6, q7⟩ := cells8 hQ1; have n1 := (hQ2.block (w.heap.size + 1) (by omega) (by intro e; omega)).trans kk1')
                  | ((with_reducible refine at_sto ?_); refine wpList_store_in rfl (ty := 3) (x := .tmp 77)  rfl w.heap.size 7 37 (.int .i64 ((wt : Int) + 1)) [.int .i64 R1.1.room, .slice a2 ps2.length cap2, .int .i64 R1.1.plan, .bool R1.1.down, .int .i64 most, .int .i64 (n : Int), .int .i64 ((sz : Int) + (b.length : Int)), .int .i64 (wt : Int)] rfl rfl hQ1 (by simp [Value.cells]) size134' (by intro u hu; simp [Value.cells] at hu; subst hu; rfl) ?_; intro W6 hR1 hR2 hR3; replace hR1 : W6.heap[w.heap.size]? = some (.cells #[.int .i64 R1.1.room, .slice a2 ps2.length cap2, .int .i64 R1.1.plan, .bool R1.1.down, .int .i64 most, .int .i64 (n : Int), .int .i64 ((sz : Int) + (b.length : Int)), .int .i64 ((wt : Int) + 1)] 37 (0, 0)) := hR1; obtain ⟨r0, r1, r2, r3, r4, r5, r6, r7⟩ := cells8 hR1; have n2 := (hR2.block (w.heap.size + 1) (by omega) (by intro e; omega)).trans n1)
                  | ((with_reducible refine at_sto ?_); refine wpList_store_in rfl (ty := 37) (x := .tmp 4) (y := .tmp 78) rfl (w.heap.size + 1) 0 37 (.agg #[.int .i64 R1.1.room, .slice a2 ps2.length cap2, .int .i64 R1.1.plan, .bool R1.1.down, .int .i64 most, .int .i64 (n : Int), .int .i64 ((sz : Int) + (b.length : Int)), .int .i64 ((wt : Int) + 1)]) [.int .i64 0, .slice none 0 0, .int .i64 0, .bool false, .int .i64 0, .int .i64 0, .int .i64 0, .int .i64 0] rfl rfl n2 (by simp [Value.cells]) size37 (by intro u hu; simp [Value.cells] at hu; rcases hu with rfl | rfl | rfl | rfl | rfl | rfl | rfl | rfl <;> rfl) ?_; intro W9 hE1 hE2 hE3; replace hE1 : W9.heap[(w.heap.size + 1)]? = some (.cells #[.int .i64 R1.1.room, .slice a2 ps2.length cap2, .int .i64 R1.1.plan, .bool R1.1.down, .int .i64 most, .int .i64 (n : Int), .int .i64 ((sz : Int) + (b.length : Int)), .int .i64 ((wt : Int) + 1)] 37 (0, 0)) := hE1))
                refine bodyPost_ret (results_cell_row_tmp (fr := (0, 0)) Tryz.results19 _ _ (w.heap.size + 1) 37 _ _ rfl hE1 Tryz.underlying37 rfl (by kernel_rfl)) rfl ?_
                have hF : Fr (fun k => k = w.heap.size ∨ k = w.heap.size + 1) Wf W9 := (((hV2.mono (fun k _ h => .inl h)).trans hQ2 (fun k _ h => .inl h)).trans hR2 (fun k _ h => .inl h)).trans hE2 (fun k _ h => .inr h)
                have hBf : Below w.heap.size w W9 := hBw3.trans (hF.below (by omega) (by intro q h1 h2; omega))
                rw [HE.out]
                refine ⟨_, rfl, ⟨.slice a2 ps2.length cap2, ps2, by show _ = Value.agg (lg8 _ _ _ _ _ _ ((sz + b.length : Nat)) ((wt + 1 : Nat))); unfold lg8; rw [show ((sz + b.length : Nat) : Int) = (sz : Int) + (b.length : Int) by omega, show ((wt + 1 : Nat) : Int) = (wt : Int) + 1 by omega], hs3.fr hF (by intro k hk; rcases hk with rfl | rfl; exact .inr (.inl ⟨by omega, by omega⟩); exact .inr (.inl ⟨by omega, by omega⟩)) (fun _ _ h => .inl h), hps2⟩, hBf⟩
              · have hcb : (R1.2 == 0) = false := by simpa using hcz
                have HE : Hid (RR = (⟨R1.1, most, n, sz, wt⟩, R1.2)) := by show _ = _; rw [HAP.out, if_pos hcz]
                go_wp2_with (first
                  | ((with_reducible refine at_sto ?_); refine wpList_store_in rfl (ty := 35) (x := .tmp 65) (y := .tmp 64) rfl w.heap.size 0 37 (.agg #[.int .i64 R1.1.room, .slice a2 ps2.length cap2, .int .i64 R1.1.plan, .bool R1.1.down]) [.int .i64 room, .slice a ps.length cap, .int .i64 plan, .bool down, .int .i64 most, .int .i64 (n : Int), .int .i64 (sz : Int), .int .i64 (wt : Int)] rfl rfl kk0 (by simp [Value.cells]) size35 (by intro u hu; simp [Value.cells] at hu; rcases hu with rfl | rfl | rfl | rfl <;> rfl) ?_; intro W4 hV1 hV2 hV3; replace hV1 : W4.heap[w.heap.size]? = some (.cells #[.int .i64 R1.1.room, .slice a2 ps2.length cap2, .int .i64 R1.1.plan, .bool R1.1.down, .int .i64 most, .int .i64 (n : Int), .int .i64 (sz : Int), .int .i64 (wt : Int)] 37 (0, 0)) := hV1; obtain ⟨y0, y1, y2, y3, y4, y5, y6, y7⟩ := cells8 hV1; have kk1' := (hV2.block (w.heap.size + 1) (by omega) (by intro e; omega)).trans kk1)
                  | ((with_reducible refine at_sto ?_); refine wpList_store_in rfl (ty := 37) (x := .tmp 4) (y := .tmp 78) rfl (w.heap.size + 1) 0 37 (.agg #[.int .i64 R1.1.room, .slice a2 ps2.length cap2, .int .i64 R1.1.plan, .bool R1.1.down, .int .i64 most, .int .i64 (n : Int), .int .i64 (sz : Int), .int .i64 (wt : Int)]) [.int .i64 0, .slice none 0 0, .int .i64 0, .bool false, .int .i64 0, .int .i64 0, .int .i64 0, .int .i64 0] rfl rfl kk1' (by simp [Value.cells]) size37 (by intro u hu; simp [Value.cells] at hu; rcases hu with rfl | rfl | rfl | rfl | rfl | rfl | rfl | rfl <;> rfl) ?_; intro W9 hE1 hE2 hE3; replace hE1 : W9.heap[(w.heap.size + 1)]? = some (.cells #[.int .i64 R1.1.room, .slice a2 ps2.length cap2, .int .i64 R1.1.plan, .bool R1.1.down, .int .i64 most, .int .i64 (n : Int), .int .i64 (sz : Int), .int .i64 (wt : Int)] 37 (0, 0)) := hE1))
                refine bodyPost_ret (results_cell_row_tmp (fr := (0, 0)) Tryz.results19 _ _ (w.heap.size + 1) 37 _ _ rfl hE1 Tryz.underlying37 rfl (by kernel_rfl)) rfl ?_
                have hF : Fr (fun k => k = w.heap.size ∨ k = w.heap.size + 1) Wf W9 := (hV2.mono (fun k _ h => .inl h)).trans hE2 (fun k _ h => .inr h)
                have hBf : Below w.heap.size w W9 := hBw3.trans (hF.below (by omega) (by intro q h1 h2; omega))
                rw [HE.out]
                refine ⟨_, rfl, ⟨.slice a2 ps2.length cap2, ps2, rfl, hs3.fr hF (by intro k hk; rcases hk with rfl | rfl; exact .inr (.inl ⟨by omega, by omega⟩); exact .inr (.inl ⟨by omega, by omega⟩)) (fun _ _ h => .inl h), hps2⟩, hBf⟩
          · have hcb0 : (RT.2 != 0) = true := by simpa using hrc
            have HE : Hid (RR = RT) := by show _ = _; rw [hpR1, if_pos hrc]
            clear hpR1 hrc
            go_wp2_with (first
              | (go_at_call 68; refine hr.mono ?_; rintro e w1 ⟨v1, rfl, hr1, hb1⟩; obtain ⟨sv1, ps1, rfl, hs1, hps1⟩ := hr1; obtain ⟨a1, cap1, rfl, hn1, hc1, _, _⟩ := hs1.open; unfold lg8; have hb1z := hb1.size; have kr0 := (hb1.block w.heap.size (by omega)).trans kq0; have kr1 := (hb1.block (w.heap.size + 1) (by omega)).trans kq1)
              | ((with_reducible refine at_sto ?_); refine wpList_store_in rfl (ty := 37) (x := .tmp 8) (y := .tmp 47) rfl w1.heap.size 0 37 (.agg #[.int .i64 RT.1.D.room, .slice a1 ps1.length cap1, .int .i64 RT.1.D.plan, .bool RT.1.D.down, .int .i64 RT.1.most, .int .i64 (RT.1.n : Int), .int .i64 (RT.1.size : Int), .int .i64 (RT.1.waiting : Int)]) [.int .i64 0, .slice none 0 0, .int .i64 0, .bool false, .int .i64 0, .int .i64 0, .int .i64 0, .int .i64 0] rfl rfl (heap_alloc_new _ _) (by simp [Value.cells]) size37 (by intro u hu; simp [Value.cells] at hu; rcases hu with rfl | rfl | rfl | rfl | rfl | rfl | rfl | rfl <;> rfl) ?_; intro W3 hV1 hV2 hV3; replace hV1 : W3.heap[w1.heap.size]? = some (.cells #[.int .i64 RT.1.D.room, .slice a1 ps1.length cap1, .int .i64 RT.1.D.plan, .bool RT.1.D.down, .int .i64 RT.1.most, .int .i64 (RT.1.n : Int), .int .i64 (RT.1.size : Int), .int .i64 (RT.1.waiting : Int)] 37 (0, 0)) := hV1; obtain ⟨y0, y1, y2, y3, y4, y5, y6, y7⟩ := cells8 hV1; have hB13 : Below w1.heap.size w1 W3 := (boxF w1 _).1.trans (hV2.below (by have := (boxF w1 (.cells #[.int .i64 0, .slice none 0 0, .int .i64 0, .bool false, .int .i64 0, .int .i64 0, .int .i64 0, .int .i64 0] 37)).2.1; omega) (by intro q h1 h2; omega)); have ks0 := (hB13.block w.heap.size (by omega)).trans kr0; have ks1 := (hB13.block (w.heap.size + 1) (by omega)).trans kr1)
              | ((with_reducible refine at_sto ?_); refine wpList_store_in rfl (ty := 37) (x := .tmp 4) (y := .tmp 51) rfl (w.heap.size + 1) 0 37 (.agg #[.int .i64 RT.1.D.room, .slice a1 ps1.length cap1, .int .i64 RT.1.D.plan, .bool RT.1.D.down, .int .i64 RT.1.most, .int .i64 (RT.1.n : Int), .int .i64 (RT.1.size : Int), .int .i64 (RT.1.waiting : Int)]) [.int .i64 0, .slice none 0 0, .int .i64 0, .bool false, .int .i64 0, .int .i64 0, .int .i64 0, .int .i64 0] rfl rfl ks1 (by simp [Value.cells]) size37 (by intro u hu; simp [Value.cells] at hu; rcases hu with rfl | rfl | rfl | rfl | rfl | rfl | rfl | rfl <;> rfl) ?_; intro W9 hE1 hE2 hE3; replace hE1 : W9.heap[(w.heap.size + 1)]? = some (.cells #[.int .i64 RT.1.D.room, .slice a1 ps1.length cap1, .int .i64 RT.1.D.plan, .bool RT.1.D.down, .int .i64 RT.1.most, .int .i64 (RT.1.n : Int), .int .i64 (RT.1.size : Int), .int .i64 (RT.1.waiting : Int)] 37 (0, 0)) := hE1))
            refine bodyPost_ret (results_cell_row_tmp (fr := (0, 0)) Tryz.results19 _ _ (w.heap.size + 1) 37 _ _ rfl hE1 Tryz.underlying37 rfl (by kernel_rfl)) rfl ?_
            have hBf : Below w.heap.size w W9 := ((hBQ.trans (hb1.mono (by omega))).trans (hB13.mono (by omega))).trans (hE2.below (by have := hB13.size; omega) (by intro q h1 h2; omega))
            rw [HE.out]
            exact ⟨_, rfl, ⟨.slice a1 ps1.length cap1, ps1, rfl, (hs1.below hB13).fr hE2 (by intro k hk; exact .inr (by omega)) (fun _ _ h => .inl h), hps1⟩, hBf⟩
        · have HRES : Hid (RR = appA ⟨⟨room, files, plan, down⟩, most, n, sz, wt⟩ b) := hpA hrot
          have okQ := ok1
          have hsQ : SlF (fun k => M k ∨ (w.heap.size ≤ k ∧ k < w.heap.size + 2)) W0 (.slice a ps.length cap) ps := hs.fr (F := fun _ => False) (Fr.of_below hBQ) (fun _ h => h.elim) (fun k hk h => h.elim id (fun h => by omega))
          have hpsQ := hps
          by_cases hs0 : 0 < sz
          · have ir1 : (0 : Int) < (sz : Int) := by omega
            have ir2 : ¬ most < (sz : Int) + (b.length : Int) := fun h => hrot ⟨hs0, h⟩
            clear hmk hB0 hB2 k0 k1 hB hzB hpA hpR hrt hok2 ok1 hbs hrot
            go_wp2_with fail
            clear c0 c1 c2 c3 c4 c5 c6 c7
            have hdo : ∀ W, Below W0.heap.size W0 W → Calls Tryz.prog 66 #[.agg (dk5 room (.slice a ps.length cap) plan down), op5 2 (stV (nameB n)) (.string ⟨#[]⟩) (.slice ab b.length capb)] W fun e w' => ∃ v', e = .returned (.tuple #[v', .int .i64 (doA ⟨room, files, plan, down⟩ (.append b) (nameB n)).2]) ∧ Ref5 (fun k => M k ∨ (w.heap.size ≤ k ∧ k < w.heap.size + 2) ∨ (W0.heap.size ≤ k ∧ k < W.heap.size)) w' (doA ⟨room, files, plan, down⟩ (.append b) (nameB n)).1 v' ∧ Below W.heap.size W w' := fun W hW =>
              do5_any (M := (fun k => M k ∨ (w.heap.size ≤ k ∧ k < w.heap.size + 2) ∨ (W0.heap.size ≤ k ∧ k < W.heap.size))) ⟨room, files, plan, down⟩ _ W ⟨_, ps, rfl, hsQ.fr (F := fun _ => False) (Fr.of_below hW) (fun _ h => h.elim) (fun k hk h => by rcases h with h | h | h; exact .inl h; exact .inr h; exact absurd hk (by omega)), hpsQ⟩ (fun k hk => by have := hW.size; rcases hk with hk | hk | hk; have := hM k hk; omega; omega; exact hk.2) (.append b) (nameB n) _ _ ⟨hbQ.fr (F := fun _ => False) (Fr.of_below hW) (fun _ h => h.elim) (fun k hk h => by rcases h with h | h | h; exact .inl h; exact .inr h; exact absurd hk (by omega)), hbl⟩ (fun m h => by cases h) okQ.p0 okQ.p1 (by rw [nameB_length]; omega) okQ.files okQ.used
            have hnm := fun W (c0 c1 c2 c3 c4 c6 c7 : Value) => name8_any c0 c1 c2 c3 c4 c6 c7 n W okQ.n1 (by have h2 : n < 100 := okQ.n2; omega)
            have hszb : (sz : Int) + (b.length : Int) ≤ 9223372036854775807 := by have := okQ.size; simp only at this; omega
            have hwtb : (wt : Int) + 1 ≤ 9223372036854775807 := by have := okQ.wait; simp only at this; omega
            have HAP : Hid (RR = if (doA ⟨room, files, plan, down⟩ (.append b) (nameB n)).2 ≠ 0 then (⟨(doA ⟨room, files, plan, down⟩ (.append b) (nameB n)).1, most, n, sz, wt⟩, (doA ⟨room, files, plan, down⟩ (.append b) (nameB n)).2) else (⟨(doA ⟨room, files, plan, down⟩ (.append b) (nameB n)).1, most, n, sz + b.length, wt + 1⟩, 0)) := HRES.out
            obtain ⟨R1, hR1⟩ : ∃ R, doA ⟨room, files, plan, down⟩ (.append b) (nameB n) = R := ⟨_, rfl⟩
            rw [hR1] at hdo HAP
            clear hR1 HRES okQ
            unfold dk5 op5 stV at hdo
            generalize nameB n = nb at *
            have hl0 : w.heap.size < W0.heap.size := by omega
            have hSS : ∀ W, Below W0.heap.size W0 W → (Below W0.heap.size W0 W ∧ W.cell? ⟨w.heap.size, 0, none⟩ = some (.int .i64 room) ∧ W.cell? ⟨w.heap.size, 1, none⟩ = some (.slice a ps.length cap) ∧ W.cell? ⟨w.heap.size, 2, none⟩ = some (.int .i64 plan) ∧ W.cell? ⟨w.heap.size, 3, none⟩ = some (.bool down) ∧ W.cell? ⟨w.heap.size, 4, none⟩ = some (.int .i64 most) ∧ W.cell? ⟨w.heap.size, 5, none⟩ = some (.int .i64 (n : Int)) ∧ W.cell? ⟨w.heap.size, 6, none⟩ = some (.int .i64 (sz : Int)) ∧ W.cell? ⟨w.heap.size, 7, none⟩ = some (.int .i64 (wt : Int))) := fun W hW => ⟨hW, cells8 ((hW.block _ hl0).trans kq0)⟩
            have hAl : ∀ W C, Below W0.heap.size W0 W → Below W0.heap.size W0 (W.alloc C) := fun W C h => h.alloc h.size C
            have hSd : ∀ W, (Below W0.heap.size W0 W ∧ W.cell? ⟨w.heap.size, 0, none⟩ = some (.int .i64 room) ∧ W.cell? ⟨w.heap.size, 1, none⟩ = some (.slice a ps.length cap) ∧ W.cell? ⟨w.heap.size, 2, none⟩ = some (.int .i64 plan) ∧ W.cell? ⟨w.heap.size, 3, none⟩ = some (.bool down) ∧ W.cell? ⟨w.heap.size, 4, none⟩ = some (.int .i64 most) ∧ W.cell? ⟨w.heap.size, 5, none⟩ = some (.int .i64 (n : Int)) ∧ W.cell? ⟨w.heap.size, 6, none⟩ = some (.int .i64 (sz : Int)) ∧ W.cell? ⟨w.heap.size, 7, none⟩ = some (.int .i64 (wt : Int))) → Below W0.heap.size W0 W := fun W h => h.1
            have hTr : ∀ W W', (Below W0.heap.size W0 W ∧ W.cell? ⟨w.heap.size, 0, none⟩ = some (.int .i64 room) ∧ W.cell? ⟨w.heap.size, 1, none⟩ = some (.slice a ps.length cap) ∧ W.cell? ⟨w.heap.size, 2, none⟩ = some (.int .i64 plan) ∧ W.cell? ⟨w.heap.size, 3, none⟩ = some (.bool down) ∧ W.cell? ⟨w.heap.size, 4, none⟩ = some (.int .i64 most) ∧ W.cell? ⟨w.heap.size, 5, none⟩ = some (.int .i64 (n : Int)) ∧ W.cell? ⟨w.heap.size, 6, none⟩ = some (.int .i64 (sz : Int)) ∧ W.cell? ⟨w.heap.size, 7, none⟩ = some (.int .i64 (wt : Int))) → Below W.heap.size W W' → Below W0.heap.size W0 W' := fun W W' h k => h.1.trans (k.mono h.1.size)
            have hX2 : ∀ W' g c d e f, Below W0.heap.size W0 W' → W0.heap.size ≤ g → Below W0.heap.size W0 ((((W'.setCell ⟨g, 0, none⟩ c).setCell ⟨g, 1, none⟩ d).setCell ⟨g, 2, none⟩ e).setCell ⟨g, 3, none⟩ f) := fun W' g c d e f h hg => (((h.setCell hg c).setCell hg d).setCell hg e).setCell hg f
            have hSf0 := hSS W0.drew (Below.refl _ _).drew
            have hZz : ∀ W : World, (W.alloc (.cells #[.int .i64 0, .slice none 0 0, .int .i64 0, .bool false] 35)).heap[W.heap.size]? = some (.cells #[.int .i64 0, .slice none 0 0, .int .i64 0, .bool false] 35) := fun W => heap_alloc_new W _
            have hZl : ∀ W : World, W.heap.size < (W.alloc (.cells #[.int .i64 0, .slice none 0 0, .int .i64 0, .bool false] 35)).heap.size := fun W => by simp
            have HZ0 : Hid (w.heap.size + 1 < W0.heap.size) := hlQ
            clear hlQ hbQ hsQ hl0
            go_region_held3 (fun W => Below W0.heap.size W0 W ∧ W.cell? ⟨w.heap.size, 0, none⟩ = some (.int .i64 room) ∧ W.cell? ⟨w.heap.size, 1, none⟩ = some (.slice a ps.length cap) ∧ W.cell? ⟨w.heap.size, 2, none⟩ = some (.int .i64 plan) ∧ W.cell? ⟨w.heap.size, 3, none⟩ = some (.bool down) ∧ W.cell? ⟨w.heap.size, 4, none⟩ = some (.int .i64 most) ∧ W.cell? ⟨w.heap.size, 5, none⟩ = some (.int .i64 (n : Int)) ∧ W.cell? ⟨w.heap.size, 6, none⟩ = some (.int .i64 (sz : Int)) ∧ W.cell? ⟨w.heap.size, 7, none⟩ = some (.int .i64 (wt : Int))) (first | assumption | exact hSS _ (hAl _ _ (hSd _ (by assumption))) | exact hSS _ (hAl _ _ (Below.refl _ _)) | exact hSS _ (hX2 _ _ _ _ _ _ hS2.1 (by first | exact Nat.le_refl _ | exact hS1.1.size)) | exact hSS _ (hAl _ _ (Below.refl _ _)).drew)
              (first
                | (go_at_call 69; refine (hnm _ _ _ _ _ _ _ _).mono ?_; rintro e W1 ⟨rfl, hb1⟩; have hS1 := hSS W1 (hTr _ _ (by assumption) hb1); (first | (have hk1 := (hb1.block W0.heap.size (hZl W0)).trans (hZz W0); have hlt1 := Nat.lt_of_lt_of_le (hZl W0) hb1.size) | skip))
                | (go_at_call 66; refine (hdo _ (hSd _ (by assumption))).mono ?_; rintro e W2 ⟨v2, rfl, hr2, hb2⟩; obtain ⟨sv2, ps2, rfl, hs2, hps2⟩ := hr2; obtain ⟨a2, cap2, rfl, hn2', hc2, _, _⟩ := hs2.open; unfold dk5; have hS2 := hSS W2 (hTr _ _ (by assumption) hb2); (first | (have hk2 := (hb2.block W0.heap.size hlt1).trans hk1; clear hk1) | have hk2 := (hb2.block W1.heap.size (hZl W1)).trans (hZz W1) | skip); (try (obtain ⟨u0, u1, u2, u3⟩ := cells4 hk2; have hf0 := frozen_of_row _ _ 0 _ _ hk2; have hf1 := frozen_of_row _ _ 1 _ _ hk2; have hf2 := frozen_of_row _ _ 2 _ _ hk2; have hf3 := frozen_of_row _ _ 3 _ _ hk2))))
            all_goals
              first
                | (have hk3 := (set4 (a := .int .i64 R1.1.room) (b := .slice a2 ps2.length cap2) (c := .int .i64 R1.1.plan) (d := .bool R1.1.down) hk2).1
                   have hf3' := (set4 (a := .int .i64 R1.1.room) (b := .slice a2 ps2.length cap2) (c := .int .i64 R1.1.plan) (d := .bool R1.1.down) hk2).2
                   have hgle : W0.heap.size ≤ W0.heap.size := by first | exact Nat.le_refl _ | exact hS1.1.size
                   have hB3 := hX2 W2 W0.heap.size (.int .i64 R1.1.room) (.slice a2 ps2.length cap2) (.int .i64 R1.1.plan) (.bool R1.1.down) hS2.1 hgle
                   have hgw : w.heap.size + 1 < W0.heap.size := by have := HZ0.out; omega
                   generalize ((((W2.setCell ⟨W0.heap.size, 0, none⟩ (.int .i64 R1.1.room)).setCell ⟨W0.heap.size, 1, none⟩ (.slice a2 ps2.length cap2)).setCell ⟨W0.heap.size, 2, none⟩ (.int .i64 R1.1.plan)).setCell ⟨W0.heap.size, 3, none⟩ (.bool R1.1.down)) = Wf at *
                   have hs3 : SlF (fun k => M k ∨ (w.heap.size ≤ k ∧ k < w.heap.size + 2) ∨ k = W0.heap.size) Wf (.slice a2 ps2.length cap2) ps2 := hs2.fr hf3' (by intro k hk; have := hS1.1.size; have := HZ0.out; exact .inr (.inr ⟨by omega, by first | assumption | omega⟩)) (by intro k hk h; have := hS1.1.size; have := HZ0.out; rcases h with h | h | h; exact .inl h; exact .inr (.inl h); exact .inr (.inr ⟨by omega, by omega⟩))
                   have hgWf : W0.heap.size < Wf.heap.size := (Array.getElem?_eq_some_iff.1 hk3).1
                   have kk0 := (hB3.block w.heap.size (by have := HZ0.out; omega)).trans kq0
                   have kk1 := (hB3.block (w.heap.size + 1) (by have := HZ0.out; omega)).trans kq1
                   have hBw3 : Below w.heap.size w Wf := hBQ.trans (hB3.mono (by have := HZ0.out; omega))
                   generalize hgg : W0.heap.size = g at hk3 hgw hgWf hs3 ⊢)
                | (have hk3 := (set4 (a := .int .i64 R1.1.room) (b := .slice a2 ps2.length cap2) (c := .int .i64 R1.1.plan) (d := .bool R1.1.down) hk2).1
                   have hf3' := (set4 (a := .int .i64 R1.1.room) (b := .slice a2 ps2.length cap2) (c := .int .i64 R1.1.plan) (d := .bool R1.1.down) hk2).2
                   have hgle : W0.heap.size ≤ W1.heap.size := by first | exact Nat.le_refl _ | exact hS1.1.size
                   have hB3 := hX2 W2 W1.heap.size (.int .i64 R1.1.room) (.slice a2 ps2.length cap2) (.int .i64 R1.1.plan) (.bool R1.1.down) hS2.1 hgle
                   have hgw : w.heap.size + 1 < W1.heap.size := by have := HZ0.out; omega
                   generalize ((((W2.setCell ⟨W1.heap.size, 0, none⟩ (.int .i64 R1.1.room)).setCell ⟨W1.heap.size, 1, none⟩ (.slice a2 ps2.length cap2)).setCell ⟨W1.heap.size, 2, none⟩ (.int .i64 R1.1.plan)).setCell ⟨W1.heap.size, 3, none⟩ (.bool R1.1.down)) = Wf at *
                   have hs3 : SlF (fun k => M k ∨ (w.heap.size ≤ k ∧ k < w.heap.size + 2) ∨ k = W1.heap.size) Wf (.slice a2 ps2.length cap2) ps2 := hs2.fr hf3' (by intro k hk; have := hS1.1.size; have := HZ0.out; have := hZl W1; exact .inr (.inr ⟨by omega, by first | assumption | omega⟩)) (by intro k hk h; have := hS1.1.size; have := HZ0.out; have := hZl W1; rcases h with h | h | h; exact .inl h; exact .inr (.inl h); exact .inr (.inr ⟨by omega, by omega⟩))
                   have hgWf : W1.heap.size < Wf.heap.size := (Array.getElem?_eq_some_iff.1 hk3).1
                   have kk0 := (hB3.block w.heap.size (by have := HZ0.out; omega)).trans kq0
                   have kk1 := (hB3.block (w.heap.size + 1) (by have := HZ0.out; omega)).trans kq1
                   have hBw3 : Below w.heap.size w Wf := hBQ.trans (hB3.mono (by have := HZ0.out; omega))
                   generalize hgg : W1.heap.size = g at hk3 hgw hgWf hs3 ⊢)
                | (have hk3 := heap_alloc_new W2 (.cells #[.int .i64 R1.1.room, .slice a2 ps2.length cap2, .int .i64 R1.1.plan, .bool R1.1.down] 35)
                   have hgle : W0.heap.size ≤ W2.heap.size := hS2.1.size
                   have hB3 := hAl W2 (.cells #[.int .i64 R1.1.room, .slice a2 ps2.length cap2, .int .i64 R1.1.plan, .bool R1.1.down] 35) hS2.1
                   have hs3 : SlF (fun k => M k ∨ (w.heap.size ≤ k ∧ k < w.heap.size + 2) ∨ k = W2.heap.size) (W2.alloc (.cells #[.int .i64 R1.1.room, .slice a2 ps2.length cap2, .int .i64 R1.1.plan, .bool R1.1.down] 35)) (.slice a2 ps2.length cap2) ps2 := hs2.fr (F := fun _ => False) (Fr.of_below ((Below.refl _ _).alloc (Nat.le_refl _) _)) (fun _ h => h.elim) (by intro k hk h; rcases h with h | h | h; exact .inl h; exact .inr (.inl h); exact absurd h (by omega))
                   have hgw : w.heap.size + 1 < W2.heap.size := by have := HZ0.out; omega
                   generalize (W2.alloc (.cells #[.int .i64 R1.1.room, .slice a2 ps2.length cap2, .int .i64 R1.1.plan, .bool R1.1.down] 35)) = Wf at *
                   have hgWf : W2.heap.size < Wf.heap.size := (Array.getElem?_eq_some_iff.1 hk3).1
                   have kk0 := (hB3.block w.heap.size (by have := HZ0.out; omega)).trans kq0
                   have kk1 := (hB3.block (w.heap.size + 1) (by have := HZ0.out; omega)).trans kq1
                   have hBw3 : Below w.heap.size w Wf := hBQ.trans (hB3.mono (by have := HZ0.out; omega))
                   generalize hgg : W2.heap.size = g at hk3 hgw hgWf hs3 ⊢)
              clear hgg hSS hSd hAl hTr hX2 hSf0 hZz hZl hS1 hS2 hgle hB3 hs2
              rename_i hh
              clear hh
              clear hdo hnm hb1 hb2 kq0 kq1
              obtain ⟨u0, u1, u2, u3⟩ := cells4 hk3
              by_cases hcz : R1.2 = 0
              · have hcb : (R1.2 == 0) = true := by rw [hcz]; rfl
                have HE : Hid (RR = (⟨R1.1, most, n, sz + b.length, wt + 1⟩, 0)) := by show _ = _; rw [HAP.out, if_neg (by rw [hcz]; decide)]
                go_wp2_with (first
                  | ((with_reducible refine at_sto ?_); refine wpList_store_in rfl (ty := 35) (x := .tmp 65) (y := .tmp 64) rfl w.heap.size 0 37 (.agg #[.int .i64 R1.1.room, .slice a2 ps2.length cap2, .int .i64 R1.1.plan, .bool R1.1.down]) [.int .i64 room, .slice a ps.length cap, .int .i64 plan, .bool down, .int .i64 most, .int .i64 (n : Int), .int .i64 (sz : Int), .int .i64 (wt : Int)] rfl rfl kk0 (by simp [Value.cells]) size35 (by intro u hu; simp [Value.cells] at hu; rcases hu with rfl | rfl | rfl | rfl <;> rfl) ?_; intro W4 hV1 hV2 hV3; replace hV1 : W4.heap[w.heap.size]? = some (.cells #[.int .i64 R1.1.room, .slice a2 ps2.length cap2, .int .i64 R1.1.plan, .bool R1.1.down, .int .i64 most, .int .i64 (n : Int), .int .i64 (sz : Int), .int .i64 (wt : Int)] 37 (0, 0)) := hV1; obtain ⟨y0, y1, y2, y3, y4, y5, y6, y7⟩ := cells8 hV1; have kk1' := (hV2.block (w.heap.size + 1) (by omega) (by intro e; omega)).trans kk1)
                  | ((with_reducible refine at_sto ?_); refine wpList_store_in rfl (ty := 3) (x := .tmp 73)  rfl w.heap.size 6 37 (.int .i64 ((sz : Int) + (b.length : Int))) [.int .i64 R1.1.room, .slice a2 ps2.length cap2, .int .i64 R1.1.plan, .bool R1.1.down, .int .i64 most, .int .i64 (n : Int), .int .i64 (sz : Int), .int .i64 (wt : Int)] rfl rfl hV1 (by simp [Value.cells]) size134' (by intro u hu; simp [Value.cells] at hu; subst hu; rfl) ?_; intro W5 hQ1 hQ2 hQ3; replace hQ1 : W5.heap[w.heap.size]? = some (.cells #[.int .i64 R1.1.room, .slice a2 ps2.length cap2, .int .i64 R1.1.plan, .bool R1.1.down, .int .i64 most, .int .i64 (n : Int), .int .i64 ((sz : Int) + (b.length : Int)), .int .i64 (wt : Int)] 37 (0, 0)) := hQ1; obtain ⟨q0, q1, q2, q3, q4, q5, q6, q7⟩ := cells8 hQ1; have n1 := (hQ2.block (w.heap.size + 1) (by omega) (by intro e; omega)).trans kk1')
                  | ((with_reducible refine at_sto ?_); refine wpList_store_in rfl (ty := 3) (x := .tmp 77)  rfl w.heap.size 7 37 (.int .i64 ((wt : Int) + 1)) [.int .i64 R1.1.room, .slice a2 ps2.length cap2, .int .i64 R1.1.plan, .bool R1.1.down, .int .i64 most, .int .i64 (n : Int), .int .i64 ((sz : Int) + (b.length : Int)), .int .i64 (wt : Int)] rfl rfl hQ1 (by simp [Value.cells]) size134' (by intro u hu; simp [Value.cells] at hu; subst hu; rfl) ?_; intro W6 hR1 hR2 hR3; replace hR1 : W6.heap[w.heap.size]? = some (.cells #[.int .i64 R1.1.room, .slice a2 ps2.length cap2, .int .i64 R1.1.plan, .bool R1.1.down, .int .i64 most, .int .i64 (n : Int), .int .i64 ((sz : Int) + (b.length : Int)), .int .i64 ((wt : Int) + 1)] 37 (0, 0)) := hR1; obtain ⟨r0, r1, r2, r3, r4, r5, r6, r7⟩ := cells8 hR1; have n2 := (hR2.block (w.heap.size + 1) (by omega) (by intro e; omega)).trans n1)
                  | ((with_reducible refine at_sto ?_); refine wpList_store_in rfl (ty := 37) (x := .tmp 4) (y := .tmp 78) rfl (w.heap.size + 1) 0 37 (.agg #[.int .i64 R1.1.room, .slice a2 ps2.length cap2, .int .i64 R1.1.plan, .bool R1.1.down, .int .i64 most, .int .i64 (n : Int), .int .i64 ((sz : Int) + (b.length : Int)), .int .i64 ((wt : Int) + 1)]) [.int .i64 0, .slice none 0 0, .int .i64 0, .bool false, .int .i64 0, .int .i64 0, .int .i64 0, .int .i64 0] rfl rfl n2 (by simp [Value.cells]) size37 (by intro u hu; simp [Value.cells] at hu; rcases hu with rfl | rfl | rfl | rfl | rfl | rfl | rfl | rfl <;> rfl) ?_; intro W9 hE1 hE2 hE3; replace hE1 : W9.heap[(w.heap.size + 1)]? = some (.cells #[.int .i64 R1.1.room, .slice a2 ps2.length cap2, .int .i64 R1.1.plan, .bool R1.1.down, .int .i64 most, .int .i64 (n : Int), .int .i64 ((sz : Int) + (b.length : Int)), .int .i64 ((wt : Int) + 1)] 37 (0, 0)) := hE1))
                refine bodyPost_ret (results_cell_row_tmp (fr := (0, 0)) Tryz.results19 _ _ (w.heap.size + 1) 37 _ _ rfl hE1 Tryz.underlying37 rfl (by kernel_rfl)) rfl ?_
                have hF : Fr (fun k => k = w.heap.size ∨ k = w.heap.size + 1) Wf W9 := (((hV2.mono (fun k _ h => .inl h)).trans hQ2 (fun k _ h => .inl h)).trans hR2 (fun k _ h => .inl h)).trans hE2 (fun k _ h => .inr h)
                have hBf : Below w.heap.size w W9 := hBw3.trans (hF.below (by omega) (by intro q h1 h2; omega))
                rw [HE.out]
                refine ⟨_, rfl, ⟨.slice a2 ps2.length cap2, ps2, by show _ = Value.agg (lg8 _ _ _ _ _ _ ((sz + b.length : Nat)) ((wt + 1 : Nat))); unfold lg8; rw [show ((sz + b.length : Nat) : Int) = (sz : Int) + (b.length : Int) by omega, show ((wt + 1 : Nat) : Int) = (wt : Int) + 1 by omega], hs3.fr hF (by intro k hk; rcases hk with rfl | rfl; exact .inr (.inl ⟨by omega, by omega⟩); exact .inr (.inl ⟨by omega, by omega⟩)) (fun _ _ h => .inl h), hps2⟩, hBf⟩
              · have hcb : (R1.2 == 0) = false := by simpa using hcz
                have HE : Hid (RR = (⟨R1.1, most, n, sz, wt⟩, R1.2)) := by show _ = _; rw [HAP.out, if_pos hcz]
                go_wp2_with (first
                  | ((with_reducible refine at_sto ?_); refine wpList_store_in rfl (ty := 35) (x := .tmp 65) (y := .tmp 64) rfl w.heap.size 0 37 (.agg #[.int .i64 R1.1.room, .slice a2 ps2.length cap2, .int .i64 R1.1.plan, .bool R1.1.down]) [.int .i64 room, .slice a ps.length cap, .int .i64 plan, .bool down, .int .i64 most, .int .i64 (n : Int), .int .i64 (sz : Int), .int .i64 (wt : Int)] rfl rfl kk0 (by simp [Value.cells]) size35 (by intro u hu; simp [Value.cells] at hu; rcases hu with rfl | rfl | rfl | rfl <;> rfl) ?_; intro W4 hV1 hV2 hV3; replace hV1 : W4.heap[w.heap.size]? = some (.cells #[.int .i64 R1.1.room, .slice a2 ps2.length cap2, .int .i64 R1.1.plan, .bool R1.1.down, .int .i64 most, .int .i64 (n : Int), .int .i64 (sz : Int), .int .i64 (wt : Int)] 37 (0, 0)) := hV1; obtain ⟨y0, y1, y2, y3, y4, y5, y6, y7⟩ := cells8 hV1; have kk1' := (hV2.block (w.heap.size + 1) (by omega) (by intro e; omega)).trans kk1)
                  | ((with_reducible refine at_sto ?_); refine wpList_store_in rfl (ty := 37) (x := .tmp 4) (y := .tmp 78) rfl (w.heap.size + 1) 0 37 (.agg #[.int .i64 R1.1.room, .slice a2 ps2.length cap2, .int .i64 R1.1.plan, .bool R1.1.down, .int .i64 most, .int .i64 (n : Int), .int .i64 (sz : Int), .int .i64 (wt : Int)]) [.int .i64 0, .slice none 0 0, .int .i64 0, .bool false, .int .i64 0, .int .i64 0, .int .i64 0, .int .i64 0] rfl rfl kk1' (by simp [Value.cells]) size37 (by intro u hu; simp [Value.cells] at hu; rcases hu with rfl | rfl | rfl | rfl | rfl | rfl | rfl | rfl <;> rfl) ?_; intro W9 hE1 hE2 hE3; replace hE1 : W9.heap[(w.heap.size + 1)]? = some (.cells #[.int .i64 R1.1.room, .slice a2 ps2.length cap2, .int .i64 R1.1.plan, .bool R1.1.down, .int .i64 most, .int .i64 (n : Int), .int .i64 (sz : Int), .int .i64 (wt : Int)] 37 (0, 0)) := hE1))
                refine bodyPost_ret (results_cell_row_tmp (fr := (0, 0)) Tryz.results19 _ _ (w.heap.size + 1) 37 _ _ rfl hE1 Tryz.underlying37 rfl (by kernel_rfl)) rfl ?_
                have hF : Fr (fun k => k = w.heap.size ∨ k = w.heap.size + 1) Wf W9 := (hV2.mono (fun k _ h => .inl h)).trans hE2 (fun k _ h => .inr h)
                have hBf : Below w.heap.size w W9 := hBw3.trans (hF.below (by omega) (by intro q h1 h2; omega))
                rw [HE.out]
                refine ⟨_, rfl, ⟨.slice a2 ps2.length cap2, ps2, rfl, hs3.fr hF (by intro k hk; rcases hk with rfl | rfl; exact .inr (.inl ⟨by omega, by omega⟩); exact .inr (.inl ⟨by omega, by omega⟩)) (fun _ _ h => .inl h), hps2⟩, hBf⟩
          · have ir1 : ¬ (0 : Int) < (sz : Int) := by omega
            clear hmk hB0 hB2 k0 k1 hB hzB hpA hpR hrt hok2 ok1 hbs hrot
            go_wp2_with fail
            clear c0 c1 c2 c3 c4 c5 c6 c7
            have hdo : ∀ W, Below W0.heap.size W0 W → Calls Tryz.prog 66 #[.agg (dk5 room (.slice a ps.length cap) plan down), op5 2 (stV (nameB n)) (.string ⟨#[]⟩) (.slice ab b.length capb)] W fun e w' => ∃ v', e = .returned (.tuple #[v', .int .i64 (doA ⟨room, files, plan, down⟩ (.append b) (nameB n)).2]) ∧ Ref5 (fun k => M k ∨ (w.heap.size ≤ k ∧ k < w.heap.size + 2) ∨ (W0.heap.size ≤ k ∧ k < W.heap.size)) w' (doA ⟨room, files, plan, down⟩ (.append b) (nameB n)).1 v' ∧ Below W.heap.size W w' := fun W hW =>
              do5_any (M := (fun k => M k ∨ (w.heap.size ≤ k ∧ k < w.heap.size + 2) ∨ (W0.heap.size ≤ k ∧ k < W.heap.size))) ⟨room, files, plan, down⟩ _ W ⟨_, ps, rfl, hsQ.fr (F := fun _ => False) (Fr.of_below hW) (fun _ h => h.elim) (fun k hk h => by rcases h with h | h | h; exact .inl h; exact .inr h; exact absurd hk (by omega)), hpsQ⟩ (fun k hk => by have := hW.size; rcases hk with hk | hk | hk; have := hM k hk; omega; omega; exact hk.2) (.append b) (nameB n) _ _ ⟨hbQ.fr (F := fun _ => False) (Fr.of_below hW) (fun _ h => h.elim) (fun k hk h => by rcases h with h | h | h; exact .inl h; exact .inr h; exact absurd hk (by omega)), hbl⟩ (fun m h => by cases h) okQ.p0 okQ.p1 (by rw [nameB_length]; omega) okQ.files okQ.used
            have hnm := fun W (c0 c1 c2 c3 c4 c6 c7 : Value) => name8_any c0 c1 c2 c3 c4 c6 c7 n W okQ.n1 (by have h2 : n < 100 := okQ.n2; omega)
            have hszb : (sz : Int) + (b.length : Int) ≤ 9223372036854775807 := by have := okQ.size; simp only at this; omega
            have hwtb : (wt : Int) + 1 ≤ 9223372036854775807 := by have := okQ.wait; simp only at this; omega
            have HAP : Hid (RR = if (doA ⟨room, files, plan, down⟩ (.append b) (nameB n)).2 ≠ 0 then (⟨(doA ⟨room, files, plan, down⟩ (.append b) (nameB n)).1, most, n, sz, wt⟩, (doA ⟨room, files, plan, down⟩ (.append b) (nameB n)).2) else (⟨(doA ⟨room, files, plan, down⟩ (.append b) (nameB n)).1, most, n, sz + b.length, wt + 1⟩, 0)) := HRES.out
            obtain ⟨R1, hR1⟩ : ∃ R, doA ⟨room, files, plan, down⟩ (.append b) (nameB n) = R := ⟨_, rfl⟩
            rw [hR1] at hdo HAP
            clear hR1 HRES okQ
            unfold dk5 op5 stV at hdo
            generalize nameB n = nb at *
            have hl0 : w.heap.size < W0.heap.size := by omega
            have hSS : ∀ W, Below W0.heap.size W0 W → (Below W0.heap.size W0 W ∧ W.cell? ⟨w.heap.size, 0, none⟩ = some (.int .i64 room) ∧ W.cell? ⟨w.heap.size, 1, none⟩ = some (.slice a ps.length cap) ∧ W.cell? ⟨w.heap.size, 2, none⟩ = some (.int .i64 plan) ∧ W.cell? ⟨w.heap.size, 3, none⟩ = some (.bool down) ∧ W.cell? ⟨w.heap.size, 4, none⟩ = some (.int .i64 most) ∧ W.cell? ⟨w.heap.size, 5, none⟩ = some (.int .i64 (n : Int)) ∧ W.cell? ⟨w.heap.size, 6, none⟩ = some (.int .i64 (sz : Int)) ∧ W.cell? ⟨w.heap.size, 7, none⟩ = some (.int .i64 (wt : Int))) := fun W hW => ⟨hW, cells8 ((hW.block _ hl0).trans kq0)⟩
            have hAl : ∀ W C, Below W0.heap.size W0 W → Below W0.heap.size W0 (W.alloc C) := fun W C h => h.alloc h.size C
            have hSd : ∀ W, (Below W0.heap.size W0 W ∧ W.cell? ⟨w.heap.size, 0, none⟩ = some (.int .i64 room) ∧ W.cell? ⟨w.heap.size, 1, none⟩ = some (.slice a ps.length cap) ∧ W.cell? ⟨w.heap.size, 2, none⟩ = some (.int .i64 plan) ∧ W.cell? ⟨w.heap.size, 3, none⟩ = some (.bool down) ∧ W.cell? ⟨w.heap.size, 4, none⟩ = some (.int .i64 most) ∧ W.cell? ⟨w.heap.size, 5, none⟩ = some (.int .i64 (n : Int)) ∧ W.cell? ⟨w.heap.size, 6, none⟩ = some (.int .i64 (sz : Int)) ∧ W.cell? ⟨w.heap.size, 7, none⟩ = some (.int .i64 (wt : Int))) → Below W0.heap.size W0 W := fun W h => h.1
            have hTr : ∀ W W', (Below W0.heap.size W0 W ∧ W.cell? ⟨w.heap.size, 0, none⟩ = some (.int .i64 room) ∧ W.cell? ⟨w.heap.size, 1, none⟩ = some (.slice a ps.length cap) ∧ W.cell? ⟨w.heap.size, 2, none⟩ = some (.int .i64 plan) ∧ W.cell? ⟨w.heap.size, 3, none⟩ = some (.bool down) ∧ W.cell? ⟨w.heap.size, 4, none⟩ = some (.int .i64 most) ∧ W.cell? ⟨w.heap.size, 5, none⟩ = some (.int .i64 (n : Int)) ∧ W.cell? ⟨w.heap.size, 6, none⟩ = some (.int .i64 (sz : Int)) ∧ W.cell? ⟨w.heap.size, 7, none⟩ = some (.int .i64 (wt : Int))) → Below W.heap.size W W' → Below W0.heap.size W0 W' := fun W W' h k => h.1.trans (k.mono h.1.size)
            have hX2 : ∀ W' g c d e f, Below W0.heap.size W0 W' → W0.heap.size ≤ g → Below W0.heap.size W0 ((((W'.setCell ⟨g, 0, none⟩ c).setCell ⟨g, 1, none⟩ d).setCell ⟨g, 2, none⟩ e).setCell ⟨g, 3, none⟩ f) := fun W' g c d e f h hg => (((h.setCell hg c).setCell hg d).setCell hg e).setCell hg f
            have hSf0 := hSS W0.drew (Below.refl _ _).drew
            have hZz : ∀ W : World, (W.alloc (.cells #[.int .i64 0, .slice none 0 0, .int .i64 0, .bool false] 35)).heap[W.heap.size]? = some (.cells #[.int .i64 0, .slice none 0 0, .int .i64 0, .bool false] 35) := fun W => heap_alloc_new W _
            have hZl : ∀ W : World, W.heap.size < (W.alloc (.cells #[.int .i64 0, .slice none 0 0, .int .i64 0, .bool false] 35)).heap.size := fun W => by simp
            have HZ0 : Hid (w.heap.size + 1 < W0.heap.size) := hlQ
            clear hlQ hbQ hsQ hl0
            go_region_held3 (fun W => Below W0.heap.size W0 W ∧ W.cell? ⟨w.heap.size, 0, none⟩ = some (.int .i64 room) ∧ W.cell? ⟨w.heap.size, 1, none⟩ = some (.slice a ps.length cap) ∧ W.cell? ⟨w.heap.size, 2, none⟩ = some (.int .i64 plan) ∧ W.cell? ⟨w.heap.size, 3, none⟩ = some (.bool down) ∧ W.cell? ⟨w.heap.size, 4, none⟩ = some (.int .i64 most) ∧ W.cell? ⟨w.heap.size, 5, none⟩ = some (.int .i64 (n : Int)) ∧ W.cell? ⟨w.heap.size, 6, none⟩ = some (.int .i64 (sz : Int)) ∧ W.cell? ⟨w.heap.size, 7, none⟩ = some (.int .i64 (wt : Int))) (first | assumption | exact hSS _ (hAl _ _ (hSd _ (by assumption))) | exact hSS _ (hAl _ _ (Below.refl _ _)) | exact hSS _ (hX2 _ _ _ _ _ _ hS2.1 (by first | exact Nat.le_refl _ | exact hS1.1.size)) | exact hSS _ (hAl _ _ (Below.refl _ _)).drew)
              (first
                | (go_at_call 69; refine (hnm _ _ _ _ _ _ _ _).mono ?_; rintro e W1 ⟨rfl, hb1⟩; have hS1 := hSS W1 (hTr _ _ (by assumption) hb1); (first | (have hk1 := (hb1.block W0.heap.size (hZl W0)).trans (hZz W0); have hlt1 := Nat.lt_of_lt_of_le (hZl W0) hb1.size) | skip))
                | (go_at_call 66; refine (hdo _ (hSd _ (by assumption))).mono ?_; rintro e W2 ⟨v2, rfl, hr2, hb2⟩; obtain ⟨sv2, ps2, rfl, hs2, hps2⟩ := hr2; obtain ⟨a2, cap2, rfl, hn2', hc2, _, _⟩ := hs2.open; unfold dk5; have hS2 := hSS W2 (hTr _ _ (by assumption) hb2); (first | (have hk2 := (hb2.block W0.heap.size hlt1).trans hk1; clear hk1) | have hk2 := (hb2.block W1.heap.size (hZl W1)).trans (hZz W1) | skip); (try (obtain ⟨u0, u1, u2, u3⟩ := cells4 hk2; have hf0 := frozen_of_row _ _ 0 _ _ hk2; have hf1 := frozen_of_row _ _ 1 _ _ hk2; have hf2 := frozen_of_row _ _ 2 _ _ hk2; have hf3 := frozen_of_row _ _ 3 _ _ hk2))))
            all_goals
              first
                | (have hk3 := (set4 (a := .int .i64 R1.1.room) (b := .slice a2 ps2.length cap2) (c := .int .i64 R1.1.plan) (d := .bool R1.1.down) hk2).1
                   have hf3' := (set4 (a := .int .i64 R1.1.room) (b := .slice a2 ps2.length cap2) (c := .int .i64 R1.1.plan) (d := .bool R1.1.down) hk2).2
                   have hgle : W0.heap.size ≤ W0.heap.size := by first | exact Nat.le_refl _ | exact hS1.1.size
                   have hB3 := hX2 W2 W0.heap.size (.int .i64 R1.1.room) (.slice a2 ps2.length cap2) (.int .i64 R1.1.plan) (.bool R1.1.down) hS2.1 hgle
                   have hgw : w.heap.size + 1 < W0.heap.size := by have := HZ0.out; omega
                   generalize ((((W2.setCell ⟨W0.heap.size, 0, none⟩ (.int .i64 R1.1.room)).setCell ⟨W0.heap.size, 1, none⟩ (.slice a2 ps2.length cap2)).setCell ⟨W0.heap.size, 2, none⟩ (.int .i64 R1.1.plan)).setCell ⟨W0.heap.size, 3, none⟩ (.bool R1.1.down)) = Wf at *
                   have hs3 : SlF (fun k => M k ∨ (w.heap.size ≤ k ∧ k < w.heap.size + 2) ∨ k = W0.heap.size) Wf (.slice a2 ps2.length cap2) ps2 := hs2.fr hf3' (by intro k hk; have := hS1.1.size; have := HZ0.out; exact .inr (.inr ⟨by omega, by first | assumption | omega⟩)) (by intro k hk h; have := hS1.1.size; have := HZ0.out; rcases h with h | h | h; exact .inl h; exact .inr (.inl h); exact .inr (.inr ⟨by omega, by omega⟩))
                   have hgWf : W0.heap.size < Wf.heap.size := (Array.getElem?_eq_some_iff.1 hk3).1
                   have kk0 := (hB3.block w.heap.size (by have := HZ0.out; omega)).trans kq0
                   have kk1 := (hB3.block (w.heap.size + 1) (by have := HZ0.out; omega)).trans kq1
                   have hBw3 : Below w.heap.size w Wf := hBQ.trans (hB3.mono (by have := HZ0.out; omega))
                   generalize hgg : W0.heap.size = g at hk3 hgw hgWf hs3 ⊢)
                | (have hk3 := (set4 (a := .int .i64 R1.1.room) (b := .slice a2 ps2.length cap2) (c := .int .i64 R1.1.plan) (d := .bool R1.1.down) hk2).1
                   have hf3' := (set4 (a := .int .i64 R1.1.room) (b := .slice a2 ps2.length cap2) (c := .int .i64 R1.1.plan) (d := .bool R1.1.down) hk2).2
                   have hgle : W0.heap.size ≤ W1.heap.size := by first | exact Nat.le_refl _ | exact hS1.1.size
                   have hB3 := hX2 W2 W1.heap.size (.int .i64 R1.1.room) (.slice a2 ps2.length cap2) (.int .i64 R1.1.plan) (.bool R1.1.down) hS2.1 hgle
                   have hgw : w.heap.size + 1 < W1.heap.size := by have := HZ0.out; omega
                   generalize ((((W2.setCell ⟨W1.heap.size, 0, none⟩ (.int .i64 R1.1.room)).setCell ⟨W1.heap.size, 1, none⟩ (.slice a2 ps2.length cap2)).setCell ⟨W1.heap.size, 2, none⟩ (.int .i64 R1.1.plan)).setCell ⟨W1.heap.size, 3, none⟩ (.bool R1.1.down)) = Wf at *
                   have hs3 : SlF (fun k => M k ∨ (w.heap.size ≤ k ∧ k < w.heap.size + 2) ∨ k = W1.heap.size) Wf (.slice a2 ps2.length cap2) ps2 := hs2.fr hf3' (by intro k hk; have := hS1.1.size; have := HZ0.out; have := hZl W1; exact .inr (.inr ⟨by omega, by first | assumption | omega⟩)) (by intro k hk h; have := hS1.1.size; have := HZ0.out; have := hZl W1; rcases h with h | h | h; exact .inl h; exact .inr (.inl h); exact .inr (.inr ⟨by omega, by omega⟩))
                   have hgWf : W1.heap.size < Wf.heap.size := (Array.getElem?_eq_some_iff.1 hk3).1
                   have kk0 := (hB3.block w.heap.size (by have := HZ0.out; omega)).trans kq0
                   have kk1 := (hB3.block (w.heap.size + 1) (by have := HZ0.out; omega)).trans kq1
                   have hBw3 : Below w.heap.size w Wf := hBQ.trans (hB3.mono (by have := HZ0.out; omega))
                   generalize hgg : W1.heap.size = g at hk3 hgw hgWf hs3 ⊢)
                | (have hk3 := heap_alloc_new W2 (.cells #[.int .i64 R1.1.room, .slice a2 ps2.length cap2, .int .i64 R1.1.plan, .bool R1.1.down] 35)
                   have hgle : W0.heap.size ≤ W2.heap.size := hS2.1.size
                   have hB3 := hAl W2 (.cells #[.int .i64 R1.1.room, .slice a2 ps2.length cap2, .int .i64 R1.1.plan, .bool R1.1.down] 35) hS2.1
                   have hs3 : SlF (fun k => M k ∨ (w.heap.size ≤ k ∧ k < w.heap.size + 2) ∨ k = W2.heap.size) (W2.alloc (.cells #[.int .i64 R1.1.room, .slice a2 ps2.length cap2, .int .i64 R1.1.plan, .bool R1.1.down] 35)) (.slice a2 ps2.length cap2) ps2 := hs2.fr (F := fun _ => False) (Fr.of_below ((Below.refl _ _).alloc (Nat.le_refl _) _)) (fun _ h => h.elim) (by intro k hk h; rcases h with h | h | h; exact .inl h; exact .inr (.inl h); exact absurd h (by omega))
                   have hgw : w.heap.size + 1 < W2.heap.size := by have := HZ0.out; omega
                   generalize (W2.alloc (.cells #[.int .i64 R1.1.room, .slice a2 ps2.length cap2, .int .i64 R1.1.plan, .bool R1.1.down] 35)) = Wf at *
                   have hgWf : W2.heap.size < Wf.heap.size := (Array.getElem?_eq_some_iff.1 hk3).1
                   have kk0 := (hB3.block w.heap.size (by have := HZ0.out; omega)).trans kq0
                   have kk1 := (hB3.block (w.heap.size + 1) (by have := HZ0.out; omega)).trans kq1
                   have hBw3 : Below w.heap.size w Wf := hBQ.trans (hB3.mono (by have := HZ0.out; omega))
                   generalize hgg : W2.heap.size = g at hk3 hgw hgWf hs3 ⊢)
              clear hgg hSS hSd hAl hTr hX2 hSf0 hZz hZl hS1 hS2 hgle hB3 hs2
              rename_i hh
              clear hh
              clear hdo hnm hb1 hb2 kq0 kq1
              obtain ⟨u0, u1, u2, u3⟩ := cells4 hk3
              by_cases hcz : R1.2 = 0
              · have hcb : (R1.2 == 0) = true := by rw [hcz]; rfl
                have HE : Hid (RR = (⟨R1.1, most, n, sz + b.length, wt + 1⟩, 0)) := by show _ = _; rw [HAP.out, if_neg (by rw [hcz]; decide)]
                go_wp2_with (first
                  | ((with_reducible refine at_sto ?_); refine wpList_store_in rfl (ty := 35) (x := .tmp 65) (y := .tmp 64) rfl w.heap.size 0 37 (.agg #[.int .i64 R1.1.room, .slice a2 ps2.length cap2, .int .i64 R1.1.plan, .bool R1.1.down]) [.int .i64 room, .slice a ps.length cap, .int .i64 plan, .bool down, .int .i64 most, .int .i64 (n : Int), .int .i64 (sz : Int), .int .i64 (wt : Int)] rfl rfl kk0 (by simp [Value.cells]) size35 (by intro u hu; simp [Value.cells] at hu; rcases hu with rfl | rfl | rfl | rfl <;> rfl) ?_; intro W4 hV1 hV2 hV3; replace hV1 : W4.heap[w.heap.size]? = some (.cells #[.int .i64 R1.1.room, .slice a2 ps2.length cap2, .int .i64 R1.1.plan, .bool R1.1.down, .int .i64 most, .int .i64 (n : Int), .int .i64 (sz : Int), .int .i64 (wt : Int)] 37 (0, 0)) := hV1; obtain ⟨y0, y1, y2, y3, y4, y5, y6, y7⟩ := cells8 hV1; have kk1' := (hV2.block (w.heap.size + 1) (by omega) (by intro e; omega)).trans kk1)
                  | ((with_reducible refine at_sto ?_); refine wpList_store_in rfl (ty := 3) (x := .tmp 73)  rfl w.heap.size 6 37 (.int .i64 ((sz : Int) + (b.length : Int))) [.int .i64 R1.1.room, .slice a2 ps2.length cap2, .int .i64 R1.1.plan, .bool R1.1.down, .int .i64 most, .int .i64 (n : Int), .int .i64 (sz : Int), .int .i64 (wt : Int)] rfl rfl hV1 (by simp [Value.cells]) size134' (by intro u hu; simp [Value.cells] at hu; subst hu; rfl) ?_; intro W5 hQ1 hQ2 hQ3; replace hQ1 : W5.heap[w.heap.size]? = some (.cells #[.int .i64 R1.1.room, .slice a2 ps2.length cap2, .int .i64 R1.1.plan, .bool R1.1.down, .int .i64 most, .int .i64 (n : Int), .int .i64 ((sz : Int) + (b.length : Int)), .int .i64 (wt : Int)] 37 (0, 0)) := hQ1; obtain ⟨q0, q1, q2, q3, q4, q5, q6, q7⟩ := cells8 hQ1; have n1 := (hQ2.block (w.heap.size + 1) (by omega) (by intro e; omega)).trans kk1')
                  | ((with_reducible refine at_sto ?_); refine wpList_store_in rfl (ty := 3) (x := .tmp 77)  rfl w.heap.size 7 37 (.int .i64 ((wt : Int) + 1)) [.int .i64 R1.1.room, .slice a2 ps2.length cap2, .int .i64 R1.1.plan, .bool R1.1.down, .int .i64 most, .int .i64 (n : Int), .int .i64 ((sz : Int) + (b.length : Int)), .int .i64 (wt : Int)] rfl rfl hQ1 (by simp [Value.cells]) size134' (by intro u hu; simp [Value.cells] at hu; subst hu; rfl) ?_; intro W6 hR1 hR2 hR3; replace hR1 : W6.heap[w.heap.size]? = some (.cells #[.int .i64 R1.1.room, .slice a2 ps2.length cap2, .int .i64 R1.1.plan, .bool R1.1.down, .int .i64 most, .int .i64 (n : Int), .int .i64 ((sz : Int) + (b.length : Int)), .int .i64 ((wt : Int) + 1)] 37 (0, 0)) := hR1; obtain ⟨r0, r1, r2, r3, r4, r5, r6, r7⟩ := cells8 hR1; have n2 := (hR2.block (w.heap.size + 1) (by omega) (by intro e; omega)).trans n1)
                  | ((with_reducible refine at_sto ?_); refine wpList_store_in rfl (ty := 37) (x := .tmp 4) (y := .tmp 78) rfl (w.heap.size + 1) 0 37 (.agg #[.int .i64 R1.1.room, .slice a2 ps2.length cap2, .int .i64 R1.1.plan, .bool R1.1.down, .int .i64 most, .int .i64 (n : Int), .int .i64 ((sz : Int) + (b.length : Int)), .int .i64 ((wt : Int) + 1)]) [.int .i64 0, .slice none 0 0, .int .i64 0, .bool false, .int .i64 0, .int .i64 0, .int .i64 0, .int .i64 0] rfl rfl n2 (by simp [Value.cells]) size37 (by intro u hu; simp [Value.cells] at hu; rcases hu with rfl | rfl | rfl | rfl | rfl | rfl | rfl | rfl <;> rfl) ?_; intro W9 hE1 hE2 hE3; replace hE1 : W9.heap[(w.heap.size + 1)]? = some (.cells #[.int .i64 R1.1.room, .slice a2 ps2.length cap2, .int .i64 R1.1.plan, .bool R1.1.down, .int .i64 most, .int .i64 (n : Int), .int .i64 ((sz : Int) + (b.length : Int)), .int .i64 ((wt : Int) + 1)] 37 (0, 0)) := hE1))
                refine bodyPost_ret (results_cell_row_tmp (fr := (0, 0)) Tryz.results19 _ _ (w.heap.size + 1) 37 _ _ rfl hE1 Tryz.underlying37 rfl (by kernel_rfl)) rfl ?_
                have hF : Fr (fun k => k = w.heap.size ∨ k = w.heap.size + 1) Wf W9 := (((hV2.mono (fun k _ h => .inl h)).trans hQ2 (fun k _ h => .inl h)).trans hR2 (fun k _ h => .inl h)).trans hE2 (fun k _ h => .inr h)
                have hBf : Below w.heap.size w W9 := hBw3.trans (hF.below (by omega) (by intro q h1 h2; omega))
                rw [HE.out]
                refine ⟨_, rfl, ⟨.slice a2 ps2.length cap2, ps2, by show _ = Value.agg (lg8 _ _ _ _ _ _ ((sz + b.length : Nat)) ((wt + 1 : Nat))); unfold lg8; rw [show ((sz + b.length : Nat) : Int) = (sz : Int) + (b.length : Int) by omega, show ((wt + 1 : Nat) : Int) = (wt : Int) + 1 by omega], hs3.fr hF (by intro k hk; rcases hk with rfl | rfl; exact .inr (.inl ⟨by omega, by omega⟩); exact .inr (.inl ⟨by omega, by omega⟩)) (fun _ _ h => .inl h), hps2⟩, hBf⟩
              · have hcb : (R1.2 == 0) = false := by simpa using hcz
                have HE : Hid (RR = (⟨R1.1, most, n, sz, wt⟩, R1.2)) := by show _ = _; rw [HAP.out, if_pos hcz]
                go_wp2_with (first
                  | ((with_reducible refine at_sto ?_); refine wpList_store_in rfl (ty := 35) (x := .tmp 65) (y := .tmp 64) rfl w.heap.size 0 37 (.agg #[.int .i64 R1.1.room, .slice a2 ps2.length cap2, .int .i64 R1.1.plan, .bool R1.1.down]) [.int .i64 room, .slice a ps.length cap, .int .i64 plan, .bool down, .int .i64 most, .int .i64 (n : Int), .int .i64 (sz : Int), .int .i64 (wt : Int)] rfl rfl kk0 (by simp [Value.cells]) size35 (by intro u hu; simp [Value.cells] at hu; rcases hu with rfl | rfl | rfl | rfl <;> rfl) ?_; intro W4 hV1 hV2 hV3; replace hV1 : W4.heap[w.heap.size]? = some (.cells #[.int .i64 R1.1.room, .slice a2 ps2.length cap2, .int .i64 R1.1.plan, .bool R1.1.down, .int .i64 most, .int .i64 (n : Int), .int .i64 (sz : Int), .int .i64 (wt : Int)] 37 (0, 0)) := hV1; obtain ⟨y0, y1, y2, y3, y4, y5, y6, y7⟩ := cells8 hV1; have kk1' := (hV2.block (w.heap.size + 1) (by omega) (by intro e; omega)).trans kk1)
                  | ((with_reducible refine at_sto ?_); refine wpList_store_in rfl (ty := 37) (x := .tmp 4) (y := .tmp 78) rfl (w.heap.size + 1) 0 37 (.agg #[.int .i64 R1.1.room, .slice a2 ps2.length cap2, .int .i64 R1.1.plan, .bool R1.1.down, .int .i64 most, .int .i64 (n : Int), .int .i64 (sz : Int), .int .i64 (wt : Int)]) [.int .i64 0, .slice none 0 0, .int .i64 0, .bool false, .int .i64 0, .int .i64 0, .int .i64 0, .int .i64 0] rfl rfl kk1' (by simp [Value.cells]) size37 (by intro u hu; simp [Value.cells] at hu; rcases hu with rfl | rfl | rfl | rfl | rfl | rfl | rfl | rfl <;> rfl) ?_; intro W9 hE1 hE2 hE3; replace hE1 : W9.heap[(w.heap.size + 1)]? = some (.cells #[.int .i64 R1.1.room, .slice a2 ps2.length cap2, .int .i64 R1.1.plan, .bool R1.1.down, .int .i64 most, .int .i64 (n : Int), .int .i64 (sz : Int), .int .i64 (wt : Int)] 37 (0, 0)) := hE1))
                refine bodyPost_ret (results_cell_row_tmp (fr := (0, 0)) Tryz.results19 _ _ (w.heap.size + 1) 37 _ _ rfl hE1 Tryz.underlying37 rfl (by kernel_rfl)) rfl ?_
                have hF : Fr (fun k => k = w.heap.size ∨ k = w.heap.size + 1) Wf W9 := (hV2.mono (fun k _ h => .inl h)).trans hE2 (fun k _ h => .inr h)
                have hBf : Below w.heap.size w W9 := hBw3.trans (hF.below (by omega) (by intro q h1 h2; omega))
                rw [HE.out]
                refine ⟨_, rfl, ⟨.slice a2 ps2.length cap2, ps2, rfl, hs3.fr hF (by intro k hk; rcases hk with rfl | rfl; exact .inr (.inl ⟨by omega, by omega⟩); exact .inr (.inl ⟨by omega, by omega⟩)) (fun _ _ h => .inl h), hps2⟩, hBf⟩

end Go.Proofs.YtepceidajmedeaaGreatDoor
