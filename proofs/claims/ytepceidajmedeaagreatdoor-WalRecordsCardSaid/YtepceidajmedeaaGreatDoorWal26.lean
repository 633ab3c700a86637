/- Lemmas for a law of this seat, part 26: contracts of the functions that it reaches, and the plain law. No condition but those of each lemma. -/
import Derived.Test.YtepceidajmedeaaGreatDoorWal9
import Derived.Test.YtepceidajmedeaaGreatDoorWal12
import Derived.Test.YtepceidajmedeaaGreatDoorWal5
import Derived.Laws.ResultCell

namespace Go.Proofs.YtepceidajmedeaaGreatDoor
open Go.RowKit CW

theorem results_cell_row_tmp {P : Program} {fn : Func} {p u : Tmp} {ty : TypeId} (h : fn.results = #[.cell p ty, .tmp u]) (tmps : Array Value) (w : World) (g : Nat) (t : TypeId) (cs : Array Value) (fr : Nat × Nat) (d : TypeDesc)
    (hp : tmps.getD p undef = .pointer (some ⟨g, 0, none⟩)) (hg : w.heap[g]? = some (.cells cs t fr))
    (hu : P.underlying ty = some d) (hd : (match d with | .struct _ | .array _ _ => true | _ => false) = true) (hi : (P.info? ty).map (·.size) = some cs.size) :
    (results fn tmps).run P w = .ok (.tuple #[.agg cs, tmps.getD u undef]) w := by
  rw [results_cell_tmp h, hp]
  simp [asAddr, run_loadVar_row w g t ty cs fr d hg hu hd hi, Result.andThen]

/-- The cells of a file. -/
def cellF (p : FileA × Value) : List Value := [stV p.1.name, p.2, .int .i64 (p.1.dur : Int)]
def cellsF (ps : List (FileA × Value)) : List Value := ps.flatMap cellF

theorem cellsF_len (ps : List (FileA × Value)) : (cellsF ps).length = ps.length * 3 := by
  induction ps with
  | nil => rfl
  | cons p ps ih => rw [cellsF, List.flatMap_cons, List.length_append, ← cellsF, ih, List.length_cons]; simp [cellF]; omega

theorem cellsF_get (ps : List (FileA × Value)) (i c : Nat) (h : i < ps.length) (hc : c < 3) : (cellsF ps)[i * 3 + c]? = (cellF ps[i])[c]? := by
  induction ps generalizing i with
  | nil => simp at h
  | cons p ps ih =>
    rw [cellsF, List.flatMap_cons, ← cellsF]
    have hl : (cellF p).length = 3 := rfl
    cases i with
    | zero =>
      rw [List.getElem?_append_left (by omega)]
      simp
    | succ i =>
      rw [List.getElem?_append_right (by omega), hl, show (i + 1) * 3 + c - 3 = i * 3 + c by omega, ih i (by simpa using h)]
      simp

theorem cellsF_append (ps qs : List (FileA × Value)) : cellsF (ps ++ qs) = cellsF ps ++ cellsF qs := List.flatMap_append

theorem cellsF_take (ps : List (FileA × Value)) (k : Nat) (h : k ≤ ps.length) : (cellsF ps).take (k * 3) = cellsF (ps.take k) := by
  conv => lhs; rw [← List.take_append_drop k ps]
  rw [cellsF_append, List.take_append_of_le_length (by rw [cellsF_len, List.length_take]; omega), List.take_of_length_le (by rw [cellsF_len, List.length_take]; omega)]
theorem cellsF_drop (ps : List (FileA × Value)) (k : Nat) (h : k ≤ ps.length) : (cellsF ps).drop (k * 3) = cellsF (ps.drop k) := by
  conv => lhs; rw [← List.take_append_drop k ps]
  have : (cellsF (ps.take k)).length = k * 3 := by rw [cellsF_len, List.length_take]; omega
  rw [cellsF_append, ← this, List.drop_left]

theorem cellsF_one (ps : List (FileA × Value)) (h : ∀ p ∈ ps, p.2.oneCell' = true) : ∀ u ∈ cellsF ps, u.oneCell' = true := by
  intro u hu
  obtain ⟨p, hp, hu⟩ := List.mem_flatMap.1 hu
  simp only [cellF, List.mem_cons, List.not_mem_nil, or_false] at hu
  rcases hu with rfl | rfl | rfl
  · rfl
  · exact h p hp
  · rfl

/-- What the slices of some files show. -/
def ShowF (M : Nat → Prop) (w : World) (ps : List (FileA × Value)) : Prop := ∀ p ∈ ps, SlB M w p.2 p.1.b

theorem ShowF.one {M : Nat → Prop} {w : World} {ps : List (FileA × Value)} (h : ShowF M w ps) : ∀ p ∈ ps, p.2.oneCell' = true := by
  intro p hp
  obtain ⟨a, cap, e, _⟩ := (h p hp).shape
  rw [e]
  rfl
theorem ShowF.fr {M M' F : Nat → Prop} {w w' : World} {ps : List (FileA × Value)} (h : ShowF M w ps) (hf : Fr F w w') (hF : ∀ k, F k → M k) (hM : ∀ k, k < w.heap.size → M' k → M k) : ShowF M' w' ps := fun p hp => (h p hp).fr hf hF hM
theorem ShowF.below {M : Nat → Prop} {w w' : World} {ps : List (FileA × Value)} (h : ShowF M w ps) (hf : Below w.heap.size w w') : ShowF M w' ps := fun p hp => (h p hp).below hf
theorem ShowF.append {M : Nat → Prop} {w : World} {ps qs : List (FileA × Value)} (h : ShowF M w ps) (k : ShowF M w qs) : ShowF M w (ps ++ qs) := fun p hp => (List.mem_append.1 hp).elim (h p) (k p)
theorem ShowF.take {M : Nat → Prop} {w : World} {ps : List (FileA × Value)} (h : ShowF M w ps) (k : Nat) : ShowF M w (ps.take k) := fun p hp => h p (List.mem_of_mem_take hp)
theorem ShowF.drop {M : Nat → Prop} {w : World} {ps : List (FileA × Value)} (h : ShowF M w ps) (k : Nat) : ShowF M w (ps.drop k) := fun p hp => h p (List.mem_of_mem_drop hp)

/-- A slice of files: some files, whose slices of bytes are given. -/
def SlF (M : Nat → Prop) (w : World) (v : Value) (ps : List (FileA × Value)) : Prop := Row M w v ps.length (cellsF ps) ∧ ShowF M w ps
theorem SlF.fr {M M' F : Nat → Prop} {w w' : World} {v : Value} {ps : List (FileA × Value)} (h : SlF M w v ps) (hf : Fr F w w') (hF : ∀ k, F k → M k) (hM : ∀ k, k < w.heap.size → M' k → M k) : SlF M' w' v ps := ⟨h.1.fr hf hF hM, h.2.fr hf hF hM⟩
theorem SlF.below {M : Nat → Prop} {w w' : World} {v : Value} {ps : List (FileA × Value)} (h : SlF M w v ps) (hf : Below w.heap.size w w') : SlF M w' v ps := ⟨h.1.below hf, h.2.below hf⟩

theorem SlF.any {M : Nat → Prop} {w : World} {v : Value} {ps : List (FileA × Value)} (h : SlF M w v ps) : SlF (fun _ => False) w v ps := h.fr (F := fun _ => False) (Fr.refl _ _) (fun _ h => h.elim) (fun _ _ h => h.elim)

/-- A slice of files, opened. -/
theorem SlF.open {M : Nat → Prop} {w : World} {v : Value} {ps : List (FileA × Value)} (h : SlF M w v ps) :
    ∃ a cap, v = .slice a ps.length cap ∧ ps.length ≤ cap ∧ cap ≤ 9223372036854775807 ∧ (a = none → ps.length = 0 ∧ cap = 0) ∧
      (0 < ps.length → ∃ b off, a = some ⟨b, off, none⟩ ∧ b < w.heap.size ∧ ¬ M b ∧ ∀ i (hi : i < ps.length), w.cell? ⟨b, off + i * 3, none⟩ = some (stV ps[i].1.name) ∧ w.cell? ⟨b, off + (i * 3 + 1), none⟩ = some ps[i].2 ∧ w.cell? ⟨b, off + (i * 3 + 2), none⟩ = some (.int .i64 (ps[i].1.dur : Int))) := by
  obtain ⟨a, cap, rfl, hn, hc, hnone, hcell⟩ := h.1.open
  refine ⟨a, cap, rfl, hn, hc, hnone, fun hp => ?_⟩
  obtain ⟨b, off, rfl, hb, hm, hcell⟩ := hcell hp
  refine ⟨b, off, rfl, hb, hm, fun i hi => ⟨hcell (i * 3) _ ?_, hcell (i * 3 + 1) _ ?_, hcell (i * 3 + 2) _ ?_⟩⟩
  · have := cellsF_get ps i 0 hi (by omega); rw [Nat.add_zero] at this; rw [this]; rfl
  · rw [cellsF_get ps i 1 hi (by omega)]; rfl
  · rw [cellsF_get ps i 2 hi (by omega)]; rfl

end Go.Proofs.YtepceidajmedeaaGreatDoor

namespace Go.Proofs.YtepceidajmedeaaGreatDoor
open Go.RowKit CW

def dk5 (room : Int) (v : Value) (plan : Int) (down : Bool) : Array Value := #[.int .i64 room, v, .int .i64 plan, .bool down]
def ixZ : Option Nat → Int
  | some i => (i : Int)
  | none => -1
abbrev nm (p : FileA × Value) : Bytes := p.1.name

set_option maxHeartbeats 1000000 in
theorem find5_any (room plan : Int) (down : Bool) (v : Value) (ps : List (FileA × Value)) (n : Bytes) (w : World) (hv : SlF (fun _ => False) w v ps) :
    Calls Tryz.prog 75 #[.agg (dk5 room v plan down), stV n] w fun e w' => e = .returned (.int .i64 (ixZ (findK nm ps n))) ∧ Below w.heap.size w w' := by
  obtain ⟨a, cap, rfl, hn, hc, hnone, hcell⟩ := hv.open
  unfold dk5 stV
  go_enter Tryz.func75, Tryz.ntmps75
  go_wp2
  go_loopw [5] (fun i wr => ∃ k : Nat, k ≤ ps.length ∧ i = .int .i64 k ∧ Hid (∀ j (h : j < ps.length), j < k → ps[j].1.name ≠ n) ∧ wr = w.alloc (.cells #[.int .i64 room, .slice a ps.length cap, .int .i64 plan, .bool down] 35)) (fun i _ => ps.length - (intOf i).toNat)
  case atStart => exact ⟨0, by omega, rfl, (fun j _ h => absurd h (Nat.not_lt_zero _)), rfl⟩
  case round =>
    obtain ⟨k, hk, rfl, hnot, rfl⟩ := hrel
    by_cases hlt : k < ps.length
    · obtain ⟨b, off, rfl, hbl, _, hcc⟩ := hcell (by omega)
      obtain ⟨c1, _, _⟩ := hcc k hlt
      have hb := (Below.refl w.heap.size w).alloc (Nat.le_refl _) (.cells #[.int .i64 room, .slice (some ⟨b, off, none⟩) ps.length cap, .int .i64 plan, .bool down] 35)
      have c1' := (hb.cell (p := ⟨b, off + k * 3, none⟩) hbl).trans c1
      clear c1
      unfold stV at c1'
      have i1 : (k : Int) < (ps.length : Int) := by omega
      by_cases hx : ps[k].1.name = n
      · have HF : Hid (findK nm ps n = some k) := by
          show _ = _
          rw [findK, List.findIdx?_eq_some_iff_getElem]
          exact ⟨hlt, by simpa [nm] using hx, fun j hj => by simpa [nm] using hnot.out j (by omega) hj⟩
        rw [hx] at c1'
        clear hcc hcell hx
        go_wp2
        go_ret
        exact ⟨by rw [HF.out] <;> rfl, hb⟩
      · have hd : (ps[k].1.name == n) = false := by simpa using hx
        have HN : Hid (∀ j (h : j < ps.length), j < k + 1 → ps[j].1.name ≠ n) := by
          intro j h hj
          rcases Nat.lt_or_ge j k with h2 | h2
          · exact hnot.out j h h2
          · obtain rfl : j = k := by omega
            exact hx
        generalize ps[k].1.name = y at *
        clear hcc hcell hx
        go_wp2
        go_roundw
        case rel => exact ⟨k + 1, by omega, by go_num, HN, trivial⟩
        case measure => simp [intOf]; omega
    · have HF : Hid (findK nm ps n = none) := by
        show _ = _
        rw [findK_none]
        intro p hp
        obtain ⟨j, hj, rfl⟩ := List.mem_iff_getElem.1 hp
        exact hnot.out j hj (by omega)
      go_wp2
      go_ret
      exact ⟨by rw [HF.out] <;> rfl, (Below.refl w.heap.size w).alloc (Nat.le_refl _) _⟩

def usedP (ps : List (FileA × Value)) : Nat := (ps.map (fun p => p.1.b.length)).sum
theorem usedP_take (ps : List (FileA × Value)) (k : Nat) (h : k < ps.length) : usedP (ps.take (k + 1)) = usedP (ps.take k) + ps[k].1.b.length := by
  unfold usedP
  rw [List.take_succ_eq_append_getElem h, List.map_append, List.sum_append]
  simp
theorem usedP_le (ps : List (FileA × Value)) (k : Nat) : usedP (ps.take k) ≤ usedP ps := by
  unfold usedP
  conv => rhs; rw [← List.take_append_drop k ps, List.map_append, List.sum_append]
  omega
theorem usedP_eq (ps : List (FileA × Value)) : usedP ps = usedF (ps.map (·.1)) := by simp [usedP, usedF, List.map_map, Function.comp_def]

set_option maxHeartbeats 1000000 in
theorem used5_any (room plan : Int) (down : Bool) (v : Value) (ps : List (FileA × Value)) (w : World) (hv : SlF (fun _ => False) w v ps) (hu : usedP ps ≤ 4611686018427387904) :
    Calls Tryz.prog 52 #[.agg (dk5 room v plan down)] w fun e w' => e = .returned (.int .i64 (usedP ps : Nat)) ∧ Below w.heap.size w w' := by
  obtain ⟨a, cap, rfl, hn, hc, hnone, hcell⟩ := hv.open
  unfold dk5
  have HU : Hid (usedP ps ≤ 4611686018427387904) := hu
  clear hu
  go_enter Tryz.func52, Tryz.ntmps52
  go_wp2
  go_loopw [3, 4] (fun n i wr => ∃ k : Nat, k ≤ ps.length ∧ i = .int .i64 k ∧ n = .int .i64 (usedP (ps.take k) : Nat) ∧ wr = w.alloc (.cells #[.int .i64 room, .slice a ps.length cap, .int .i64 plan, .bool down] 35)) (fun _ i _ => ps.length - (intOf i).toNat)
  case atStart => exact ⟨0, by omega, rfl, rfl, rfl⟩
  case round =>
    obtain ⟨k, hk, rfl, rfl, rfl⟩ := hrel
    by_cases hlt : k < ps.length
    · obtain ⟨b, off, rfl, hbl, _, hcc⟩ := hcell (by omega)
      obtain ⟨_, c1, _⟩ := hcc k hlt
      have hb := (Below.refl w.heap.size w).alloc (Nat.le_refl _) (.cells #[.int .i64 room, .slice (some ⟨b, off, none⟩) ps.length cap, .int .i64 plan, .bool down] 35)
      have c1' := (hb.cell (p := ⟨b, off + (k * 3 + 1), none⟩) hbl).trans c1
      clear c1
      have hsh := hv.2 ps[k] (List.getElem_mem hlt)
      obtain ⟨a2, cap2, hsv, hs1, hs2⟩ := hsh.shape
      rw [hsv] at c1'
      have HT : Hid (usedP (ps.take (k + 1)) = usedP (ps.take k) + ps[k].1.b.length) := usedP_take ps k hlt
      have hle : usedP (ps.take (k + 1)) ≤ 4611686018427387904 := Nat.le_trans (usedP_le ps (k + 1)) HU.out
      have hle2 := HT.out ▸ hle
      clear hle hsv hsh hcc hcell
      generalize ps[k].1.b.length = m at *
      generalize usedP (ps.take k) = u at *
      have i1 : (k : Int) < (ps.length : Int) := by omega
      rw [show off + (k * 3 + 1) = off + k * 3 + 1 by omega] at c1'
      go_wp2
      go_roundw
      case rel => exact ⟨k + 1, by omega, by go_num, by rw [HT.out] <;> go_num, trivial⟩
      case measure => simp [intOf]; omega
    · have htk : ps.take k = ps := List.take_of_length_le (by omega)
      rw [htk] at *
      go_wp2
      go_ret
      exact ⟨rfl, (Below.refl w.heap.size w).alloc (Nat.le_refl _) _⟩

theorem tyS : SlTy Tryz.prog 47 9 1 16 (.string ⟨#[]⟩) := SlTy.mk' Tryz.underlying47 (by kernel_rfl) rfl (by decide)
theorem tyF : SlTy Tryz.prog 33 121 3 48 (.agg #[.string ⟨#[]⟩, .slice none 0 0, .int .i64 0]) := SlTy.mk' Tryz.underlying33 (by kernel_rfl) rfl (by decide)

def namesV (ps : List (FileA × Value)) : List Value := ps.map (fun p => stV p.1.name)
theorem namesV_take (ps : List (FileA × Value)) (k : Nat) (h : k < ps.length) : namesV (ps.take (k + 1)) = namesV (ps.take k) ++ [stV ps[k].1.name] := by
  unfold namesV
  rw [List.take_succ_eq_append_getElem h, List.map_append]
  rfl

set_option maxHeartbeats 1000000 in
theorem names5_any (room plan : Int) (down : Bool) (v : Value) (ps : List (FileA × Value)) (w : World) (hv : SlF (fun _ => False) w v ps) (hl : ps.length ≤ 1048576) :
    Calls Tryz.prog 50 #[.agg (dk5 room v plan down)] w fun e w' => ∃ v', e = .returned v' ∧ w'.ownsRow w.heap.size 9 1 v' ps.length (namesV ps) ∧ Below w.heap.size w w' := by
  obtain ⟨a, cap, rfl, hn, hc, hnone, hcell⟩ := hv.open
  unfold dk5
  go_enter Tryz.func50, Tryz.ntmps50
  go_wp2
  have hbb : ∀ C, Below w.heap.size w (w.alloc C) := fun C => (Below.refl w.heap.size w).alloc (Nat.le_refl _) C
  have hsz : ∀ C, (w.alloc C).heap.size = w.heap.size + 1 := fun C => by simp
  have hbx : ∀ C, (w.alloc C).heap[w.heap.size]? = some C := fun C => by show (w.heap.push C)[w.heap.size]? = _; simp
  go_loopw [3, 4] (fun out i wr => ∃ k : Nat, k ≤ ps.length ∧ i = .int .i64 k ∧ wr.ownsRow (w.heap.size + 1) 9 1 out k (namesV (ps.take k)) ∧ Hid (Below (w.heap.size + 1) (w.alloc (.cells #[.int .i64 room, .slice a ps.length cap, .int .i64 plan, .bool down] 35)) wr)) (fun _ i _ => ps.length - (intOf i).toNat)
  case atStart => exact ⟨0, by omega, rfl, World.ownsRow_nil _ _ _ _, Below.refl _ _⟩
  case round =>
    obtain ⟨k, hk, rfl, hown, hB⟩ := hrel
    have hw1 := hbb (.cells #[.int .i64 room, .slice a ps.length cap, .int .i64 plan, .bool down] 35)
    have hx1 := hbx (.cells #[.int .i64 room, .slice a ps.length cap, .int .i64 plan, .bool down] 35)
    have hz1 := hsz (.cells #[.int .i64 room, .slice a ps.length cap, .int .i64 plan, .bool down] 35)
    clear hbb hbx hsz
    generalize hW : w.alloc (.cells #[.int .i64 room, .slice a ps.length cap, .int .i64 plan, .bool down] 35) = W1 at *
    clear hW
    have hB' := hB.out
    have hsz' : w.heap.size + 1 ≤ wr.heap.size := by have := hB'.size; omega
    have hx2 : wr.heap[w.heap.size]? = some (.cells #[.int .i64 room, .slice a ps.length cap, .int .i64 plan, .bool down] 35) := (hB'.block _ (by omega)).trans hx1
    have cbx : wr.cell? ⟨w.heap.size, 1, none⟩ = some (.slice a ps.length cap) := by
      rw [Go.cell_of_row _ w.heap.size 1 _ _ _ hx2]; rfl
    have hBw : Below w.heap.size w wr := hw1.trans (hB'.mono (by omega))
    by_cases hlt : k < ps.length
    · obtain ⟨b, off, rfl, hbl, _, hcc⟩ := hcell (by omega)
      obtain ⟨c1, _, _⟩ := hcc k hlt
      have c1' := (hBw.cell (p := ⟨b, off + k * 3, none⟩) hbl).trans c1
      have HT : Hid (namesV (ps.take (k + 1)) = namesV (ps.take k) ++ [stV ps[k].1.name]) := namesV_take ps k hlt
      clear c1 hcc hcell
      unfold stV at c1'
      generalize ps[k].1.name = y at *
      generalize namesV (ps.take k) = zs at *
      have i1 : (k : Int) < (ps.length : Int) := by omega
      go_wp2_with (at_builtin; refine wpList_app tyS rfl rfl rfl rfl (hown.alloc _) (Row.lit1 wr (.string ⟨y.toArray⟩) 9) rfl (by intro u hu; simp at hu; subst hu; rfl) (by unfold maxLen; omega) (by omega) (by simp; omega) ?_; intro v2 w2 ho2 hg2)
      have hb3 : Below (w.heap.size + 1) W1 w2 := (hB'.alloc hsz' _).trans (below_grown (hown.alloc _) hg2 (by simp; omega))
      go_roundw
      case rel => exact ⟨k + 1, by omega, by go_num, by rw [HT.out]; exact ho2, hb3⟩
      case measure => simp [intOf]; omega
    · have htk : ps.take k = ps := List.take_of_length_le (by omega)
      have hkl : k = ps.length := by omega
      rw [htk, hkl] at hown
      go_wp2
      go_ret
      exact ⟨_, rfl, owns_base hown (by omega), hBw⟩

theorem withoutK_take (ps : List (FileA × Value)) (n : Bytes) (k : Nat) (h : k < ps.length) : withoutK nm (ps.take (k + 1)) n = withoutK nm (ps.take k) n ++ (if ps[k].1.name = n then [] else [ps[k]]) := by
  unfold withoutK
  rw [List.take_succ_eq_append_getElem h, List.filter_append]
  congr 1
  by_cases hx : ps[k].1.name = n <;> simp [nm, hx]

/-- A literal of one file. -/
theorem Row.litF (w : World) (p : FileA × Value) (e : TypeId) : Row (fun _ => False) (w.alloc (.cells #[.string ⟨p.1.name.toArray⟩, p.2, .int .i64 (p.1.dur : Int)] e)) (.slice (some ⟨w.heap.size, 0, none⟩) 1 1) 1 (cellsF [p]) :=
  (Row.lit (size := 3) (Nat.le_refl _) (by decide) rfl rfl).mono (fun _ _ h => h.elim)

set_option maxHeartbeats 2000000 in
theorem without_any (v : Value) (ps : List (FileA × Value)) (n : Bytes) (w : World) (hv : SlF (fun _ => False) w v ps) (hl : ps.length ≤ 1048576) :
    Calls Tryz.prog 131 #[v, stV n] w fun e w' => ∃ v', e = .returned v' ∧ w'.ownsRow w.heap.size 121 3 v' (withoutK nm ps n).length (cellsF (withoutK nm ps n)) ∧ Below w.heap.size w w' := by
  obtain ⟨a, cap, rfl, hn, hc, hnone, hcell⟩ := hv.open
  unfold stV
  go_enter Tryz.func131, Tryz.ntmps131
  go_wp2
  go_loopw [5, 6] (fun out i wr => ∃ k : Nat, k ≤ ps.length ∧ i = .int .i64 k ∧ wr.ownsRow w.heap.size 121 3 out (withoutK nm (ps.take k) n).length (cellsF (withoutK nm (ps.take k) n)) ∧ Below w.heap.size w wr) (fun _ i _ => ps.length - (intOf i).toNat)
  case atStart => exact ⟨0, by omega, rfl, World.ownsRow_nil _ _ _ _, Below.refl _ _⟩
  case round =>
    obtain ⟨k, hk, rfl, hown, hB⟩ := hrel
    by_cases hlt : k < ps.length
    · obtain ⟨b, off, rfl, hbl, _, hcc⟩ := hcell (by omega)
      obtain ⟨c1, c2, c3⟩ := hcc k hlt
      have c1' := (hB.cell (p := ⟨b, off + k * 3, none⟩) hbl).trans c1
      have c2' := (hB.cell (p := ⟨b, off + (k * 3 + 1), none⟩) hbl).trans c2
      have c3' := (hB.cell (p := ⟨b, off + (k * 3 + 2), none⟩) hbl).trans c3
      rw [show off + (k * 3 + 1) = off + k * 3 + 1 by omega] at c2'
      rw [show off + (k * 3 + 2) = off + k * 3 + 2 by omega] at c3'
      have HT : Hid (withoutK nm (ps.take (k + 1)) n = withoutK nm (ps.take k) n ++ (if ps[k].1.name = n then [] else [ps[k]])) := withoutK_take ps n k hlt
      have hnl : (withoutK nm (ps.take k) n).length ≤ 1048576 := Nat.le_trans (withoutK_len _ _) (by rw [List.length_take]; omega)
      obtain ⟨a2, cap2, hsv, hs1, hs2⟩ := (hv.2 ps[k] (List.getElem_mem hlt)).shape
      clear c1 c2 c3 hcc hcell
      unfold stV at c1'
      have i1 : (k : Int) < (ps.length : Int) := by omega
      generalize hq : ps[k] = q at *
      clear hq
      generalize withoutK nm (ps.take k) n = zs at *
      by_cases hx : q.1.name = n
      · have HT2 : Hid (withoutK nm (ps.take (k + 1)) n = zs) := by show _ = _; rw [HT.out, if_pos hx, List.append_nil]
        clear HT
        rw [hx] at c1'
        clear hx
        go_wp2
        go_roundw
        case rel => exact ⟨k + 1, by omega, by go_num, by rw [HT2.out]; exact hown, hB⟩
        case measure => simp [intOf]; omega
      · have HT2 : Hid (withoutK nm (ps.take (k + 1)) n = zs ++ [q]) := by show _ = _; rw [HT.out, if_neg hx]
        have hd : (q.1.name == n) = false := by simpa using hx
        have hone : ∀ u ∈ cellsF [q], u.oneCell' = true := cellsF_one _ (fun p hp => by simp at hp; subst hp; rw [hsv]; rfl)
        have hrow := Row.litF wr q 121
        rw [hsv] at c2' hrow
        clear HT hx
        go_wp2_with (at_builtin; refine wpList_app tyF rfl rfl rfl rfl (hown.alloc _) hrow rfl hone (by unfold maxLen; omega) (by omega) (by have := hB.size; simp; omega) ?_; intro v2 w2 ho2 hg2)
        have hb3 : Below w.heap.size w w2 := (hB.alloc hB.size _).trans (below_grown (hown.alloc _) hg2 (by have := hB.size; simp; omega))
        go_roundw
        case rel => exact ⟨k + 1, by omega, by go_num, by rw [HT2.out, cellsF_append, List.length_append]; exact ho2, hb3⟩
        case measure => simp [intOf]; omega
    · have htk : ps.take k = ps := List.take_of_length_le (by omega)
      rw [htk] at hown
      go_wp2
      go_ret
      exact ⟨_, rfl, hown, hB⟩

end Go.Proofs.YtepceidajmedeaaGreatDoor
