/- Lemmas for a law of this seat, part 28: contracts of the functions that it reaches, and the plain law. No condition but those of each lemma. -/
import Derived.Test.YtepceidajmedeaaGreatDoorWal15
import Derived.Test.YtepceidajmedeaaGreatDoorWal13
import Derived.Test.YtepceidajmedeaaGreatDoorWal27
import Derived.Test.YtepceidajmedeaaGreatDoorWal6
import Derived.Test.YtepceidajmedeaaGreatDoorWal12
import Derived.Deep.RegionLaw
import Derived.IntWalk

namespace Go.Proofs.YtepceidajmedeaaGreatDoor
open Go.RowKit CW

set_option maxHeartbeats 1000000 in
theorem named5_any (s : Bytes) (w : World) (hs : s.length ≤ 9223372036854775807) :
    Calls Tryz.prog 129 #[.string ⟨s.toArray⟩] w fun e w' => e = .returned (.bool (namedB s)) ∧ w = w' := by
  have hsz : (ByteArray.mk s.toArray).size = s.length := by show s.toArray.size = _; simp
  go_enter Tryz.func129, Tryz.ntmps129
  go_wp2
  go_loopw [3] (fun i wr => ∃ k : Nat, k ≤ s.length ∧ i = .int .i64 k ∧ (s.take k).all okC = true ∧ wr = w) (fun i _ => s.length - (intOf i).toNat)
  case atStart => exact ⟨0, by omega, rfl, rfl, rfl⟩
  case round =>
    obtain ⟨k, hk, rfl, hall, rfl⟩ := hrel
    have HA : Hid ((s.take k).all okC = true) := hall
    clear hall
    by_cases hlt : k < s.length
    · have HT : Hid (s.take (k + 1) = s.take k ++ [s[k]]) := List.take_succ_eq_append_getElem hlt
      have hno : okC s[k] = false → Hid (namedB s = false) := fun h => by
        show namedB s = false
        unfold namedB
        have : s.all okC = false := by
          rw [← Bool.not_eq_true, List.all_eq_true]
          intro ha
          have := ha s[k] (List.getElem_mem hlt)
          rw [h] at this
          cases this
        rw [this, Bool.and_false]
      have HA2 : okC s[k] = true → Hid ((s.take (k + 1)).all okC = true) := fun h => by show _ = _; rw [HT.out, List.all_append, HA.out, Bool.true_and, List.all_cons, h]; rfl
      have hx : ∀ (h : k < (ByteArray.mk s.toArray).size), ((ByteArray.mk s.toArray)[k]'h).toNat = (s[k]'hlt).toNat := fun h => rfl
      have i0 : (0 : Int) ≤ (k : Int) := by omega
      have i1 : (k : Int) < (s.length : Int) := by omega
      have hok : okC s[k] = ((decide (97 ≤ s[k].toNat) && decide (s[k].toNat ≤ 122)) || (decide (48 ≤ s[k].toNat) && decide (s[k].toNat ≤ 57)) || decide (s[k].toNat = 45) || decide (s[k].toNat = 46)) := rfl
      clear HT HA
      generalize okC s[k] = ok at *
      generalize s[k].toNat = cn at *
      have hcases : (97 ≤ cn ∧ cn ≤ 122) ∨ (48 ≤ cn ∧ cn ≤ 57) ∨ cn = 45 ∨ cn = 46 ∨ cn < 45 ∨ cn = 47 ∨ (58 ≤ cn ∧ cn ≤ 96) ∨ 123 ≤ cn := by omega
      rcases hcases with h | h | h | h | h | h | h | h
      · have HA3 := HA2 (by rw [hok]; simp <;> omega)
        have d0 : (97 : Int) ≤ (cn : Int) := by omega
        have d1 : (cn : Int) ≤ 122 := by omega
        clear hno HA2 hok
        go_wp2
        go_roundw
        case rel => exact ⟨k + 1, by omega, by go_num, HA3.out, trivial⟩
        case measure => simp [intOf]; omega
      · have HA3 := HA2 (by rw [hok]; simp <;> omega)
        have d0 : ¬ (97 : Int) ≤ (cn : Int) := by omega
        have d1 : (48 : Int) ≤ (cn : Int) := by omega
        have d2 : (cn : Int) ≤ 57 := by omega
        clear hno HA2 hok
        go_wp2
        go_roundw
        case rel => exact ⟨k + 1, by omega, by go_num, HA3.out, trivial⟩
        case measure => simp [intOf]; omega
      · subst h
        have HA3 := HA2 (by rw [hok]; simp <;> omega)
        clear hno HA2 hok
        go_wp2
        go_roundw
        case rel => exact ⟨k + 1, by omega, by go_num, HA3.out, trivial⟩
        case measure => simp [intOf]; omega
      · subst h
        have HA3 := HA2 (by rw [hok]; simp <;> omega)
        clear hno HA2 hok
        go_wp2
        go_roundw
        case rel => exact ⟨k + 1, by omega, by go_num, HA3.out, trivial⟩
        case measure => simp [intOf]; omega
      · have HE := hno (by rw [hok]; simp <;> omega)
        have d0 : ¬ (97 : Int) ≤ (cn : Int) := by omega
        have d1 : ¬ (48 : Int) ≤ (cn : Int) := by omega
        have d2 : ((cn : Int) == 45) = false := by simp; omega
        have d3 : ((cn : Int) == 46) = false := by simp; omega
        clear hno HA2 hok
        go_wp2
        go_ret
        exact ⟨by rw [HE.out] <;> rfl, rfl⟩
      · subst h
        have HE := hno (by rw [hok]; simp <;> omega)
        clear hno HA2 hok
        go_wp2
        go_ret
        exact ⟨by rw [HE.out] <;> rfl, rfl⟩
      · have HE := hno (by rw [hok]; simp <;> omega)
        have d0 : ¬ (97 : Int) ≤ (cn : Int) := by omega
        have d1 : (48 : Int) ≤ (cn : Int) := by omega
        have d2 : ¬ (cn : Int) ≤ 57 := by omega
        have d3 : ((cn : Int) == 45) = false := by simp; omega
        have d4 : ((cn : Int) == 46) = false := by simp; omega
        clear hno HA2 hok
        go_wp2
        go_ret
        exact ⟨by rw [HE.out] <;> rfl, rfl⟩
      · have HE := hno (by rw [hok]; simp <;> omega)
        have d0 : (97 : Int) ≤ (cn : Int) := by omega
        have d1 : ¬ (cn : Int) ≤ 122 := by omega
        have d2 : (48 : Int) ≤ (cn : Int) := by omega
        have d3 : ¬ (cn : Int) ≤ 57 := by omega
        have d4 : ((cn : Int) == 45) = false := by simp; omega
        have d5 : ((cn : Int) == 46) = false := by simp; omega
        clear hno HA2 hok
        go_wp2
        go_ret
        exact ⟨by rw [HE.out] <;> rfl, rfl⟩
    · have htk : s.take k = s := List.take_of_length_le (by omega)
      have hall := HA.out
      rw [htk] at hall
      have HN : Hid (namedB s = (decide (1 ≤ s.length) && decide (s.length ≤ 100))) := by show _ = _; unfold namedB; rw [hall, Bool.and_true]
      clear htk hall HA
      by_cases h1 : 1 ≤ s.length
      · have d1 : (1 : Int) ≤ (s.length : Int) := by omega
        by_cases h2 : s.length ≤ 100
        · have d2 : (s.length : Int) ≤ 100 := by omega
          go_wp2
          go_ret
          exact ⟨by rw [HN.out, decide_eq_true h1, decide_eq_true h2] <;> rfl, rfl⟩
        · have d2 : ¬ (s.length : Int) ≤ 100 := by omega
          go_wp2
          go_ret
          exact ⟨by rw [HN.out, decide_eq_false h2, Bool.and_false] <;> rfl, rfl⟩
      · have d1 : ¬ (1 : Int) ≤ (s.length : Int) := by omega
        go_wp2
        go_ret
        exact ⟨by rw [HN.out, decide_eq_false h1, Bool.false_and] <;> rfl, rfl⟩

end Go.Proofs.YtepceidajmedeaaGreatDoor

namespace Go.Proofs.YtepceidajmedeaaGreatDoor
open Go.RowKit CW

def op5 (k : Int) (n tv bv : Value) : Value := .agg #[.int .i64 k, n, tv, bv]
def Ref5 (M : Nat → Prop) (w : World) (D : DiskA) (v : Value) : Prop := ∃ sv ps, v = .agg (dk5 D.room sv D.plan D.down) ∧ SlF M w sv ps ∧ ps.map (·.1) = D.files
theorem Ref5.below {M : Nat → Prop} {w w' : World} {D : DiskA} {v : Value} (h : Ref5 M w D v) (hf : Below w.heap.size w w') : Ref5 M w' D v := by
  obtain ⟨sv, ps, h1, h2, h3⟩ := h
  exact ⟨sv, ps, h1, h2.below hf, h3⟩

set_option maxHeartbeats 2000000 in
theorem do5_down {M : Nat → Prop} (D : DiskA) (v : Value) (w : World) (h : Ref5 M w D v) (k : Int) (n tv bv : Value) (hd : D.down = true) :
    Calls Tryz.prog 66 #[v, op5 k n tv bv] w fun e w' => e = .returned (.tuple #[v, .int .i64 10]) ∧ Below w.heap.size w w' := by
  obtain ⟨sv, ps, rfl, hs, hps⟩ := h
  obtain ⟨a, cap, rfl, hn, hc, hnone, hcell⟩ := hs.open
  rw [hd]
  unfold op5 dk5
  go_enter Tryz.func66, Tryz.ntmps66
  go_wp2
  refine bodyPost_ret (results_cell_row_tmp (fr := (0, 0)) Tryz.results66 _ _ (w.heap.size + 1 + 1) 35 _ _ rfl (heap3_2 _ _ _ _) Tryz.underlying35 rfl (by kernel_rfl)) rfl ?_
  exact ⟨rfl, below3 _ _ _ _⟩

set_option maxHeartbeats 2000000 in
theorem do5_plan {M : Nat → Prop} (D : DiskA) (v : Value) (w : World) (h : Ref5 M w D v) (k : Int) (n tv bv : Value) (hd : D.down = false) (hp : D.plan = 1) :
    Calls Tryz.prog 66 #[v, op5 k n tv bv] w fun e w' => ∃ v', e = .returned (.tuple #[v', .int .i64 10]) ∧ Ref5 M w' { D with plan := 0, down := true } v' ∧ Below w.heap.size w w' := by
  obtain ⟨sv, ps, rfl, hs, hps⟩ := h
  obtain ⟨a, cap, rfl, hn, hc, hnone, hcell⟩ := hs.open
  rw [hd, hp]
  unfold op5 dk5
  go_enter Tryz.func66, Tryz.ntmps66
  go_wp2
  refine bodyPost_ret (results_cell_row_tmp (fr := (0, 0)) Tryz.results66 _ _ (w.heap.size + 1 + 1) 35 _ _ rfl (heap3_2 _ _ _ _) Tryz.underlying35 rfl (by kernel_rfl)) rfl ?_
  have hB := below3 w (.cells #[.int .i64 D.room, .slice a ps.length cap, .int .i64 0, .bool true] 35) (.cells #[.int .i64 k, n, tv, bv] 114) (.cells #[.int .i64 D.room, .slice a ps.length cap, .int .i64 0, .bool true] 35)
  exact ⟨_, rfl, ⟨_, ps, rfl, hs.below hB, hps⟩, hB⟩

def kindA : OpA → Int
  | .create => 1
  | .append _ => 2
  | .sync => 3
  | .rename _ => 4
  | .remove => 5

/-- The operands of a change. -/
def OpIn (M : Nat → Prop) (w : World) (tv bv : Value) : OpA → Prop
  | .append b => SlB M w bv b ∧ b.length ≤ 1073741824
  | .rename m => tv = stV m ∧ m.length ≤ 1048576
  | _ => True

theorem bodyA_unnamed (D : DiskA) (o : OpA) (n : Bytes) (h : namedB n = false) : bodyA D o n = (D, 6) := by unfold bodyA; rw [if_pos h]
theorem bodyA_new (D : DiskA) (n : Bytes) (h : namedB n = true) (hf : findF D.files n = none) : bodyA D .create n = ({ D with files := putF D.files ⟨n, [], 0⟩ }, 0) := by unfold bodyA; rw [if_neg (by rw [h]; decide), hf]; rfl
theorem bodyA_twice (D : DiskA) (n : Bytes) (i : Nat) (h : namedB n = true) (hf : findF D.files n = some i) : bodyA D .create n = (D, 7) := by
  obtain ⟨hi, _⟩ := findK_some hf
  unfold bodyA; rw [if_neg (by rw [h]; decide), hf]; simp [List.getElem?_eq_getElem hi]
theorem bodyA_miss (D : DiskA) (o : OpA) (n : Bytes) (ho : o ≠ .create) (hf : findF D.files n = none) : bodyA D o n = (D, 6) := by
  unfold bodyA
  split
  · rfl
  · rw [hf]
    cases o <;> first | rfl | exact absurd rfl ho
theorem bodyA_sync (D : DiskA) (n : Bytes) (i : Nat) (h : namedB n = true) (hf : findF D.files n = some i) (f : FileA) (hi : D.files[i]? = some f) : bodyA D .sync n = ({ D with files := putF D.files ⟨f.name, f.b, f.b.length⟩ }, 0) := by
  unfold bodyA; rw [if_neg (by rw [h]; decide), hf]; simp [hi]
theorem bodyA_full (D : DiskA) (n b : Bytes) (i : Nat) (h : namedB n = true) (hf : findF D.files n = some i) (f : FileA) (hi : D.files[i]? = some f) (hr : D.room < ((usedF D.files + b.length : Nat) : Int)) : bodyA D (.append b) n = (D, 5) := by
  unfold bodyA; rw [if_neg (by rw [h]; decide), hf]; simp only [Option.bind_some, hi]; rw [if_pos hr]
theorem bodyA_append (D : DiskA) (n b : Bytes) (i : Nat) (h : namedB n = true) (hf : findF D.files n = some i) (f : FileA) (hi : D.files[i]? = some f) (hr : ¬ D.room < ((usedF D.files + b.length : Nat) : Int)) : bodyA D (.append b) n = ({ D with files := putF D.files ⟨f.name, f.b ++ b, f.dur⟩ }, 0) := by
  unfold bodyA; rw [if_neg (by rw [h]; decide), hf]; simp only [Option.bind_some, hi]; rw [if_neg hr]
theorem bodyA_remove (D : DiskA) (n : Bytes) (i : Nat) (h : namedB n = true) (hf : findF D.files n = some i) : bodyA D .remove n = ({ D with files := withoutK FileA.name D.files n }, 0) := by
  obtain ⟨hi, _⟩ := findK_some hf
  unfold bodyA; rw [if_neg (by rw [h]; decide), hf]; simp [List.getElem?_eq_getElem hi]
theorem bodyA_rename (D : DiskA) (n m : Bytes) (i : Nat) (h : namedB n = true) (hm : namedB m = true) (hf : findF D.files n = some i) (f : FileA) (hi : D.files[i]? = some f) : bodyA D (.rename m) n = ({ D with files := putF (withoutK FileA.name D.files n) ⟨m, f.b, f.dur⟩ }, 0) := by
  unfold bodyA; rw [if_neg (by rw [h]; decide), hf]; simp only [Option.bind_some, hi]; rw [if_neg (by rw [hm]; decide)]
theorem bodyA_rename_bad (D : DiskA) (n m : Bytes) (hm : namedB m = false) : bodyA D (.rename m) n = (D, 6) := by
  unfold bodyA
  split
  · rfl
  · cases (findF D.files n).bind (fun i => D.files[i]?) with
    | none => rfl
    | some f => simp only [hm, if_true]

theorem putF_map (ps : List (FileA × Value)) (q : FileA × Value) : (putK nm ps q).map (·.1) = putF (ps.map (·.1)) q.1 := (putK_map (key' := FileA.name) (key := nm) (fun p : FileA × Value => p.1) (fun _ => rfl) ps q).symm
theorem withoutF_map (ps : List (FileA × Value)) (n : Bytes) : (withoutK nm ps n).map (·.1) = withoutK FileA.name (ps.map (·.1)) n := (withoutK_map (key' := FileA.name) (key := nm) (fun p : FileA × Value => p.1) (fun _ => rfl) ps n).symm

theorem size35 : (Tryz.prog.info? 35).map (·.size) = some 4 := by kernel_rfl

theorem size30 : (Tryz.prog.info? 30).map (·.size) = some 1 := by kernel_rfl
theorem usedP_mem {ps : List (FileA × Value)} {q : FileA × Value} (h : q ∈ ps) : q.1.b.length ≤ usedP ps := by
  obtain ⟨l, r, rfl⟩ := List.append_of_mem h
  simp [usedP]
  omega
theorem size33 : (Tryz.prog.info? 33).map (·.size) = some 1 := by kernel_rfl

set_option maxHeartbeats 4000000 in
set_option maxRecDepth 100000 in
theorem do5_open {M : Nat → Prop} (D : DiskA) (v : Value) (w : World) (h : Ref5 M w D v) (hM : ∀ k, M k → k < w.heap.size) (o : OpA) (n : Bytes) (tv bv : Value) (hin : OpIn M w tv bv o) (hor : ∀ m, o ≠ .rename m) (hd : D.down = false) (hp : D.plan ≠ 1) (hp0 : 0 ≤ D.plan) (hp1 : D.plan ≤ 4611686018427387904) (hn : n.length ≤ 1048576) (hl : D.files.length < 1048576) (hu : usedF D.files ≤ 1099511627776) :
    Calls Tryz.prog 66 #[v, op5 (kindA o) (stV n) tv bv] w fun e w' => ∃ v', e = .returned (.tuple #[v', .int .i64 (bodyA { D with plan := planA D.plan } o n).2]) ∧ Ref5 M w' (bodyA { D with plan := planA D.plan } o n).1 v' ∧ Below w.heap.size w w' := by
  obtain ⟨sv, ps, rfl, hs, hps⟩ := h
  obtain ⟨a, cap, rfl, hn', hc, hnone, hcell⟩ := hs.open
  rw [hd]
  have hd1 : (D.plan == 1) = false := by simpa using hp
  have HP : Hid (planA D.plan = max (D.plan - 1) 0) := rfl
  have hlp : ps.length < 1048576 := by rw [← hps] at hl; simpa using hl
  have hup : usedP ps ≤ 1099511627776 := by rw [usedP_eq, hps]; exact hu
  have HF : Hid (findF D.files n = findK nm ps n) := by show _ = _; rw [← hps]; exact findK_map (key' := FileA.name) (key := nm) (fun p : FileA × Value => p.1) (fun _ => rfl) ps n
  have HPS : Hid (ps.map (·.1) = D.files) := hps
  have HU : Hid (usedF D.files = usedP ps) := by show _ = _; rw [usedP_eq, hps]
  clear hcell hps hl hu
  unfold op5 dk5 stV
  generalize hb : bodyA ⟨D.room, D.files, planA D.plan, false⟩ o n = R at *
  have HR : Hid (bodyA ⟨D.room, D.files, planA D.plan, false⟩ o n = R) := hb
  clear hb
  have hnd := fun W => named5_any n W (by omega)
  generalize hk : kindA o = k at *
  go_enter Tryz.func66, Tryz.ntmps66
  go_wp2_with fail
  generalize max (D.plan - 1) 0 = p2 at *
  have g0 := heap3_0 w (.cells #[.int .i64 D.room, .slice a ps.length cap, .int .i64 p2, .bool false] 35) (.cells #[.int .i64 k, .string ⟨n.toArray⟩, tv, bv] 114) (.cells #[.int .i64 0, .slice none 0 0, .int .i64 0, .bool false] 35)
  have g1 := heap3_1 w (.cells #[.int .i64 D.room, .slice a ps.length cap, .int .i64 p2, .bool false] 35) (.cells #[.int .i64 k, .string ⟨n.toArray⟩, tv, bv] 114) (.cells #[.int .i64 0, .slice none 0 0, .int .i64 0, .bool false] 35)
  have g2 := heap3_2 w (.cells #[.int .i64 D.room, .slice a ps.length cap, .int .i64 p2, .bool false] 35) (.cells #[.int .i64 k, .string ⟨n.toArray⟩, tv, bv] 114) (.cells #[.int .i64 0, .slice none 0 0, .int .i64 0, .bool false] 35)
  have hB3 := below3 w (.cells #[.int .i64 D.room, .slice a ps.length cap, .int .i64 p2, .bool false] 35) (.cells #[.int .i64 k, .string ⟨n.toArray⟩, tv, bv] 114) (.cells #[.int .i64 0, .slice none 0 0, .int .i64 0, .bool false] 35)
  have hz3 := size3 w (.cells #[.int .i64 D.room, .slice a ps.length cap, .int .i64 p2, .bool false] 35) (.cells #[.int .i64 k, .string ⟨n.toArray⟩, tv, bv] 114) (.cells #[.int .i64 0, .slice none 0 0, .int .i64 0, .bool false] 35)
  generalize ((w.alloc (.cells #[.int .i64 D.room, .slice a ps.length cap, .int .i64 p2, .bool false] 35)).alloc (.cells #[.int .i64 k, .string ⟨n.toArray⟩, tv, bv] 114)).alloc (.cells #[.int .i64 0, .slice none 0 0, .int .i64 0, .bool false] 35) = W3 at *
  have hs3 := hs.below hB3
  have hf5 := find5_any D.room p2 false _ ps n W3 hs3.any
  unfold dk5 stV at hf5
  refine hf5.mono ?_
  rintro e w2 ⟨rfl, hb2⟩
  have k0 := (hb2.block w.heap.size (by omega)).trans g0
  have k1 := (hb2.block (w.heap.size + 1) (by omega)).trans g1
  have k2 := (hb2.block (w.heap.size + 1 + 1) (by omega)).trans g2
  have hz2 := hb2.size
  have hBw : Below w.heap.size w w2 := hB3.trans (hb2.mono (by omega))
  have hs2 := hs.below hBw
  clear hb2 hs3 hf5 hB3 g0 g1 g2
  obtain ⟨c00, c01, c02, c03⟩ := cells4 k0
  obtain ⟨c10, c11, c12, c13⟩ := cells4 k1
  by_cases hnam : namedB n = true
  · rw [hnam] at hnd
    rcases hfi : findK nm ps n with _ | i
    · rw [hfi] at HF
      cases o with
      | create =>
        simp only [kindA] at hk
        subst hk
        have hR : R = (⟨D.room, putF D.files ⟨n, [], 0⟩, planA D.plan, false⟩, 0) := by rw [← HR.out]; exact bodyA_new _ _ hnam HF.out
        subst hR
        have hput := put5_any (.slice a ps.length cap) ps (⟨n, [], 0⟩, .slice none 0 0) w2 hs2.any SlB.nil (by omega)
        change Calls _ _ #[_, .agg #[.string ⟨n.toArray⟩, .slice none 0 0, .int .i64 0]] _ _ at hput
        go_wp2_with fail
        refine (hnd w2).mono ?_
        rintro e w' ⟨rfl, rfl⟩
        go_wp2_with fail
        refine hput.mono ?_
        rintro e w3 ⟨v3, rfl, ho, hb3⟩
        have k0p := k0
        have k2p := k2
        have hbb := hBw
        have k0' := (hb3.block w.heap.size (by omega)).trans k0p
        have k2' := (hb3.block (w.heap.size + 1 + 1) (by omega)).trans k2p
        have hz3' := hb3.size
        obtain ⟨a3, cap3, rfl, hc31, hc32, _⟩ := (Row.of_owns ho).open
        go_wp2_with (first | ((with_reducible refine at_sto ?_); refine wpList_store_fld rfl (ty := 33) (x := .tmp 63) (y := .tmp 62) rfl w.heap.size 1 35 (.slice a3 (putK nm ps (⟨n, [], 0⟩, .slice none 0 0)).length cap3) [.int .i64 D.room, .slice a ps.length cap, .int .i64 p2, .bool false] rfl rfl k0' (by simp) size33 rfl rfl ?_; intro W4 hV1 hV2 hV3; replace hV1 : W4.heap[w.heap.size]? = some (.cells #[.int .i64 D.room, .slice a3 (putK nm ps (⟨n, [], 0⟩, .slice none 0 0)).length cap3, .int .i64 p2, .bool false] 35 (0, 0)) := hV1; obtain ⟨d00, d01, d02, d03⟩ := cells4 hV1; have k2q := (hV2.block (w.heap.size + 1 + 1) (by omega) (by intro e; omega)).trans k2') | ((with_reducible refine at_sto ?_); refine wpList_store4 rfl (ty := 35) (x := .tmp 4) (y := .tmp 64) rfl (w.heap.size + 1 + 1) 35 _ _ _ _ (.int .i64 D.room) (.slice a3 (putK nm ps (⟨n, [], 0⟩, .slice none 0 0)).length cap3) (.int .i64 p2) (.bool false) rfl rfl k2q size35 rfl rfl rfl rfl ?_; intro W hW1 hW2 hW3))
        refine bodyPost_ret (results_cell_row_tmp (fr := (0, 0)) Tryz.results66 _ _ (w.heap.size + 1 + 1) 35 _ _ rfl hW1 Tryz.underlying35 rfl (by kernel_rfl)) rfl ?_
        have hF3 : Fr (fun k => k = w.heap.size ∨ k = w.heap.size + 1 + 1) w3 W := (hV2.mono (fun k _ h => .inl h)).trans hW2 (fun k _ h => .inr h)
        have hB3w : Below w.heap.size w w3 := hbb.trans (hb3.mono (by omega))
        have hBf : Below w.heap.size w W := hB3w.trans (hF3.below (by omega) (by intro q h1 h2; omega))
        have hrow := (Row.of_owns ho).fr (M' := M) hF3 (by intro q h; rcases h with rfl | rfl <;> omega) (by intro q h1 h2; have := hM q h2; omega)
        have hsh : ShowF M W ((putK nm ps (⟨n, [], 0⟩, .slice none 0 0))) := fun p hp => by
          rcases mem_putK.1 hp with rfl | ⟨h, _⟩
          · exact SlB.nil
          · exact (hs.2 p h).below hBf
        exact ⟨_, rfl, ⟨_, (putK nm ps (⟨n, [], 0⟩, .slice none 0 0)), by show _ = Value.agg (dk5 D.room _ (planA D.plan) false); rw [HP.out]; rfl, ⟨hrow, hsh⟩, by rw [putF_map, HPS.out]⟩, hBf⟩
      | append b =>
        simp only [kindA] at hk
        subst hk
        have hR : R = (⟨D.room, D.files, planA D.plan, false⟩, 6) := by rw [← HR.out]; exact bodyA_miss _ _ _ (by intro h; cases h) HF.out
        subst hR
        go_wp2_with fail
        refine (hnd w2).mono ?_
        rintro e w' ⟨rfl, rfl⟩
        go_wp2_with ((with_reducible refine at_sto ?_); refine wpList_store4 rfl (ty := 35) (x := .tmp 4) (y := .tmp 50) rfl (w.heap.size + 1 + 1) 35 _ _ _ _ (.int .i64 D.room) (.slice a ps.length cap) (.int .i64 p2) (.bool false) rfl rfl k2 size35 rfl rfl rfl rfl ?_; intro W hW1 hW2 hW3)
        refine bodyPost_ret (results_cell_row_tmp (fr := (0, 0)) Tryz.results66 _ _ (w.heap.size + 1 + 1) 35 _ _ rfl hW1 Tryz.underlying35 rfl (by kernel_rfl)) rfl ?_
        have hBf : Below w.heap.size w W := hBw.trans (hW2.below (by omega) (by intro q h1 h2; omega))
        exact ⟨_, rfl, ⟨.slice a ps.length cap, ps, by show _ = Value.agg (dk5 D.room _ (planA D.plan) false); rw [HP.out]; rfl, hs.below hBf, HPS.out⟩, hBf⟩
      | sync =>
        simp only [kindA] at hk
        subst hk
        have hR : R = (⟨D.room, D.files, planA D.plan, false⟩, 6) := by rw [← HR.out]; exact bodyA_miss _ _ _ (by intro h; cases h) HF.out
        subst hR
        go_wp2_with fail
        refine (hnd w2).mono ?_
        rintro e w' ⟨rfl, rfl⟩
        go_wp2_with ((with_reducible refine at_sto ?_); refine wpList_store4 rfl (ty := 35) (x := .tmp 4) (y := .tmp 50) rfl (w.heap.size + 1 + 1) 35 _ _ _ _ (.int .i64 D.room) (.slice a ps.length cap) (.int .i64 p2) (.bool false) rfl rfl k2 size35 rfl rfl rfl rfl ?_; intro W hW1 hW2 hW3)
        refine bodyPost_ret (results_cell_row_tmp (fr := (0, 0)) Tryz.results66 _ _ (w.heap.size + 1 + 1) 35 _ _ rfl hW1 Tryz.underlying35 rfl (by kernel_rfl)) rfl ?_
        have hBf : Below w.heap.size w W := hBw.trans (hW2.below (by omega) (by intro q h1 h2; omega))
        exact ⟨_, rfl, ⟨.slice a ps.length cap, ps, by show _ = Value.agg (dk5 D.room _ (planA D.plan) false); rw [HP.out]; rfl, hs.below hBf, HPS.out⟩, hBf⟩
      | remove =>
        simp only [kindA] at hk
        subst hk
        have hR : R = (⟨D.room, D.files, planA D.plan, false⟩, 6) := by rw [← HR.out]; exact bodyA_miss _ _ _ (by intro h; cases h) HF.out
        subst hR
        go_wp2_with fail
        refine (hnd w2).mono ?_
        rintro e w' ⟨rfl, rfl⟩
        go_wp2_with ((with_reducible refine at_sto ?_); refine wpList_store4 rfl (ty := 35) (x := .tmp 4) (y := .tmp 50) rfl (w.heap.size + 1 + 1) 35 _ _ _ _ (.int .i64 D.room) (.slice a ps.length cap) (.int .i64 p2) (.bool false) rfl rfl k2 size35 rfl rfl rfl rfl ?_; intro W hW1 hW2 hW3)
        refine bodyPost_ret (results_cell_row_tmp (fr := (0, 0)) Tryz.results66 _ _ (w.heap.size + 1 + 1) 35 _ _ rfl hW1 Tryz.underlying35 rfl (by kernel_rfl)) rfl ?_
        have hBf : Below w.heap.size w W := hBw.trans (hW2.below (by omega) (by intro q h1 h2; omega))
        exact ⟨_, rfl, ⟨.slice a ps.length cap, ps, by show _ = Value.agg (dk5 D.room _ (planA D.plan) false); rw [HP.out]; rfl, hs.below hBf, HPS.out⟩, hBf⟩
      | rename m => exact absurd rfl (hor m)
    · rw [hfi] at HF
      obtain ⟨hi, hkey⟩ := findK_some hfi
      have HFI : Hid (D.files[i]? = some ps[i].1) := by show _ = _; rw [← HPS.out, List.getElem?_map, List.getElem?_eq_getElem hi]; rfl
      obtain ⟨a', cap', e', _, _, _, hcell2⟩ := hs2.open
      cases e'
      obtain ⟨b, off, rfl, hbl, _, hcc⟩ := hcell2 (by omega)
      obtain ⟨q0, q1, q2⟩ := hcc i hi
      rw [show off + (i * 3 + 1) = off + i * 3 + 1 by omega] at q1
      rw [show off + (i * 3 + 2) = off + i * 3 + 2 by omega] at q2
      have hqm : ps[i] ∈ ps := List.getElem_mem hi
      have hkey : ps[i].1.name = n := hkey
      generalize ps[i] = q at *
      clear hcc hcell2
      have hsq := hs2.2 q hqm
      obtain ⟨a2, cap2, hsv, hs21, hs22⟩ := hsq.shape
      rw [hsv] at q1
      subst hkey
      unfold stV at q0
      have hix : ixZ (some i) = (i : Int) := rfl
      have i1 : (i : Int) < (ps.length : Int) := by omega
      have i2 : (0 : Int) ≤ (i : Int) := by omega
      rw [hix]
      have kk0 := fun C => ((box_facts w2 C).1.block w.heap.size (by omega)).trans k0
      have kk1 := fun C => ((box_facts w2 C).1.block (w.heap.size + 1) (by omega)).trans k1
      have e00 := fun C => (cells4 (kk0 C)).1
      have e01 := fun C => (cells4 (kk0 C)).2.1
      have e02 := fun C => (cells4 (kk0 C)).2.2.1
      have e03 := fun C => (cells4 (kk0 C)).2.2.2
      have e10 := fun C => (cells4 (kk1 C)).1
      have e11 := fun C => (cells4 (kk1 C)).2.1
      have e12 := fun C => (cells4 (kk1 C)).2.2.1
      have e13 := fun C => (cells4 (kk1 C)).2.2.2
      clear kk0 kk1
      cases o with
      | create =>
        simp only [kindA] at hk
        subst hk
        have hR : R = (⟨D.room, D.files, planA D.plan, false⟩, 7) := by rw [← HR.out]; exact bodyA_twice _ _ i hnam HF.out
        subst hR
        go_wp2_with fail
        refine (hnd w2).mono ?_
        rintro e w' ⟨rfl, rfl⟩
        go_wp2_with ((with_reducible refine at_sto ?_); refine wpList_store4 rfl (ty := 35) (x := .tmp 4) (y := .tmp 56) rfl (w.heap.size + 1 + 1) 35 _ _ _ _ (.int .i64 D.room) (.slice (some ⟨b, off, none⟩) ps.length cap) (.int .i64 p2) (.bool false) rfl rfl k2 size35 rfl rfl rfl rfl ?_; intro W hW1 hW2 hW3)
        refine bodyPost_ret (results_cell_row_tmp (fr := (0, 0)) Tryz.results66 _ _ (w.heap.size + 1 + 1) 35 _ _ rfl hW1 Tryz.underlying35 rfl (by kernel_rfl)) rfl ?_
        have hBf : Below w.heap.size w W := hBw.trans (hW2.below (by omega) (by intro q h1 h2; omega))
        exact ⟨_, rfl, ⟨.slice (some ⟨b, off, none⟩) ps.length cap, ps, by show _ = Value.agg (dk5 D.room _ (planA D.plan) false); rw [HP.out]; rfl, hs.below hBf, HPS.out⟩, hBf⟩
      | sync =>
        simp only [kindA] at hk
        subst hk
        have hR : R = (⟨D.room, putF D.files ⟨q.1.name, q.1.b, q.1.b.length⟩, planA D.plan, false⟩, 0) := by rw [← HR.out]; exact bodyA_sync ⟨D.room, D.files, planA D.plan, false⟩ _ i hnam HF.out q.1 HFI.out
        subst hR
        go_wp2_with fail
        refine (hnd w2).mono ?_
        rintro e w' ⟨rfl, rfl⟩
        go_wp2_with fail
        have hb4 := box_facts w2 (.cells #[.string ⟨q.1.name.toArray⟩, .slice a2 q.1.b.length cap2, .int .i64 (q.1.b.length : Nat)] 121)
        clear e00 e01 e02 e03 e10 e11 e12 e13
        generalize w2.alloc (.cells #[.string ⟨q.1.name.toArray⟩, .slice a2 q.1.b.length cap2, .int .i64 (q.1.b.length : Nat)] 121) = Wb at *
        obtain ⟨hb41, hb42, hb43⟩ := hb4
        have k0p := (hb41.block w.heap.size (by omega)).trans k0
        have k2p := (hb41.block (w.heap.size + 1 + 1) (by omega)).trans k2
        have hbb : Below w.heap.size w Wb := hBw.trans (hb41.mono (by omega))
        have hput := put5_any (.slice (some ⟨b, off, none⟩) ps.length cap) ps (⟨q.1.name, q.1.b, q.1.b.length⟩, .slice a2 q.1.b.length cap2) Wb (hs2.any.below hb41) (by have := hsq.any.below hb41; rwa [hsv] at this) (by omega)
        unfold stV at hput
        refine hput.mono ?_
        rintro e w3 ⟨v3, rfl, ho, hb3⟩
        have k0' := (hb3.block w.heap.size (by omega)).trans k0p
        have k2' := (hb3.block (w.heap.size + 1 + 1) (by omega)).trans k2p
        have hz3' := hb3.size
        obtain ⟨a3, cap3, rfl, hc31, hc32, _⟩ := (Row.of_owns ho).open
        go_wp2_with (first | ((with_reducible refine at_sto ?_); refine wpList_store_fld rfl (ty := 33) (x := .tmp 107) (y := .tmp 106) rfl w.heap.size 1 35 (.slice a3 (putK nm ps (⟨q.1.name, q.1.b, q.1.b.length⟩, .slice a2 q.1.b.length cap2)).length cap3) [.int .i64 D.room, .slice (some ⟨b, off, none⟩) ps.length cap, .int .i64 p2, .bool false] rfl rfl k0' (by simp) size33 rfl rfl ?_; intro W4 hV1 hV2 hV3; replace hV1 : W4.heap[w.heap.size]? = some (.cells #[.int .i64 D.room, .slice a3 (putK nm ps (⟨q.1.name, q.1.b, q.1.b.length⟩, .slice a2 q.1.b.length cap2)).length cap3, .int .i64 p2, .bool false] 35 (0, 0)) := hV1; obtain ⟨d00, d01, d02, d03⟩ := cells4 hV1; have k2q := (hV2.block (w.heap.size + 1 + 1) (by omega) (by intro e; omega)).trans k2') | ((with_reducible refine at_sto ?_); refine wpList_store4 rfl (ty := 35) (x := .tmp 4) (y := .tmp 132) rfl (w.heap.size + 1 + 1) 35 _ _ _ _ (.int .i64 D.room) (.slice a3 (putK nm ps (⟨q.1.name, q.1.b, q.1.b.length⟩, .slice a2 q.1.b.length cap2)).length cap3) (.int .i64 p2) (.bool false) rfl rfl k2q size35 rfl rfl rfl rfl ?_; intro W hW1 hW2 hW3))
        refine bodyPost_ret (results_cell_row_tmp (fr := (0, 0)) Tryz.results66 _ _ (w.heap.size + 1 + 1) 35 _ _ rfl hW1 Tryz.underlying35 rfl (by kernel_rfl)) rfl ?_
        have hF3 : Fr (fun k => k = w.heap.size ∨ k = w.heap.size + 1 + 1) w3 W := (hV2.mono (fun k _ h => .inl h)).trans hW2 (fun k _ h => .inr h)
        have hB3w : Below w.heap.size w w3 := hbb.trans (hb3.mono (by omega))
        have hBf : Below w.heap.size w W := hB3w.trans (hF3.below (by omega) (by intro q h1 h2; omega))
        have hrow := (Row.of_owns ho).fr (M' := M) hF3 (by intro q h; rcases h with rfl | rfl <;> omega) (by intro q h1 h2; have := hM q h2; omega)
        have hsh : ShowF M W ((putK nm ps (⟨q.1.name, q.1.b, q.1.b.length⟩, .slice a2 q.1.b.length cap2))) := fun p hp => by
          rcases mem_putK.1 hp with rfl | ⟨h, _⟩
          · have := (hs.2 q hqm).below hBf; rwa [hsv] at this
          · exact (hs.2 p h).below hBf
        exact ⟨_, rfl, ⟨_, (putK nm ps (⟨q.1.name, q.1.b, q.1.b.length⟩, .slice a2 q.1.b.length cap2)), by show _ = Value.agg (dk5 D.room _ (planA D.plan) false); rw [HP.out]; rfl, ⟨hrow, hsh⟩, by rw [putF_map, HPS.out]⟩, hBf⟩
      | remove =>
        simp only [kindA] at hk
        subst hk
        have hR : R = (⟨D.room, withoutK FileA.name D.files q.1.name, planA D.plan, false⟩, 0) := by rw [← HR.out]; exact bodyA_remove ⟨D.room, D.files, planA D.plan, false⟩ _ i hnam HF.out
        subst hR
        go_wp2_with fail
        refine (hnd w2).mono ?_
        rintro e w' ⟨rfl, rfl⟩
        go_wp2_with fail
        have hb4 := box_facts w2 (.cells #[.string ⟨q.1.name.toArray⟩, .slice a2 q.1.b.length cap2, .int .i64 (q.1.dur : Nat)] 121)
        clear e00 e01 e02 e03 e10 e11 e12 e13
        generalize w2.alloc (.cells #[.string ⟨q.1.name.toArray⟩, .slice a2 q.1.b.length cap2, .int .i64 (q.1.dur : Nat)] 121) = Wb at *
        obtain ⟨hb41, hb42, hb43⟩ := hb4
        have k0p := (hb41.block w.heap.size (by omega)).trans k0
        have k2p := (hb41.block (w.heap.size + 1 + 1) (by omega)).trans k2
        have hbb : Below w.heap.size w Wb := hBw.trans (hb41.mono (by omega))
        have hput := without_any (.slice (some ⟨b, off, none⟩) ps.length cap) ps q.1.name Wb (hs2.any.below hb41) (by omega)
        unfold stV at hput
        refine hput.mono ?_
        rintro e w3 ⟨v3, rfl, ho, hb3⟩
        have k0' := (hb3.block w.heap.size (by omega)).trans k0p
        have k2' := (hb3.block (w.heap.size + 1 + 1) (by omega)).trans k2p
        have hz3' := hb3.size
        obtain ⟨a3, cap3, rfl, hc31, hc32, _⟩ := (Row.of_owns ho).open
        go_wp2_with (first | ((with_reducible refine at_sto ?_); refine wpList_store_fld rfl (ty := 33) (x := .tmp 131) (y := .tmp 130) rfl w.heap.size 1 35 (.slice a3 (withoutK nm ps q.1.name).length cap3) [.int .i64 D.room, .slice (some ⟨b, off, none⟩) ps.length cap, .int .i64 p2, .bool false] rfl rfl k0' (by simp) size33 rfl rfl ?_; intro W4 hV1 hV2 hV3; replace hV1 : W4.heap[w.heap.size]? = some (.cells #[.int .i64 D.room, .slice a3 (withoutK nm ps q.1.name).length cap3, .int .i64 p2, .bool false] 35 (0, 0)) := hV1; obtain ⟨d00, d01, d02, d03⟩ := cells4 hV1; have k2q := (hV2.block (w.heap.size + 1 + 1) (by omega) (by intro e; omega)).trans k2') | ((with_reducible refine at_sto ?_); refine wpList_store4 rfl (ty := 35) (x := .tmp 4) (y := .tmp 132) rfl (w.heap.size + 1 + 1) 35 _ _ _ _ (.int .i64 D.room) (.slice a3 (withoutK nm ps q.1.name).length cap3) (.int .i64 p2) (.bool false) rfl rfl k2q size35 rfl rfl rfl rfl ?_; intro W hW1 hW2 hW3))
        refine bodyPost_ret (results_cell_row_tmp (fr := (0, 0)) Tryz.results66 _ _ (w.heap.size + 1 + 1) 35 _ _ rfl hW1 Tryz.underlying35 rfl (by kernel_rfl)) rfl ?_
        have hF3 : Fr (fun k => k = w.heap.size ∨ k = w.heap.size + 1 + 1) w3 W := (hV2.mono (fun k _ h => .inl h)).trans hW2 (fun k _ h => .inr h)
        have hB3w : Below w.heap.size w w3 := hbb.trans (hb3.mono (by omega))
        have hBf : Below w.heap.size w W := hB3w.trans (hF3.below (by omega) (by intro q h1 h2; omega))
        have hrow := (Row.of_owns ho).fr (M' := M) hF3 (by intro q h; rcases h with rfl | rfl <;> omega) (by intro q h1 h2; have := hM q h2; omega)
        have hsh : ShowF M W ((withoutK nm ps q.1.name)) := fun p hp => (hs.2 p (List.mem_filter.1 hp).1).below hBf
        exact ⟨_, rfl, ⟨_, (withoutK nm ps q.1.name), by show _ = Value.agg (dk5 D.room _ (planA D.plan) false); rw [HP.out]; rfl, ⟨hrow, hsh⟩, by rw [withoutF_map, HPS.out]⟩, hBf⟩
      | append b' =>
        simp only [kindA] at hk
        subst hk
        obtain ⟨hbv, hbl'⟩ := hin
        obtain ⟨ab, capb, rfl, hab1, hab2⟩ := hbv.shape
        go_wp2_with fail
        refine (hnd w2).mono ?_
        rintro e w' ⟨rfl, rfl⟩
        go_wp2_with fail
        have hb4 := box_facts w2 (.cells #[.string ⟨q.1.name.toArray⟩, .slice a2 q.1.b.length cap2, .int .i64 (q.1.dur : Nat)] 121)
        clear e00 e01 e02 e03 e10 e11 e12 e13
        generalize w2.alloc (.cells #[.string ⟨q.1.name.toArray⟩, .slice a2 q.1.b.length cap2, .int .i64 (q.1.dur : Nat)] 121) = Wb at *
        obtain ⟨hb41, hb42, hb43⟩ := hb4
        have k0p := (hb41.block w.heap.size (by omega)).trans k0
        have k2p := (hb41.block (w.heap.size + 1 + 1) (by omega)).trans k2
        have hbb : Below w.heap.size w Wb := hBw.trans (hb41.mono (by omega))
        have k1p := (hb41.block (w.heap.size + 1) (by omega)).trans k1
        obtain ⟨f00, f01, f02, f03⟩ := cells4 k0p
        obtain ⟨f10, f11, f12, f13⟩ := cells4 k1p
        obtain ⟨x0, x1, x2⟩ := cells3 hb43
        clear c00 c01 c02 c03 c10 c11 c12 c13 q0 q1 q2
        have hlw : w.heap.size < Wb.heap.size := by omega
        have hlw1 : w.heap.size + 1 < Wb.heap.size := by omega
        have hSS : ∀ W, Below Wb.heap.size Wb W → (Below Wb.heap.size Wb W ∧ W.cell? ⟨w.heap.size, 0, none⟩ = some (.int .i64 D.room) ∧ W.cell? ⟨w.heap.size, 1, none⟩ = some (.slice (some ⟨b, off, none⟩) ps.length cap) ∧ W.cell? ⟨w.heap.size, 2, none⟩ = some (.int .i64 p2) ∧ W.cell? ⟨w.heap.size, 3, none⟩ = some (.bool false) ∧ W.cell? ⟨w.heap.size + 1, 3, none⟩ = some (.slice ab b'.length capb)) := fun W h => ⟨h, (h.cell (p := ⟨w.heap.size, 0, none⟩) hlw).trans f00, (h.cell (p := ⟨w.heap.size, 1, none⟩) hlw).trans f01, (h.cell (p := ⟨w.heap.size, 2, none⟩) hlw).trans f02, (h.cell (p := ⟨w.heap.size, 3, none⟩) hlw).trans f03, (h.cell (p := ⟨w.heap.size + 1, 3, none⟩) hlw1).trans f13⟩
        have hSF : ∀ W, (Below Wb.heap.size Wb W ∧ W.cell? ⟨w.heap.size, 0, none⟩ = some (.int .i64 D.room) ∧ W.cell? ⟨w.heap.size, 1, none⟩ = some (.slice (some ⟨b, off, none⟩) ps.length cap) ∧ W.cell? ⟨w.heap.size, 2, none⟩ = some (.int .i64 p2) ∧ W.cell? ⟨w.heap.size, 3, none⟩ = some (.bool false) ∧ W.cell? ⟨w.heap.size + 1, 3, none⟩ = some (.slice ab b'.length capb)) → SlF (fun _ => False) W (.slice (some ⟨b, off, none⟩) ps.length cap) ps := fun W h => (hs2.any.below hb41).below h.1
        have hST : ∀ W W', (Below Wb.heap.size Wb W ∧ W.cell? ⟨w.heap.size, 0, none⟩ = some (.int .i64 D.room) ∧ W.cell? ⟨w.heap.size, 1, none⟩ = some (.slice (some ⟨b, off, none⟩) ps.length cap) ∧ W.cell? ⟨w.heap.size, 2, none⟩ = some (.int .i64 p2) ∧ W.cell? ⟨w.heap.size, 3, none⟩ = some (.bool false) ∧ W.cell? ⟨w.heap.size + 1, 3, none⟩ = some (.slice ab b'.length capb)) → Below W.heap.size W W' → Below Wb.heap.size Wb W' := fun W W' h k => h.1.trans (k.mono h.1.size)
        have hS0 := hSS Wb.drew (Below.refl _ _).drew
        have hup2 : usedP ps ≤ 4611686018427387904 := by omega
        have hUW : ∀ W, (Below Wb.heap.size Wb W ∧ W.cell? ⟨w.heap.size, 0, none⟩ = some (.int .i64 D.room) ∧ W.cell? ⟨w.heap.size, 1, none⟩ = some (.slice (some ⟨b, off, none⟩) ps.length cap) ∧ W.cell? ⟨w.heap.size, 2, none⟩ = some (.int .i64 p2) ∧ W.cell? ⟨w.heap.size, 3, none⟩ = some (.bool false) ∧ W.cell? ⟨w.heap.size + 1, 3, none⟩ = some (.slice ab b'.length capb)) → Calls Tryz.prog 52 #[.agg #[.int .i64 D.room, .slice (some ⟨b, off, none⟩) ps.length cap, .int .i64 p2, .bool false]] W fun e w' => e = .returned (.int .i64 (usedP ps : Nat)) ∧ Below W.heap.size W w' := fun W h => used5_any D.room p2 false _ ps W (hSF W h) hup2
        have hqu : q.1.b.length ≤ usedP ps := usedP_mem hqm
        generalize hug : usedP ps = u at *
        have hwrap : IntKind.i64.wrap ((u : Int) + (b'.length : Int)) = (u : Int) + (b'.length : Int) := IntWalk.i64_in _ (by omega)
        go_region_held3 (fun W => Below Wb.heap.size Wb W ∧ W.cell? ⟨w.heap.size, 0, none⟩ = some (.int .i64 D.room) ∧ W.cell? ⟨w.heap.size, 1, none⟩ = some (.slice (some ⟨b, off, none⟩) ps.length cap) ∧ W.cell? ⟨w.heap.size, 2, none⟩ = some (.int .i64 p2) ∧ W.cell? ⟨w.heap.size, 3, none⟩ = some (.bool false) ∧ W.cell? ⟨w.heap.size + 1, 3, none⟩ = some (.slice ab b'.length capb)) (first | assumption) (first | (go_at_call 52; refine (hUW _ (by assumption)).mono ?_; rintro e W1 ⟨rfl, hbu⟩; have hS1 := hSS W1 (hST _ _ (by assumption) hbu)))
        clear hwrap
        have hB1 : Below Wb.heap.size Wb W1 := hS1.1
        have hbb1 : Below w.heap.size w W1 := hbb.trans (hB1.mono (by omega))
        have hz1' := hB1.size
        have m0 := (hB1.block w.heap.size hlw).trans k0p
        have m2 := (hB1.block (w.heap.size + 1 + 1) (by omega)).trans k2p
        have m3 := (hB1.block w2.heap.size (by omega)).trans hb43
        obtain ⟨y0, y1, y2⟩ := cells3 m3
        have n13 := (hB1.cell (p := ⟨w.heap.size + 1, 3, none⟩) hlw1).trans f13
        obtain ⟨n00, n01, n02, n03⟩ := cells4 m0
        clear hSS hSF hST hS0 hUW hS1 f00 f01 f02 f03 f10 f11 f12 f13 x0 x1 x2
        by_cases hr : D.room < (u : Int) + (b'.length : Int)
        · have hR : R = (⟨D.room, D.files, planA D.plan, false⟩, 5) := by
            rw [← HR.out]
            exact bodyA_full ⟨D.room, D.files, planA D.plan, false⟩ _ _ i hnam HF.out q.1 HFI.out (by show D.room < ((usedF D.files + b'.length : Nat) : Int); rw [HU.out]; omega)
          subst hR
          have hdr : decide (D.room < (u : Int) + (b'.length : Int)) = true := decide_eq_true hr
          go_wp2_with ((with_reducible refine at_sto ?_); refine wpList_store4 rfl (ty := 35) (x := .tmp 4) (y := .tmp 83) rfl (w.heap.size + 1 + 1) 35 _ _ _ _ (.int .i64 D.room) (.slice (some ⟨b, off, none⟩) ps.length cap) (.int .i64 p2) (.bool false) rfl rfl m2 size35 rfl rfl rfl rfl ?_; intro W hW1 hW2 hW3)
          refine bodyPost_ret (results_cell_row_tmp (fr := (0, 0)) Tryz.results66 _ _ (w.heap.size + 1 + 1) 35 _ _ rfl hW1 Tryz.underlying35 rfl (by kernel_rfl)) rfl ?_
          have hBf : Below w.heap.size w W := hbb1.trans (hW2.below (by omega) (by intro q h1 h2; omega))
          exact ⟨_, rfl, ⟨.slice (some ⟨b, off, none⟩) ps.length cap, ps, by show _ = Value.agg (dk5 D.room _ (planA D.plan) false); rw [HP.out]; rfl, hs.below hBf, HPS.out⟩, hBf⟩
        · have hR : R = (⟨D.room, putF D.files ⟨q.1.name, q.1.b ++ b', q.1.dur⟩, planA D.plan, false⟩, 0) := by
            rw [← HR.out]
            exact bodyA_append ⟨D.room, D.files, planA D.plan, false⟩ _ _ i hnam HF.out q.1 HFI.out (by show ¬ D.room < ((usedF D.files + b'.length : Nat) : Int); rw [HU.out]; omega)
          subst hR
          have hdr : decide (D.room < (u : Int) + (b'.length : Int)) = false := decide_eq_false hr
          go_wp2_with fail
          have hrq : SlB (fun k => k = w2.heap.size) W1 (.slice a2 q.1.b.length cap2) q.1.b := by have := hsq.any.fr (M' := fun k => k = w2.heap.size) (F := fun _ => False) (Fr.of_below (hb41.trans (hB1.mono (by omega)))) (fun _ h => h.elim) (fun k h1 h2 => by omega); rwa [hsv] at this
          have hrb : SlB (fun k => k = w2.heap.size) W1 (.slice ab b'.length capb) b' := (hbv.any.below hBw).fr (F := fun _ => False) (Fr.of_below (hb41.trans (hB1.mono (by omega)))) (fun _ h => h.elim) (fun k h1 h2 => by omega)
          have hS0 : Fr (fun k => k = w2.heap.size) W1 W1.drew ∧ (W1.drew).cell? ⟨w.heap.size + 1, 3, none⟩ = some (.slice ab b'.length capb) := ⟨Fr.of_below (Below.refl _ _).drew, n13⟩
          have hS0' : Fr (fun k => k = w2.heap.size) W1 W1 ∧ W1.cell? ⟨w.heap.size + 1, 3, none⟩ = some (.slice ab b'.length capb) := ⟨Fr.refl _ _, n13⟩
          have hSS : ∀ W, Fr (fun k => k = w2.heap.size) W1 W → (Fr (fun k => k = w2.heap.size) W1 W ∧ W.cell? ⟨w.heap.size + 1, 3, none⟩ = some (.slice ab b'.length capb)) := fun W h => ⟨h, by rw [World.cell?_of_block (w := W1) (a := ⟨w.heap.size + 1, 3, none⟩) (h.block (w.heap.size + 1) (by omega) (by omega))]; exact n13⟩
          have hSA : ∀ W C, (Fr (fun k => k = w2.heap.size) W1 W ∧ W.cell? ⟨w.heap.size + 1, 3, none⟩ = some (.slice ab b'.length capb)) → Fr (fun k => k = w2.heap.size) W1 (W.alloc C) := fun W C h => h.1.trans (G := fun _ => False) (Fr.of_below ((Below.refl _ _).alloc (Nat.le_refl _) C)) (fun _ _ h => h.elim)
          have hST : ∀ W W', (Fr (fun k => k = w2.heap.size) W1 W ∧ W.cell? ⟨w.heap.size + 1, 3, none⟩ = some (.slice ab b'.length capb)) → Below W1.heap.size W W' → Fr (fun k => k = w2.heap.size) W1 W' := fun W W' h k => h.1.trans (G := fun i => W1.heap.size ≤ i) ⟨k.os, k.tape, k.output, k.size, fun i hi hn => k.block i (by omega)⟩ (fun i h1 h2 => absurd h2 (by omega))
          have hSz : ∀ W, (Fr (fun k => k = w2.heap.size) W1 W ∧ W.cell? ⟨w.heap.size + 1, 3, none⟩ = some (.slice ab b'.length capb)) → W1.heap.size ≤ W.heap.size := fun W h => h.1.size
          have hSQ : ∀ W, (Fr (fun k => k = w2.heap.size) W1 W ∧ W.cell? ⟨w.heap.size + 1, 3, none⟩ = some (.slice ab b'.length capb)) → SlB (fun _ => False) W (.slice a2 q.1.b.length cap2) q.1.b := fun W h => hrq.fr h.1 (fun _ h => h) (fun _ _ h => h.elim)
          have hSB : ∀ W, (Fr (fun k => k = w2.heap.size) W1 W ∧ W.cell? ⟨w.heap.size + 1, 3, none⟩ = some (.slice ab b'.length capb)) → SlB (fun _ => False) W (.slice ab b'.length capb) b' := fun W h => hrb.fr h.1 (fun _ h => h) (fun _ _ h => h.elim)
          have yA : ∀ C, (W1.alloc C).cell? ⟨w2.heap.size, 1, none⟩ = some (.slice a2 q.1.b.length cap2) := fun C => (((Below.refl W1.heap.size W1).alloc (Nat.le_refl _) C).cell (p := ⟨w2.heap.size, 1, none⟩) (by show w2.heap.size < _; omega)).trans y1
          have hz0 : W1.heap.size ≤ W1.heap.size := Nat.le_refl _
          have hlf : w2.heap.size < W1.heap.size := by omega
          have hSC : ∀ W u, Below W1.heap.size W1 W → Fr (fun k => k = w2.heap.size) W1 (W.setCell ⟨w2.heap.size, 1, none⟩ u) := fun W u h => ⟨h.os, h.tape, h.output, by simpa [World.setCell] using h.size, fun k hk hn => by rw [heap_setCell_other _ _ _ _ (fun e => hn e)]; exact h.block k hk⟩
          have hSX : ∀ C, Fr (fun k => k = w2.heap.size) W1 (W1.alloc C).drew ∧ (W1.alloc C).drew.cell? ⟨w.heap.size + 1, 3, none⟩ = some (.slice ab b'.length capb) := fun C => hSS _ ((Fr.mono (Fr.of_below (F := fun _ => False) ((Below.refl _ _).alloc (Nat.le_refl _) _).drew) (fun _ _ h => h.elim)))
          have nA : ∀ C, (W1.alloc C).cell? ⟨w.heap.size + 1, 3, none⟩ = some (.slice ab b'.length capb) := fun C => (hSX C).2
          go_region_law
            (first
              | (refine wpH_appB (base := W1.heap.size) tyB rfl (s := .tmp 84) (x := .tmp 86) rfl rfl rfl (n := 0) (xs := []) (World.ownsRow_made W1 #[] 0 hz0 (by decide) rfl) (hSQ _ (by first | assumption | exact hSX _)) (by simp) (bytes_one _) (by unfold maxLen; omega) (by omega) (hSz _ (by first | assumption | exact hSX _)) ?_; intro v1 w1 ho1 hg1 hb1; have hS1 := hSS w1 (hST _ _ (by first | assumption | exact hSX _) hb1); have n1 := hS1.2; have hBa : Below W1.heap.size W1 w1 := by first | exact ((Below.refl _ _).alloc (Nat.le_refl _) _).trans hb1 | exact ((Below.refl _ _).alloc (Nat.le_refl _) _).drew.trans hb1 | exact (Below.refl _ _).drew.trans hb1)
              | (refine wpH_appB (base := W1.heap.size) tyB rfl (s := .tmp 87) (x := .tmp 89) rfl rfl rfl ho1 (hSB _ (by assumption)) (by simp) (bytes_one _) (by unfold maxLen; omega) (by omega) (hSz _ (by assumption)) ?_; intro v2 w2' ho2 hg2 hb2; have hS2 := hSS w2' (hST _ _ (by assumption) hb2); have hBb : Below W1.heap.size W1 w2' := hBa.trans hb2; obtain ⟨av, cv, rfl, hv1, hv2, _⟩ := (Row.of_owns ho2).open; have hfz := frozen_of_row w2' w2.heap.size 1 _ _ ((hBb.block w2.heap.size (by omega)).trans m3); have hcz := (hBb.cell (p := ⟨w2.heap.size, 1, none⟩) hlf).trans y1))
          all_goals
            have hV1 : (w2'.setCell ⟨w2.heap.size, 1, none⟩ (.slice av (q.1.b.length + b'.length) cv)).heap[w2.heap.size]? = some (.cells #[.string ⟨q.1.name.toArray⟩, .slice av (q.1.b.length + b'.length) cv, .int .i64 (q.1.dur : Nat)] 121 (0, 0)) := heap_setCell_same _ _ _ _ _ _ ((hBb.block w2.heap.size (by omega)).trans m3)
            have hV2 := fr_setCell w2' w2.heap.size 1 (.slice av (q.1.b.length + b'.length) cv)
            have hV3 : (w2'.setCell ⟨w2.heap.size, 1, none⟩ (.slice av (q.1.b.length + b'.length) cv)).heap.size = w2'.heap.size := by simp [World.setCell]
            generalize w2'.setCell ⟨w2.heap.size, 1, none⟩ (.slice av (q.1.b.length + b'.length) cv) = Wv at *
            have hz4 := hBb.size
            have hzv : w.heap.size + 1 + 1 < Wv.heap.size := by omega
            have hbb : Below w.heap.size w Wv := (hbb1.trans (hBb.mono (by omega))).trans (hV2.below (by omega) (by intro q h1 h2; omega))
            have k0p := (hV2.block w.heap.size (by omega) (by intro e; omega)).trans ((hBb.block w.heap.size (by omega)).trans m0)
            have k2p := (hV2.block (w.heap.size + 1 + 1) (by omega) (by intro e; omega)).trans ((hBb.block (w.heap.size + 1 + 1) (by omega)).trans m2)
            have hnv : SlB (fun k => k < W1.heap.size) Wv (.slice av (q.1.b.length + b'.length) cv) (q.1.b ++ b') := by
              have h := (Row.of_owns ho2).fr (M' := fun k => k < W1.heap.size) hV2 (by intro k h; omega) (fun _ _ h => h)
              unfold SlB
              rw [List.map_append, List.length_append]
              rw [Nat.zero_add, List.nil_append] at h
              exact h
            obtain ⟨f00, f01, f02, f03⟩ := cells4 k0p
            obtain ⟨x0, x1, x2⟩ := cells3 hV1
            clear hSS hSA hST hSz hSQ hSB hSC hfz hcz hS0 hS0' yA ho2 n00 n01 n02 n03 y0 y1 y2 hS1 hS2
            go_wp2_with fail
            have hput := put5_any (.slice (some ⟨b, off, none⟩) ps.length cap) ps (⟨q.1.name, q.1.b ++ b', q.1.dur⟩, .slice av (q.1.b.length + b'.length) cv) Wv (hs.any.below hbb) hnv.any (by omega)
            unfold stV at hput
            refine hput.mono ?_
            rintro e w3 ⟨v3, rfl, ho, hb3⟩
            have k0' := (hb3.block w.heap.size (by omega)).trans k0p
            have k2' := (hb3.block (w.heap.size + 1 + 1) (by omega)).trans k2p
            have hz3' := hb3.size
            obtain ⟨a3, cap3, rfl, hc31, hc32, _⟩ := (Row.of_owns ho).open
            go_wp2_with (first | ((with_reducible refine at_sto ?_); refine wpList_store_fld rfl (ty := 33) (x := .tmp 96) (y := .tmp 95) rfl w.heap.size 1 35 (.slice a3 (putK nm ps (⟨q.1.name, q.1.b ++ b', q.1.dur⟩, .slice av (q.1.b.length + b'.length) cv)).length cap3) [.int .i64 D.room, .slice (some ⟨b, off, none⟩) ps.length cap, .int .i64 p2, .bool false] rfl rfl k0' (by simp) size33 rfl rfl ?_; intro W4 hV1 hV2 hV3; replace hV1 : W4.heap[w.heap.size]? = some (.cells #[.int .i64 D.room, .slice a3 (putK nm ps (⟨q.1.name, q.1.b ++ b', q.1.dur⟩, .slice av (q.1.b.length + b'.length) cv)).length cap3, .int .i64 p2, .bool false] 35 (0, 0)) := hV1; obtain ⟨d00, d01, d02, d03⟩ := cells4 hV1; have k2q := (hV2.block (w.heap.size + 1 + 1) (by omega) (by intro e; omega)).trans k2') | ((with_reducible refine at_sto ?_); refine wpList_store4 rfl (ty := 35) (x := .tmp 4) (y := .tmp 132) rfl (w.heap.size + 1 + 1) 35 _ _ _ _ (.int .i64 D.room) (.slice a3 (putK nm ps (⟨q.1.name, q.1.b ++ b', q.1.dur⟩, .slice av (q.1.b.length + b'.length) cv)).length cap3) (.int .i64 p2) (.bool false) rfl rfl k2q size35 rfl rfl rfl rfl ?_; intro W hW1 hW2 hW3))
            refine bodyPost_ret (results_cell_row_tmp (fr := (0, 0)) Tryz.results66 _ _ (w.heap.size + 1 + 1) 35 _ _ rfl hW1 Tryz.underlying35 rfl (by kernel_rfl)) rfl ?_
            have hF3 : Fr (fun k => k = w.heap.size ∨ k = w.heap.size + 1 + 1) w3 W := (hV2.mono (fun k _ h => .inl h)).trans hW2 (fun k _ h => .inr h)
            have hB3w : Below w.heap.size w w3 := hbb.trans (hb3.mono (by omega))
            have hBf : Below w.heap.size w W := hB3w.trans (hF3.below (by omega) (by intro q h1 h2; omega))
            have hrow := (Row.of_owns ho).fr (M' := M) hF3 (by intro q h; rcases h with rfl | rfl <;> omega) (by intro q h1 h2; have := hM q h2; omega)
            have hsh : ShowF M W ((putK nm ps (⟨q.1.name, q.1.b ++ b', q.1.dur⟩, .slice av (q.1.b.length + b'.length) cv))) := fun p hp => by
              rcases mem_putK.1 hp with rfl | ⟨h, _⟩
              · exact (hnv.below hb3).fr hF3 (by intro q h; rcases h with rfl | rfl <;> omega) (by intro q h1 h2; have := hM q h2; omega)
              · exact (hs.2 p h).below hBf
            exact ⟨_, rfl, ⟨_, (putK nm ps (⟨q.1.name, q.1.b ++ b', q.1.dur⟩, .slice av (q.1.b.length + b'.length) cv)), by show _ = Value.agg (dk5 D.room _ (planA D.plan) false); rw [HP.out]; rfl, ⟨hrow, hsh⟩, by rw [putF_map, HPS.out]⟩, hBf⟩
      | rename m => exact absurd rfl (hor m)
  · have hnam' : namedB n = false := by simpa using hnam
    have hR : R = (⟨D.room, D.files, planA D.plan, false⟩, 6) := by rw [← HR.out]; exact bodyA_unnamed _ _ _ hnam'
    subst hR
    rw [hnam'] at hnd
    go_wp2_with fail
    refine (hnd w2).mono ?_
    rintro e w' ⟨rfl, rfl⟩
    go_wp2_with ((with_reducible refine at_sto ?_); refine wpList_store4 rfl (ty := 35) (x := .tmp 4) (y := .tmp 50) rfl (w.heap.size + 1 + 1) 35 _ _ _ _ (.int .i64 D.room) (.slice a ps.length cap) (.int .i64 p2) (.bool false) rfl rfl k2 size35 rfl rfl rfl rfl ?_; intro W hW1 hW2 hW3)
    refine bodyPost_ret (results_cell_row_tmp (fr := (0, 0)) Tryz.results66 _ _ (w.heap.size + 1 + 1) 35 _ _ rfl hW1 Tryz.underlying35 rfl (by kernel_rfl)) rfl ?_
    have hBf : Below w.heap.size w W := hBw.trans (hW2.below (by omega) (by intro q h1 h2; omega))
    exact ⟨_, rfl, ⟨.slice a ps.length cap, ps, by show _ = Value.agg (dk5 D.room _ (planA D.plan) false); rw [HP.out]; rfl, hs.below hBf, HPS.out⟩, hBf⟩

theorem do5_any {M : Nat → Prop} (D : DiskA) (v : Value) (w : World) (h : Ref5 M w D v) (hM : ∀ k, M k → k < w.heap.size) (o : OpA) (n : Bytes) (tv bv : Value) (hin : OpIn M w tv bv o) (hor : ∀ m, o ≠ .rename m) (hp0 : 0 ≤ D.plan) (hp1 : D.plan ≤ 4611686018427387904) (hn : n.length ≤ 1048576) (hl : D.files.length < 1048576) (hu : usedF D.files ≤ 1099511627776) :
    Calls Tryz.prog 66 #[v, op5 (kindA o) (stV n) tv bv] w fun e w' => ∃ v', e = .returned (.tuple #[v', .int .i64 (doA D o n).2]) ∧ Ref5 M w' (doA D o n).1 v' ∧ Below w.heap.size w w' := by
  cases hd : D.down with
  | true =>
    have e : doA D o n = (D, 10) := by unfold doA; rw [if_pos hd]
    rw [e]
    refine (do5_down D v w h _ _ tv bv hd).mono ?_
    rintro e w' ⟨rfl, hb⟩
    exact ⟨v, rfl, h.below hb, hb⟩
  | false =>
    by_cases hp : D.plan = 1
    · have e : doA D o n = ({ D with plan := 0, down := true }, 10) := by unfold doA; rw [if_neg (by rw [hd]; decide), if_pos hp]
      rw [e]
      exact do5_plan D v w h _ _ tv bv hd hp
    · have e : doA D o n = bodyA { D with plan := planA D.plan } o n := by unfold doA; rw [if_neg (by rw [hd]; decide), if_neg hp]
      rw [e]
      exact do5_open D v w h hM o n tv bv hin hor hd hp hp0 hp1 hn hl hu

end Go.Proofs.YtepceidajmedeaaGreatDoor

namespace Go.Proofs.YtepceidajmedeaaGreatDoor
open Go.RowKit CW

def lg8 (room : Int) (sv : Value) (plan : Int) (down : Bool) (most : Int) (n size waiting : Nat) : Array Value := #[.int .i64 room, sv, .int .i64 plan, .bool down, .int .i64 most, .int .i64 (n : Int), .int .i64 (size : Int), .int .i64 (waiting : Int)]
def Ref8 (M : Nat → Prop) (w : World) (L : LogA) (v : Value) : Prop := ∃ sv ps, v = .agg (lg8 L.D.room sv L.D.plan L.D.down L.most L.n L.size L.waiting) ∧ SlF M w sv ps ∧ ps.map (·.1) = L.D.files
theorem Ref8.below {M : Nat → Prop} {w w' : World} {L : LogA} {v : Value} (h : Ref8 M w L v) (hf : Below w.heap.size w w') : Ref8 M w' L v := by
  obtain ⟨sv, ps, h1, h2, h3⟩ := h
  exact ⟨sv, ps, h1, h2.below hf, h3⟩

theorem set4 {W : World} {g : Nat} {t : TypeId} {c0 c1 c2 c3 a b c d : Value} (h : W.heap[g]? = some (.cells #[c0, c1, c2, c3] t (0, 0))) :
    ((((W.setCell ⟨g, 0, none⟩ a).setCell ⟨g, 1, none⟩ b).setCell ⟨g, 2, none⟩ c).setCell ⟨g, 3, none⟩ d).heap[g]? = some (.cells #[a, b, c, d] t (0, 0)) ∧ Fr (fun k => k = g) W ((((W.setCell ⟨g, 0, none⟩ a).setCell ⟨g, 1, none⟩ b).setCell ⟨g, 2, none⟩ c).setCell ⟨g, 3, none⟩ d) := by
  have e0 := heap_setCell_same W g 0 _ t a h
  have e1 := heap_setCell_same _ g 1 _ t b e0
  have e2 := heap_setCell_same _ g 2 _ t c e1
  have e3 := heap_setCell_same _ g 3 _ t d e2
  exact ⟨e3, (((fr_setCell W g 0 a).trans (fr_setCell _ g 1 b) (fun _ _ h => h)).trans (fr_setCell _ g 2 c) (fun _ _ h => h)).trans (fr_setCell _ g 3 d) (fun _ _ h => h)⟩

theorem cells8 {w : World} {g : Nat} {t : TypeId} {fr : Nat × Nat} {a b c d e f i j : Value} (h : w.heap[g]? = some (.cells #[a, b, c, d, e, f, i, j] t fr)) :
    w.cell? ⟨g, 0, none⟩ = some a ∧ w.cell? ⟨g, 1, none⟩ = some b ∧ w.cell? ⟨g, 2, none⟩ = some c ∧ w.cell? ⟨g, 3, none⟩ = some d ∧ w.cell? ⟨g, 4, none⟩ = some e ∧ w.cell? ⟨g, 5, none⟩ = some f ∧ w.cell? ⟨g, 6, none⟩ = some i ∧ w.cell? ⟨g, 7, none⟩ = some j :=
  ⟨by rw [Go.cell_of_row _ g 0 _ _ _ h]; rfl, by rw [Go.cell_of_row _ g 1 _ _ _ h]; rfl, by rw [Go.cell_of_row _ g 2 _ _ _ h]; rfl, by rw [Go.cell_of_row _ g 3 _ _ _ h]; rfl, by rw [Go.cell_of_row _ g 4 _ _ _ h]; rfl, by rw [Go.cell_of_row _ g 5 _ _ _ h]; rfl, by rw [Go.cell_of_row _ g 6 _ _ _ h]; rfl, by rw [Go.cell_of_row _ g 7 _ _ _ h]; rfl⟩

theorem name8_any (c0 c1 c2 c3 c4 c6 c7 : Value) (n : Nat) (w : World) (h1 : 1 ≤ n) (h2 : n ≤ 99999999) :
    Calls Tryz.prog 69 #[.agg #[c0, c1, c2, c3, c4, .int .i64 (n : Int), c6, c7]] w fun e w' => e = .returned (.string ⟨(nameB n).toArray⟩) ∧ Below w.heap.size w w' := by
  have hc := fun W => name7_any n W (by omega)
  have hB := (boxF w (.cells #[c0, c1, c2, c3, c4, .int .i64 (n : Int), c6, c7] 37)).1
  have hc' : ∀ W, Calls Tryz.prog 73 #[.int .i64 (n : Int)] W fun e w' => w' = W ∧ e = .returned (.tuple #[.string ⟨(nameB n).toArray⟩, .bool true]) := fun W => (hc W).mono (by
    rintro e w' ⟨rfl, ⟨_, _, h⟩ | ⟨h, _⟩⟩
    · exact ⟨rfl, h⟩
    · exact absurd ⟨h1, h2⟩ h)
  clear hc
  generalize nameB n = nb at *
  go_enter Tryz.func69, Tryz.ntmps69
  go_wp2_with (go_at_call 73; refine (hc' _).mono ?_; rintro e w1 ⟨rfl, rfl⟩)
  go_ret
  exact ⟨rfl, hB⟩

theorem size37 : (Tryz.prog.info? 37).map (·.size) = some 8 := by kernel_rfl

end Go.Proofs.YtepceidajmedeaaGreatDoor
