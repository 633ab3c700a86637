/- Lemmas for a law of this seat, part 16: contracts of the functions that it reaches, and the plain law. No condition but those of each lemma. -/
import Derived.Test.YtepceidajmedeaaGreatDoorWal14
import Derived.Test.YtepceidajmedeaaGreatDoorWal15
import Derived.BigQuiet
import Derived.Deep.RegionHeld3
import Derived.Deep.RegionLaw
import Derived.IntWalk

namespace Go.Proofs.YtepceidajmedeaaGreatDoor
open Go.RowKit CW

theorem run1_any (n : Bytes) (w : World) (hn : n.length ≤ 1048576) :
    Calls Tryz.prog 149 #[.string ⟨n.toArray⟩] w fun e w' => e = .returned (.bool (!namedB n)) ∧ Below w.heap.size w w' := by
  have h := named_any n w (by omega)
  generalize namedB n = b at *
  go_enter Tryz.func149, Tryz.ntmps149
  go_wp2_with (go_at_call 150; refine h.mono ?_; rintro e w1 ⟨rfl, hb⟩)
  go_ret
  exact ⟨rfl, hb⟩

set_option maxHeartbeats 400000 in
theorem indexNames_any (v : Value) (ns : List Bytes) (w : World) (hv : Row (fun _ => False) w v ns.length (ns.map stV)) (hl : ∀ n ∈ ns, n.length ≤ 1048576) :
    Calls Tryz.prog 182 #[v, .func (.func 149) #[] #[]] w fun e w' => ∃ z : Int, e = .returned (.int .i64 z) ∧ decide (0 ≤ z) = ns.any (fun n => !namedB n) ∧ Below w.heap.size w w' := by
  obtain ⟨a, cap, rfl, hn, hcap, _, hcell⟩ := Row.open hv
  go_enter Tryz.func182, Tryz.ntmps182
  go_wp2
  go_loopw [8] (fun i wr => ∃ k : Nat, k ≤ ns.length ∧ i = .int .i64 k ∧ Hid ((ns.take k).any (fun n => !namedB n) = false) ∧ Below w.heap.size w wr) (fun i _ => ns.length - (intOf i).toNat)
  case atStart => exact ⟨0, by omega, rfl, rfl, Below.refl _ _⟩
  case round =>
    obtain ⟨k, hk, rfl, HA, hB⟩ := hrel
    by_cases hlt : k < ns.length
    · obtain ⟨b, off, rfl, hbl, _, hc⟩ := hcell (by omega)
      have h1 := (hB.cell (p := ⟨b, off + k, none⟩) hbl).trans (hc k (stV ns[k]) (by simp [hlt]))
      have hn1 := run1_any ns[k] wr (hl _ (List.getElem_mem hlt))
      have HT : Hid (ns.take (k + 1) = ns.take k ++ [ns[k]]) := List.take_succ_eq_append_getElem hlt
      have hmem := List.getElem_mem hlt
      unfold stV at h1
      clear hc hcell
      have i1 : (k : Int) < (ns.length : Int) := by omega
      cases hnb : namedB ns[k] with
      | true =>
        have HA2 : Hid ((ns.take (k + 1)).any (fun n => !namedB n) = false) := by show _ = _; rw [HT.out, List.any_append, HA.out]; simp [hnb]
        rw [hnb] at hn1
        generalize ns[k] = y at *
        clear hnb HT HA
        go_wp2_with (go_at_call 149; refine hn1.mono ?_; rintro e w1 ⟨rfl, hb1⟩; have hB1 := hB.trans (hb1.mono hB.size))
        go_roundw
        case rel => exact ⟨k + 1, by omega, by go_num, HA2, hB1⟩
        case measure => simp [intOf]; omega
      | false =>
        have HE : Hid (decide ((0 : Int) ≤ (k : Int)) = ns.any (fun n => !namedB n)) := by
          show _ = _
          rw [decide_eq_true (by omega)]
          exact (List.any_eq_true.2 ⟨ns[k], hmem, by simp [hnb]⟩).symm
        rw [hnb] at hn1
        generalize ns[k] = y at *
        clear hnb HT HA
        go_wp2_with (go_at_call 149; refine hn1.mono ?_; rintro e w1 ⟨rfl, hb1⟩; have hB1 := hB.trans (hb1.mono hB.size))
        go_ret
        exact ⟨_, rfl, HE.out, hB1⟩
    · have htk : ns.take k = ns := List.take_of_length_le (by omega)
      have HE : Hid (ns.any (fun n => !namedB n) = false) := by have := HA.out; rw [htk] at this; exact this
      clear HA htk
      go_wp2
      go_ret
      exact ⟨-1, rfl, by rw [HE.out] <;> rfl, hB⟩

theorem containsNames_any (v : Value) (ns : List Bytes) (w : World) (hv : Row (fun _ => False) w v ns.length (ns.map stV)) (hl : ∀ n ∈ ns, n.length ≤ 1048576) :
    Calls Tryz.prog 148 #[v, .func (.func 149) #[] #[]] w fun e w' => e = .returned (.bool (ns.any (fun n => !namedB n))) ∧ Below w.heap.size w w' := by
  have hi := indexNames_any v ns w hv hl
  generalize ns.any (fun n => !namedB n) = b at *
  go_enter Tryz.func148, Tryz.ntmps148
  go_wp2_with (go_at_call 182; refine hi.mono ?_; rintro e w1 ⟨z, rfl, hz, hb⟩)
  go_ret
  exact ⟨by rw [← hz] <;> rfl, hb⟩

end Go.Proofs.YtepceidajmedeaaGreatDoor

namespace Go.Proofs.YtepceidajmedeaaGreatDoor
open Go.RowKit CW

theorem look_none {S : Nat → Prop} {w : World} {d mb : Nat} {D : DiskA} {qs : List Ent} (h : DiskIn S w d mb D qs) (n : Bytes) (hn : n.length ≤ 1048576) (hf : findK nq qs n = none) :
    (Instr.lookup 131 (.map (some mb)) (.string ⟨n.toArray⟩) true).run Tryz.prog w = .ok (.tuple #[.pointer none, .bool false]) w := by
  rcases ent_ptr h n hn with ⟨_, h⟩ | ⟨i, _, h, _⟩
  · exact h
  · rw [hf] at h; cases h
theorem look_some {S : Nat → Prop} {w : World} {d mb : Nat} {D : DiskA} {qs : List Ent} (h : DiskIn S w d mb D qs) (n : Bytes) (hn : n.length ≤ 1048576) (i : Nat) (hi : i < qs.length) (hf : findK nq qs n = some i) :
    (Instr.lookup 131 (.map (some mb)) (.string ⟨n.toArray⟩) true).run Tryz.prog w = .ok (.tuple #[.pointer (some ⟨qs[i].2.1, 0, none⟩), .bool true]) w := by
  rcases ent_ptr h n hn with ⟨h, _⟩ | ⟨j, hj, h, hr⟩
  · rw [hf] at h; cases h
  · rw [hf] at h; cases h; exact hr

/-- A change's result: the disk behind it, its code. -/
def DiskPost (S : Nat → Prop) (w : World) (d : Nat) (R : DiskA × Int) (e : Ending) (w' : World) : Prop :=
  ∃ S' : Nat → Prop, e = .returned (.int .i64 R.2) ∧ DiskAt S' w' d R.1 ∧ Fr S w w' ∧ ∀ k, k < w.heap.size → S' k → S k

def freshOf : OpA → Bool
  | .create => true
  | _ => false

theorem size134 : (Tryz.prog.info? 3).map (·.size) = some 1 := by kernel_rfl
theorem size4 : (Tryz.prog.info? 4).map (·.size) = some 1 := by kernel_rfl

theorem DiskIn.turn {S : Nat → Prop} {w w' : World} {d mb : Nat} {D : DiskA} {qs : List Ent} (h : DiskIn S w d mb D qs) (plan : Int) (down : Bool) (hf : Fr (fun k => k = d) w w')
    (hb : w'.heap[d]? = some (.cells #[.int .i64 D.room, .map (some mb), .int .i64 plan, .bool down] 134 (0, 0))) : DiskIn S w' d mb { D with plan := plan, down := down } qs :=
  have hm : ∀ k u, w.heap[k]? = some u → k ≠ d → w'.heap[k]? = some u := fun k u hk hne => (hf.block k (Array.getElem?_eq_some_iff.1 hk).1 hne).trans hk
  { files := h.files
    blk := hb
    map := by
      obtain ⟨es, clock, h1, r⟩ := h.map
      refine ⟨es, clock, hm mb _ h1 (fun e => ?_), r⟩
      rw [e, h.blk] at h1
      cases h1
    file := fun q hq => by
      refine ⟨hm _ _ (h.file q hq).1 (fun e => ?_), ?_⟩
      · have := (h.file q hq).1
        rw [e, h.blk] at this
        simp at this
      · refine ⟨(h.file q hq).2.1, ?_⟩
        rcases (h.file q hq).2.2 with h' | ⟨g, cap, cur, hv, hg, hh, r⟩
        · exact .inl h'
        · refine .inr ⟨g, cap, cur, hv, hg, hm g _ hh (fun e => ?_), r⟩
          rw [e, h.blk] at hh
          cases hh
    apart := h.apart
    sorted := h.sorted
    inD := h.inD
    inM := h.inM
    inF := h.inF
    lt := fun k hk => Nat.lt_of_lt_of_le (h.lt k hk) hf.size
    name := h.name }

set_option maxHeartbeats 2000000 in
set_option maxRecDepth 100000 in
theorem run_down {S : Nat → Prop} (D : DiskA) (d : Nat) (w : World) (h : DiskAt S w d D) (o : OpA) (n : Bytes) (c : Value) (cs : Array Value) (hc : c = .agg cs) (hd : D.down = true) :
    Calls Tryz.prog 103 #[.pointer (some ⟨d, 0, none⟩), c] w (DiskPost S w d (doA D o n)) := by
  have e : doA D o n = (D, 10) := by unfold doA; rw [if_pos hd]
  rw [e]
  subst hc
  obtain ⟨mb, qs, h⟩ := h
  have hb := h.blk
  rw [hd] at hb
  have hB := (boxF w (.cells cs 154)).1
  have hb1 := (hB.block d (h.lt d h.inD)).trans hb
  obtain ⟨c0, c1, c2, c3⟩ := cells4 hb1
  go_enter Tryz.func103, Tryz.ntmps103
  go_wp2
  go_ret
  exact ⟨S, rfl, ⟨mb, qs, h.below hB⟩, Fr.of_below hB, fun _ _ h => h⟩

theorem turn2 {W : World} {d : Nat} {a b c e u : Value} {t : TypeId} (h : W.heap[d]? = some (.cells ([a, b, c, e].set 2 u).toArray t (0, 0))) : W.heap[d]? = some (.cells #[a, b, u, e] t (0, 0)) := h
theorem turn3 {W : World} {d : Nat} {a b c e u : Value} {t : TypeId} (h : W.heap[d]? = some (.cells ([a, b, c, e].set 3 u).toArray t (0, 0))) : W.heap[d]? = some (.cells #[a, b, c, u] t (0, 0)) := h

set_option maxHeartbeats 2000000 in
set_option maxRecDepth 100000 in
theorem run_plan {S : Nat → Prop} (D : DiskA) (d : Nat) (w : World) (h : DiskAt S w d D) (o : OpA) (n : Bytes) (c : Value) (cs : Array Value) (hc : c = .agg cs) (hd : D.down = false) (hp : D.plan = 1) :
    Calls Tryz.prog 103 #[.pointer (some ⟨d, 0, none⟩), c] w (DiskPost S w d (doA D o n)) := by
  have e : doA D o n = ({ D with plan := 0, down := true }, 10) := by unfold doA; rw [if_neg (by rw [hd]; decide), if_pos hp]
  rw [e]
  subst hc
  obtain ⟨mb, qs, h⟩ := h
  have hb := h.blk
  rw [hd, hp] at hb
  have hB := (boxF w (.cells cs 154)).1
  have hb1 := (hB.block d (h.lt d h.inD)).trans hb
  have h1 := h.below hB
  obtain ⟨c0, c1, c2, c3⟩ := cells4 hb1
  go_enter Tryz.func103, Tryz.ntmps103
  go_wp2_with (first
    | ((with_reducible refine at_sto ?_); refine wpList_store_fld rfl (ty := 3) (x := .tmp 24) rfl d 2 134 (.int .i64 0) _ rfl rfl hb1 (by simp) size134 rfl rfl ?_; intro W1 hV1 hV2 hV3; replace hV1 := turn2 hV1)
    | ((with_reducible refine at_sto ?_); refine wpList_store_fld rfl (ty := 4) (x := .tmp 26) rfl d 3 134 (.bool true) _ rfl rfl hV1 (by simp) size4 rfl rfl ?_; intro W2 hU1 hU2 hU3; replace hU1 := turn3 hU1))
  go_ret
  have hF : Fr (fun k => k = d) (w.alloc (.cells cs 154)) W2 := hV2.trans hU2 (fun _ _ h => h)
  refine ⟨S, rfl, ⟨mb, qs, h1.turn 0 true hF hU1⟩, ?_, fun _ _ h => h⟩
  exact ((Fr.of_below hB).trans hF (fun k _ hk => by rw [hk]; exact h.inD))

/-- The pointer that the change is handed. -/
def ptrOf (qs : List Ent) (n : Bytes) : Value := match (findK nq qs n).bind (fun i => qs[i]?) with | some q => .pointer (some ⟨q.2.1, 0, none⟩) | none => .pointer none

theorem DiskPost.trans {S : Nat → Prop} {w W : World} {d : Nat} {R : DiskA × Int} {e : Ending} {w' : World} (h : DiskPost S W d R e w') (hf : Fr S w W) : DiskPost S w d R e w' := by
  obtain ⟨S', h1, h2, h3, h4⟩ := h
  exact ⟨S', h1, h2, hf.trans h3 (fun _ _ h => h), fun k hk => h4 k (Nat.lt_of_lt_of_le hk hf.size)⟩

theorem bodyK_unnamed (D : DiskA) (o : OpA) (n : Bytes) (h : namedB n = false) : bodyA D o n = (D, 6) := by unfold bodyA; rw [if_pos h]
theorem findF_qs {qs : List Ent} {D : DiskA} (h : qs.map (·.1) = D.files) (n : Bytes) : findF D.files n = findK nq qs n := by
  rw [← h]; exact findK_map (key' := FileA.name) (key := nq) (fun p : Ent => p.1) (fun _ => rfl) qs n
theorem bodyK_twice (D : DiskA) (n : Bytes) (h : namedB n = true) (hf : (findF D.files n).isSome = true) : bodyA D .create n = (D, 7) := by
  obtain ⟨i, hi⟩ := Option.isSome_iff_exists.1 hf
  obtain ⟨hl, _⟩ := findK_some hi
  unfold bodyA; rw [if_neg (by rw [h]; decide), hi]; simp [List.getElem?_eq_getElem hl]
theorem bodyK_miss (D : DiskA) (o : OpA) (n : Bytes) (ho : freshOf o = false) (hf : (findF D.files n).isSome = false) : bodyA D o n = (D, 6) := by
  have hf : findF D.files n = none := by simpa using hf
  unfold bodyA
  split
  · rfl
  · rw [hf]
    cases o <;> first | rfl | cases ho

theorem ptrOf_some {qs : List Ent} {n : Bytes} {i : Nat} (hi : i < qs.length) (h : findK nq qs n = some i) : ptrOf qs n = .pointer (some ⟨qs[i].2.1, 0, none⟩) := by unfold ptrOf; rw [h]; simp [List.getElem?_eq_getElem hi]
theorem ptrOf_none {qs : List Ent} {n : Bytes} (h : findK nq qs n = none) : ptrOf qs n = .pointer none := by unfold ptrOf; rw [h]; rfl
theorem ptrOf_ptr (qs : List Ent) (n : Bytes) : ∃ pa, ptrOf qs n = .pointer pa := by
  unfold ptrOf
  split
  · exact ⟨_, rfl⟩
  · exact ⟨_, rfl⟩
theorem look_any {S : Nat → Prop} {w : World} {d mb : Nat} {D : DiskA} {qs : List Ent} (h : DiskIn S w d mb D qs) (n : Bytes) (hn : n.length ≤ 1048576) :
    (Instr.lookup 131 (.map (some mb)) (.string ⟨n.toArray⟩) true).run Tryz.prog w = .ok (.tuple #[ptrOf qs n, .bool (findK nq qs n).isSome]) w := by
  rcases ent_ptr h n hn with ⟨hf, h⟩ | ⟨i, hi, hf, hr⟩
  · rw [ptrOf_none hf, hf]; exact h
  · rw [ptrOf_some hi hf, hf]; exact hr

set_option maxHeartbeats 4000000 in
set_option maxRecDepth 100000 in
theorem run_open {S : Nat → Prop} (D : DiskA) (d : Nat) (w : World) (h : DiskAt S w d D) (o : OpA) (n : Bytes) (hn : n.length ≤ 1048576) (vn : Value) (hvn : Row S w vn 1 [stV n]) (f : Nat) (hfe : ∀ args W, (callFunc f args).run Tryz.prog W = .ok (.enter f args) W) (caps : Array Value) (hd : D.down = false) (hp : D.plan ≠ 1) (hp0 : 0 ≤ D.plan) (hp1 : D.plan ≤ 4611686018427387904)
    (hdo : ∀ W mb qs, DiskIn S W d mb { D with plan := planA D.plan } qs → Fr S w W → namedB n = true → (findK nq qs n).isSome = (!freshOf o) → Calls Tryz.prog f (#[ptrOf qs n] ++ caps) W (DiskPost S W d (bodyA { D with plan := planA D.plan } o n))) :
    Calls Tryz.prog 103 #[.pointer (some ⟨d, 0, none⟩), .agg #[vn, .bool (freshOf o), .func (.func f) #[] caps]] w (DiskPost S w d (doA D o n)) := by
  have e : doA D o n = bodyA { D with plan := planA D.plan } o n := by unfold doA; rw [if_neg (by rw [hd]; decide), if_neg hp]
  rw [e]
  clear e
  obtain ⟨room, files, plan, down⟩ := D
  obtain ⟨mb, qs, h⟩ := h
  simp only at hd hp hp0 hp1
  subst hd
  have hb : w.heap[d]? = some (.cells #[.int .i64 room, .map (some mb), .int .i64 plan, .bool false] 134 (0, 0)) := h.blk
  have hd1 : (plan == 1) = false := by simpa using hp
  have HP : Hid (planA plan = max (plan - 1) 0) := rfl
  obtain ⟨fr, hfr⟩ : ∃ fr, freshOf o = fr := ⟨_, rfl⟩
  have HFR : Hid (freshOf o = fr) := hfr
  rw [hfr] at hdo ⊢
  clear hfr
  obtain ⟨an, capn, rfl, hn1, hn2, _, hcn⟩ := hvn.open
  obtain ⟨bn, on, rfl, hbn, hSn, hcn⟩ := hcn (by omega)
  have hB := (boxF w (.cells #[.slice (some ⟨bn, on, none⟩) 1 capn, .bool fr, .func (.func f) #[] caps] 154)).1
  have hx := (boxF w (.cells #[.slice (some ⟨bn, on, none⟩) 1 capn, .bool fr, .func (.func f) #[] caps] 154)).2.2
  have hz := (boxF w (.cells #[.slice (some ⟨bn, on, none⟩) 1 capn, .bool fr, .func (.func f) #[] caps] 154)).2.1
  have hb1 := (hB.block d (h.lt d h.inD)).trans hb
  have h1 := h.below hB
  have hdlt := h.lt d h.inD
  obtain ⟨c0, c1, c2, c3⟩ := cells4 hb1
  go_enter Tryz.func103, Tryz.ntmps103
  go_wp2_with ((with_reducible refine at_sto ?_); refine wpList_store_fld rfl (ty := 3) (x := .tmp 35) rfl d 2 134 (.int .i64 (max (plan - 1) 0)) _ rfl rfl hb1 (by simp) size134 rfl rfl ?_; intro W1 hV1 hV2 hV3; replace hV1 := turn2 hV1)
  have hin := h1.turn (max (plan - 1) 0) false hV2 hV1
  have hfw : Fr S w W1 := (Fr.of_below hB).trans hV2 (fun k _ hk => by rw [hk]; exact h.inD)
  have hx1 := (hV2.block w.heap.size (by omega) (by intro e; omega)).trans hx
  have hnc : W1.cell? ⟨bn, on, none⟩ = some (.string ⟨n.toArray⟩) := by
    rw [World.cell?_of_block (w := w) (a := ⟨bn, on, none⟩) (hfw.block bn hbn hSn)]
    exact hcn 0 (stV n) rfl
  have hrow1 : Row (fun _ => False) W1 (.slice (some ⟨bn, on, none⟩) 1 capn) 1 [stV n] := hvn.fr hfw (fun _ h => h) (fun _ _ h => h.elim)
  clear hdlt c0 c1 c2 c3 hb1 hx hcn
  generalize (w.alloc (.cells #[.slice (some ⟨bn, on, none⟩) 1 capn, .bool fr, .func (.func f) #[] caps] 154)) = W0 at *
  rw [← HP.out] at hV1 hin
  have hlk : ∀ m, (Instr.lookup 131 (.map (some mb)) (.string ⟨n.toArray⟩) true).run Tryz.prog (W1.drewN m) = .ok (.tuple #[ptrOf qs n, .bool (findK nq qs n).isSome]) (W1.drewN m) := fun m => look_any (hin.below (below_drewN' (Below.refl _ _) m)) n hn
  have hdo1 := fun W (hW : Below W1.heap.size W1 W) => hdo W mb qs (hin.below hW) (hfw.trans (Fr.of_below hW (F := fun _ => False)) (fun _ _ h => h.elim))
  have HFQ : Hid (findF files n = findK nq qs n) := findF_qs hin.files n
  obtain ⟨pa, hpa⟩ := ptrOf_ptr qs n
  rw [hpa] at hlk hdo1
  obtain ⟨ok, hok⟩ : ∃ ok, (findK nq qs n).isSome = ok := ⟨_, rfl⟩
  have HOK : Hid ((findF files n).isSome = ok) := by show _ = _; rw [HFQ.out]; exact hok
  rw [hok] at hlk hdo1
  clear hdo hok hpa
  obtain ⟨c0, c1, c2, c3⟩ := cells4 hV1
  obtain ⟨x0, x1, x2⟩ := cells3 hx1
  have ip : (0 : Int) < (1 : Nat) := by decide
  go_wp2
  go_quiet (fail)
  have hBq : Below W1.heap.size W1 (W1.drewN nq) := below_drewN' (Below.refl _ _) nq
  have hx2 := (hBq.block w.heap.size (by omega)).trans hx1
  have hrow2 := hrow1.below hBq
  have hin2 := hin.below hBq
  generalize W1.drewN nq = Wq at *
  obtain ⟨x0', x1', x2'⟩ := cells3 hx2
  have hcf := containsNames_any _ [n] Wq hrow2 (by intro m hm; simp at hm; subst hm; exact hn)
  have hnm : [n].any (fun n => !namedB n) = !namedB n := by simp
  rw [hnm] at hcf
  clear c0 c1 c2 c3 x0 x1 x2 hlk ip hnc hnm
  go_wp2_with fail
  refine hcf.mono ?_
  rintro e W2 ⟨rfl, hb2⟩
  have hx3 := (hb2.block w.heap.size (by have := hBq.size; omega)).trans hx2
  obtain ⟨z0, z1, z2⟩ := cells3 hx3
  have hB2 : Below W1.heap.size W1 W2 := hBq.trans (hb2.mono hBq.size)
  have hin3 := hin.below hB2
  have hf3 : Fr S w W2 := hfw.trans (Fr.of_below hB2 (F := fun _ => False)) (fun _ _ h => h.elim)
  have hdo2 := hdo1 W2 hB2
  clear x0' x1' x2' hcf hdo1 hrow1 hrow2
  cases hnb : namedB n with
  | false =>
    have HR : Hid (bodyA ⟨room, files, planA plan, false⟩ o n = (⟨room, files, planA plan, false⟩, 6)) := bodyK_unnamed _ _ _ hnb
    go_wp2
    go_ret
    show DiskPost S w d (bodyA _ o n) _ _
    rw [HR.out]
    exact ⟨S, rfl, ⟨mb, qs, hin3⟩, hf3, fun _ _ h => h⟩
  | true =>
    cases fr with
    | true =>
      have ho : o = .create := by
        have := HFR.out
        cases o <;> first | rfl | cases this
      subst ho
      cases ok with
      | true =>
        have HR : Hid (bodyA ⟨room, files, planA plan, false⟩ .create n = (⟨room, files, planA plan, false⟩, 7)) := bodyK_twice ⟨room, files, planA plan, false⟩ _ hnb HOK.out
        go_wp2
        go_ret
        show DiskPost S w d (bodyA _ .create n) _ _
        rw [HR.out]
        exact ⟨S, rfl, ⟨mb, qs, hin3⟩, hf3, fun _ _ h => h⟩
      | false =>
        have hdo3 := hdo2 hnb rfl
        clear hdo2
        go_wp2_with fail
        refine hdo3.mono ?_
        rintro e W3 hP
        obtain ⟨S', rfl, hP2, hP3, hP4⟩ := hP
        go_wp2
        go_ret
        exact ⟨S', rfl, hP2, hf3.trans hP3 (fun _ _ h => h), fun k hk => hP4 k (Nat.lt_of_lt_of_le hk hf3.size)⟩
    | false =>
      cases ok with
      | false =>
        have HR : Hid (bodyA ⟨room, files, planA plan, false⟩ o n = (⟨room, files, planA plan, false⟩, 6)) := bodyK_miss _ _ _ HFR.out HOK.out
        go_wp2
        go_ret
        show DiskPost S w d (bodyA _ o n) _ _
        rw [HR.out]
        exact ⟨S, rfl, ⟨mb, qs, hin3⟩, hf3, fun _ _ h => h⟩
      | true =>
        have hdo3 := hdo2 hnb rfl
        clear hdo2
        go_wp2_with fail
        refine hdo3.mono ?_
        rintro e W3 hP
        obtain ⟨S', rfl, hP2, hP3, hP4⟩ := hP
        go_wp2
        go_ret
        exact ⟨S', rfl, hP2, hf3.trans hP3 (fun _ _ h => h), fun k hk => hP4 k (Nat.lt_of_lt_of_le hk hf3.size)⟩

end Go.Proofs.YtepceidajmedeaaGreatDoor

namespace Go.Proofs.YtepceidajmedeaaGreatDoor
open Go.RowKit CW

theorem insK_perm {α : Type} {key : α → Bytes} (l : List α) (x : α) : (insK key l x).Perm (x :: l) := by
  unfold insK
  refine List.perm_middle.trans ?_
  rw [List.takeWhile_append_dropWhile]

def Apart (p q : Ent) : Prop := p.2.1 ≠ q.2.1 ∧ ∀ g, p.2.2.ownBlock = some g → q.2.2.ownBlock ≠ some g
theorem Apart.symm {p q : Ent} (h : Apart p q) : Apart q p := ⟨fun e => h.1 e.symm, fun g hq hp => h.2 g hp hq⟩

/-- A new file. -/
theorem DiskIn.ins {S : Nat → Prop} {w w' : World} {d mb fb m : Nat} {D : DiskA} {qs : List Ent} (h : DiskIn S w d mb D qs) (n : Bytes) (hn : n.length ≤ 100) (hf : findK nq qs n = none) (hfb : fb = w.heap.size) (hlt : fb < w'.heap.size)
    (hfr : Fr (fun k => k = mb) w w') (hmap : w'.ownsMap Tryz.prog 9 ptrE mb m ((mapQ qs).put (.string n) (.lit (.int .i64 (fb : Int)))))
    (hnew : w'.heap[fb]? = some (.cells #[.slice none 0 0, .int .i64 0] 151 (0, 0))) :
    DiskIn (fun k => S k ∨ k = fb) w' d mb { D with files := putF D.files ⟨n, [], 0⟩ } (putK nq qs (⟨n, [], 0⟩, fb, .slice none 0 0)) := by
  have hm : ∀ k u, w.heap[k]? = some u → k ≠ mb → w'.heap[k]? = some u := fun k u hk hne => (hfr.block k (Array.getElem?_eq_some_iff.1 hk).1 hne).trans hk
  obtain ⟨es, clock, hmb, _⟩ := h.map
  have hne : ∀ k cs t fz, w.heap[k]? = some (Obj.cells cs t fz) → w'.heap[k]? = some (Obj.cells cs t fz) := fun k cs t fz hk => hm k _ hk (fun e => by rw [e, hmb] at hk; cases hk)
  have hwo : withoutK nq qs n = qs := withoutK_of_not (findK_none.1 hf)
  have hmem : ∀ q, q ∈ putK nq qs (⟨n, [], 0⟩, fb, .slice none 0 0) ↔ q = (⟨n, [], 0⟩, fb, .slice none 0 0) ∨ q ∈ qs := fun q => by
    rw [mem_putK]
    constructor
    · rintro (h | h); exact .inl h; exact .inr h.1
    · rintro (h | h); exact .inl h; exact .inr ⟨h, findK_none.1 hf q h⟩
  refine
  { files := ?_
    blk := hne _ _ _ _ h.blk
    map := ?_
    file := fun q hq => ?_
    apart := ?_
    sorted := putK_sorted h.sorted _
    inD := .inl h.inD
    inM := .inl h.inM
    inF := fun q hq => ?_
    lt := fun k hk => ?_
    name := fun q hq => ?_ }
  · show _ = putF D.files ⟨n, [], 0⟩
    rw [← h.files]
    exact (putK_map (key' := FileA.name) (key := nq) (fun p : Ent => p.1) (fun _ => rfl) qs (⟨n, [], 0⟩, fb, .slice none 0 0)).symm
  · have e : (mapQ qs).put (.string n) (.lit (.int .i64 (fb : Int))) = mapQ (putK nq qs (⟨n, [], 0⟩, fb, .slice none 0 0)) := mapK_put (key := nq) dq qs (⟨n, [], 0⟩, fb, .slice none 0 0)
    rw [e] at hmap
    have := ownsMap_tight hmap
    rwa [mapK_size] at this
  · rcases (hmem q).1 hq with rfl | hq
    · exact ⟨hnew, World.ownsRow_nil _ _ _ _⟩
    · refine ⟨hne _ _ _ _ (h.file q hq).1, (h.file q hq).2.1, ?_⟩
      rcases (h.file q hq).2.2 with h' | ⟨g, cap, cur, hv, hg, hh, r⟩
      · exact .inl h'
      · exact .inr ⟨g, cap, cur, hv, hg, hne _ _ _ _ hh, r⟩
  · show (insK nq (withoutK nq qs n) _).Pairwise Apart
    rw [hwo]
    refine ((insK_perm _ _).pairwise_iff (fun h => Apart.symm h)).2 (List.pairwise_cons.2 ⟨fun q hq => ⟨fun e => ?_, fun g hg => by cases hg⟩, h.apart⟩)
    have e : fb = q.2.1 := e
    have := h.lt _ (h.inF q hq).1
    omega
  · rcases (hmem q).1 hq with rfl | hq
    · exact ⟨.inr rfl, fun g hg => by cases hg⟩
    · exact ⟨.inl (h.inF q hq).1, fun g hg => .inl ((h.inF q hq).2 g hg)⟩
  · rcases hk with hk | rfl
    · exact Nat.lt_of_lt_of_le (h.lt k hk) hfr.size
    · exact hlt
  · rcases (hmem q).1 hq with rfl | hq
    · exact hn
    · exact h.name q hq

theorem pairwise_set {α : Type} {R : α → α → Prop} (hsym : ∀ {a b}, R a b → R b a) {l : List α} {i : Nat} (_hi : i < l.length) {x : α} (h : l.Pairwise R) (hx : ∀ j (hj : j < l.length), j ≠ i → R l[j] x) : (l.set i x).Pairwise R := by
  rw [List.pairwise_iff_getElem] at *
  intro a b ha hb hab
  rw [List.length_set] at ha hb
  rw [List.getElem_set, List.getElem_set]
  by_cases h1 : i = a
  · subst h1
    rw [if_pos rfl, if_neg (by omega)]
    exact hsym (hx b hb (by omega))
  · rw [if_neg h1]
    by_cases h2 : i = b
    · subst h2
      rw [if_pos rfl]
      exact hx a ha (by omega)
    · rw [if_neg h2]
      exact h a b ha hb hab

/-- A file's turn. -/
theorem DiskIn.upd {S : Nat → Prop} {w w' : World} {d mb : Nat} {D : DiskA} {qs : List Ent} (h : DiskIn S w d mb D qs) (i : Nat) (hi : i < qs.length) (f' : FileA) (v' : Value) (hnm : f'.name = qs[i].1.name)
    (hfr : Fr (fun k => k = qs[i].2.1 ∨ qs[i].2.2.ownBlock = some k) w w')
    (hblk : w'.heap[qs[i].2.1]? = some (.cells #[v', .int .i64 (f'.dur : Int)] 151 (0, 0))) (hrow : w'.ownsRow 0 5 1 v' f'.b.length (f'.b.map encB))
    (hown : v'.ownBlock = qs[i].2.2.ownBlock ∨ ∀ g, v'.ownBlock = some g → w.heap.size ≤ g) :
    DiskIn (fun k => S k ∨ (w.heap.size ≤ k ∧ k < w'.heap.size)) w' d mb { D with files := putF D.files f' } (qs.set i (f', qs[i].2.1, v')) := by
  have hq := h.file qs[i] (List.getElem_mem hi)
  have hqF := h.inF qs[i] (List.getElem_mem hi)
  have hset : putK nq qs (f', qs[i].2.1, v') = qs.set i (f', qs[i].2.1, v') := putK_set h.sorted hi hnm
  -- blocks that are not the file's
  have hown' : ∀ k, qs[i].2.2.ownBlock = some k → ∃ cs, w.heap[k]? = some (.cells cs 5 (0, 0)) := fun k hk => by
    rcases hq.2.2 with ⟨hv, _⟩ | ⟨g, cap, cur, hv, _, hh, _⟩
    · rw [hv] at hk; cases hk
    · rw [hv] at hk; cases hk; exact ⟨_, hh⟩
  have hm : ∀ k u, w.heap[k]? = some u → k ≠ qs[i].2.1 → qs[i].2.2.ownBlock ≠ some k → w'.heap[k]? = some u := fun k u hk h1 h2 => (hfr.block k (Array.getElem?_eq_some_iff.1 hk).1 (by rintro (e | e); exact h1 e; exact h2 e)).trans hk
  have hmem : ∀ q, q ∈ qs.set i (f', qs[i].2.1, v') → q = (f', qs[i].2.1, v') ∨ ∃ j, ∃ hj : j < qs.length, j ≠ i ∧ q = qs[j] := fun q hq => by
    obtain ⟨j, hj, rfl⟩ := List.mem_iff_getElem.1 hq
    rw [List.length_set] at hj
    rw [List.getElem_set]
    split
    · exact .inl rfl
    · exact .inr ⟨j, hj, fun e => by omega, rfl⟩
  have hap : ∀ j (hj : j < qs.length), j ≠ i → Apart qs[j] qs[i] := fun j hj hne => by
    have hp := List.pairwise_iff_getElem.1 h.apart
    rcases Nat.lt_or_gt_of_ne hne with h' | h'
    · exact hp j i hj hi h'
    · exact Apart.symm (hp i j hi hj h')
  refine
  { files := ?_
    blk := ?_
    map := ?_
    file := fun q hq' => ?_
    apart := ?_
    sorted := ?_
    inD := .inl h.inD
    inM := .inl h.inM
    inF := fun q hq' => ?_
    lt := fun k hk => ?_
    name := fun q hq' => ?_ }
  · show _ = putF D.files f'
    rw [← hset, ← h.files]
    exact (putK_map (key' := FileA.name) (key := nq) (fun p : Ent => p.1) (fun _ => rfl) qs (f', qs[i].2.1, v')).symm
  · refine hm _ _ h.blk (fun e => ?_) (fun e => ?_)
    · have h1 := hq.1
      rw [← e, h.blk] at h1
      simp at h1
    · obtain ⟨cs, h1⟩ := hown' _ e
      rw [h.blk] at h1
      simp at h1
  · obtain ⟨es, clock, hmb, r⟩ := h.map
    have e : mapQ (qs.set i (f', qs[i].2.1, v')) = mapQ qs := by
      unfold mapQ mapK
      rw [List.map_set]
      congr 1
      refine List.ext_getElem (by simp) fun j h1 h2 => ?_
      rw [List.getElem_set]
      split
      · rename_i hji
        subst hji
        simp [dq, nq, hnm]
      · rfl
    rw [e, List.length_set]
    refine ⟨es, clock, hm _ _ hmb (fun e => ?_) (fun e => ?_), r⟩
    · have h1 := hq.1
      rw [← e, hmb] at h1
      cases h1
    · obtain ⟨cs, h1⟩ := hown' _ e
      rw [hmb] at h1
      cases h1
  · rcases hmem q hq' with rfl | ⟨j, hj, hne, rfl⟩
    · exact ⟨hblk, hrow⟩
    · have hj' := h.file qs[j] (List.getElem_mem hj)
      have ha := hap j hj hne
      refine ⟨hm _ _ hj'.1 ha.1 (fun e => ?_), hj'.2.1, ?_⟩
      · obtain ⟨cs, h1⟩ := hown' _ e
        rw [hj'.1] at h1
        simp at h1
      · rcases hj'.2.2 with h' | ⟨g, cap, cur, hv, hg, hh, r⟩
        · exact .inl h'
        · refine .inr ⟨g, cap, cur, hv, hg, hm _ _ hh (fun e => ?_) (fun e => ?_), r⟩
          · have h1 := hq.1
            rw [← e, hh] at h1
            simp at h1
          · exact ha.2 g (by rw [hv]; rfl) e
  · refine pairwise_set (R := Apart) (fun h => Apart.symm h) hi h.apart (fun j hj hne => ?_)
    have ha := hap j hj hne
    refine ⟨ha.1, fun g hg e => ?_⟩
    have e : v'.ownBlock = some g := e
    rcases hown with ho | ho
    · rw [ho] at e
      exact ha.2 g hg e
    · have h1 := ho g e
      have h2 := h.lt g ((h.inF qs[j] (List.getElem_mem hj)).2 g hg)
      omega
  · rw [← hset]
    exact putK_sorted h.sorted _
  · rcases hmem q hq' with rfl | ⟨j, hj, hne, rfl⟩
    · refine ⟨.inl hqF.1, fun g hg => ?_⟩
      have hg : v'.ownBlock = some g := hg
      rcases hown with ho | ho
      · exact .inl (hqF.2 g (by rw [← ho]; exact hg))
      · refine .inr ⟨ho g hg, ?_⟩
        rcases hrow.2 with ⟨hv, _⟩ | ⟨g', cap, cur, hv, _, hh, _⟩
        · rw [hv] at hg; cases hg
        · rw [hv] at hg; cases hg; exact (Array.getElem?_eq_some_iff.1 hh).1
    · exact ⟨.inl (h.inF _ (List.getElem_mem hj)).1, fun g hg => .inl ((h.inF _ (List.getElem_mem hj)).2 g hg)⟩
  · rcases hk with hk | hk
    · exact Nat.lt_of_lt_of_le (h.lt k hk) hfr.size
    · exact hk.2
  · rcases hmem q hq' with rfl | ⟨j, hj, hne, rfl⟩
    · show f'.name.length ≤ 100
      rw [hnm]
      exact h.name _ (List.getElem_mem hi)
    · exact h.name _ (List.getElem_mem hj)

end Go.Proofs.YtepceidajmedeaaGreatDoor

namespace Go.Proofs.YtepceidajmedeaaGreatDoor
open Go.RowKit CW

theorem bodyK_sync (D : DiskA) (n : Bytes) (i : Nat) (h : namedB n = true) (hf : findF D.files n = some i) (f : FileA) (hi : D.files[i]? = some f) : bodyA D .sync n = ({ D with files := putF D.files ⟨f.name, f.b, f.b.length⟩ }, 0) := by
  unfold bodyA; rw [if_neg (by rw [h]; decide), hf]; simp [hi]
theorem bodyK_new (D : DiskA) (n : Bytes) (h : namedB n = true) (hf : findF D.files n = none) : bodyA D .create n = ({ D with files := putF D.files ⟨n, [], 0⟩ }, 0) := by unfold bodyA; rw [if_neg (by rw [h]; decide), hf]; rfl
theorem named_len {n : Bytes} (h : namedB n = true) : n.length ≤ 100 := by
  unfold namedB at h
  simp only [Bool.and_eq_true, decide_eq_true_eq] at h
  exact h.1.2
theorem files_get {qs : List Ent} {D : DiskA} (h : qs.map (·.1) = D.files) (i : Nat) (hi : i < qs.length) : D.files[i]? = some qs[i].1 := by rw [← h, List.getElem?_map, List.getElem?_eq_getElem hi]; rfl

set_option maxHeartbeats 1000000 in
theorem sync1_any {S : Nat → Prop} (D : DiskA) (d mb : Nat) (qs : List Ent) (w : World) (h : DiskIn S w d mb D qs) (n : Bytes) (i : Nat) (hi : i < qs.length) (hf : findK nq qs n = some i) (hnb : namedB n = true) :
    Calls Tryz.prog 143 #[.pointer (some ⟨qs[i].2.1, 0, none⟩)] w (DiskPost S w d (bodyA D .sync n)) := by
  have hq := h.file qs[i] (List.getElem_mem hi)
  obtain ⟨_, hkey⟩ := findK_some hf
  have e : bodyA D .sync n = ({ D with files := putF D.files ⟨qs[i].1.name, qs[i].1.b, qs[i].1.b.length⟩ }, 0) := bodyK_sync D n i hnb (by rw [findF_qs h.files]; exact hf) qs[i].1 (files_get h.files i hi)
  rw [e]
  have hup := fun w' (h1 : Fr (fun k => k = qs[i].2.1) w w') (h2 : w'.heap[qs[i].2.1]? = some (.cells #[qs[i].2.2, .int .i64 (qs[i].1.b.length : Int)] 151 (0, 0))) =>
    h.upd i hi ⟨qs[i].1.name, qs[i].1.b, qs[i].1.b.length⟩ qs[i].2.2 rfl (h1.mono (fun k _ hk => .inl hk)) h2 (ownsRow_block hq.2 (fun g hg => by
      rcases hq.2.2 with ⟨hv, _⟩ | ⟨g', cap, cur, hv, _, hh, _⟩
      · rw [hv] at hg; cases hg
      · rw [hv] at hg; cases hg
        refine h1.block _ (Array.getElem?_eq_some_iff.1 hh).1 (fun e => ?_)
        have h3 := hq.1
        rw [← e, hh] at h3
        simp at h3)) (.inl rfl)
  have hS : S qs[i].2.1 := (h.inF _ (List.getElem_mem hi)).1
  obtain ⟨a, cap, hv, h1, h2, _⟩ := (Row.of_owns hq.2).open
  have hb := hq.1
  rw [hv] at hb hup
  obtain ⟨c0, c1⟩ := cells2 hb
  clear hq hf hv e
  have HUP := hup
  clear hup
  generalize (putF D.files ⟨qs[i].1.name, qs[i].1.b, qs[i].1.b.length⟩) = fs' at *
  generalize (qs.set i (⟨qs[i].1.name, qs[i].1.b, qs[i].1.b.length⟩, qs[i].2.1, .slice a qs[i].1.b.length cap)) = qs' at *
  generalize qs[i].2.1 = fb at *
  generalize qs[i].1.b.length = m at *
  go_enter Tryz.func143, Tryz.ntmps143
  go_wp2_with ((with_reducible refine at_sto ?_); refine wpList_store_fld rfl (ty := 3) (x := .tmp 10) rfl fb 1 151 (.int .i64 (m : Int)) _ rfl rfl hb (by simp) size134 rfl rfl ?_; intro W hV1 hV2 hV3)
  go_ret
  exact ⟨_, rfl, ⟨mb, qs', HUP W hV2 hV1⟩, hV2.mono (fun k _ hk => by rw [hk]; exact hS), fun k hk hs => hs.elim id (fun h => absurd hk (by omega))⟩

set_option maxHeartbeats 1000000 in
theorem sync_any {S : Nat → Prop} (D : DiskA) (d : Nat) (w : World) (h : DiskAt S w d D) (n : Bytes) (hn : n.length ≤ 1048576) (hp0 : 0 ≤ D.plan) (hp1 : D.plan ≤ 4611686018427387904) :
    Calls Tryz.prog 83 #[.pointer (some ⟨d, 0, none⟩), .string ⟨n.toArray⟩] w (DiskPost S w d (doA D .sync n)) := by
  have hB := (boxF w (.cells #[.string ⟨n.toArray⟩] 9)).1
  have hrow : Row S (w.alloc (.cells #[.string ⟨n.toArray⟩] 9)) (.slice (some ⟨w.heap.size, 0, none⟩) 1 1) 1 [stV n] := by
    obtain ⟨mb, qs, h'⟩ := h
    exact (Row.lit (size := 1) (base := w.heap.size) (Nat.le_refl _) (by decide) rfl rfl).mono (fun k _ hk => h'.lt k hk)
  have hw := h.below hB
  have hrun : Calls Tryz.prog 103 #[.pointer (some ⟨d, 0, none⟩), .agg #[.slice (some ⟨w.heap.size, 0, none⟩) 1 1, .bool false, .func (.func 143) #[] #[]]] (w.alloc (.cells #[.string ⟨n.toArray⟩] 9)) (DiskPost S (w.alloc (.cells #[.string ⟨n.toArray⟩] 9)) d (doA D .sync n)) := by
    cases hd : D.down with
    | true => exact run_down D d _ hw .sync n _ _ rfl hd
    | false =>
      by_cases hp : D.plan = 1
      · exact run_plan D d _ hw .sync n _ _ rfl hd hp
      · refine run_open D d _ hw .sync n hn _ hrow 143 (Go.Proofs.enters_of Tryz.func143 (by kernel_rfl) rfl) #[] hd hp hp0 hp1 (fun W mb qs hin hF hnb hok => ?_)
        obtain ⟨i, hf⟩ := Option.isSome_iff_exists.1 (show (findK nq qs n).isSome = true from hok)
        obtain ⟨hi, _⟩ := findK_some hf
        rw [ptrOf_some hi hf]
        exact sync1_any _ d mb qs W hin n i hi hf hnb
  go_enter Tryz.func83, Tryz.ntmps83
  go_wp2_with (go_at_call 103; refine hrun.mono ?_; rintro e w1 hP; replace hP := hP.trans (Fr.of_below hB); obtain ⟨S', rfl, hP2, hP3, hP4⟩ := hP)
  go_ret
  exact ⟨S', rfl, hP2, hP3, hP4⟩

theorem fr_grown {w w' : World} {b : Nat} (h : w.grownBy w' (some b)) : Fr (fun k => k = b) w w' := ⟨h.os, h.tape, h.output, h.size, fun k hk hn => h.block k hk (fun e => hn (Option.some.inj e))⟩
theorem cell1 {w : World} {g : Nat} {t : TypeId} {fr : Nat × Nat} {a : Value} (h : w.heap[g]? = some (.cells #[a] t fr)) : w.cell? ⟨g, 0, none⟩ = some a := by rw [Go.cell_of_row _ g 0 _ _ _ h]; rfl

set_option maxHeartbeats 1000000 in
set_option maxRecDepth 100000 in
theorem create1_any {S : Nat → Prop} (D : DiskA) (d mb : Nat) (qs : List Ent) (w : World) (h : DiskIn S w d mb D qs) (n : Bytes) (hf : findK nq qs n = none) (hnb : namedB n = true) (hl : qs.length < 1048576) (b1 b2 t1 t2 : Nat)
    (h1 : w.heap[b1]? = some (.cells #[.pointer (some ⟨d, 0, none⟩)] t1 (0, 0))) (h2 : w.heap[b2]? = some (.cells #[.string ⟨n.toArray⟩] t2 (0, 0))) :
    Calls Tryz.prog 104 #[.pointer none, .pointer (some ⟨b1, 0, none⟩), .pointer (some ⟨b2, 0, none⟩)] w (DiskPost S w d (bodyA D .create n)) := by
  have e : bodyA D .create n = ({ D with files := putF D.files ⟨n, [], 0⟩ }, 0) := bodyK_new D n hnb (by rw [findF_qs h.files]; exact hf)
  rw [e]
  have hnl := named_len hnb
  have hA := (boxF w (.cells #[.slice none 0 0, .int .i64 0] 151)).1
  have hz := (boxF w (.cells #[.slice none 0 0, .int .i64 0] 151)).2.1
  have hx := (boxF w (.cells #[.slice none 0 0, .int .i64 0] 151)).2.2
  have hAd : Below w.heap.size w (w.alloc (.cells #[.slice none 0 0, .int .i64 0] 151)).drew := hA.drew
  obtain ⟨w', hrun, hown', hturn⟩ := (h.below hAd).map.store keyedS Tryz.underlying131 (by unfold maxLen; omega) (keyS n (by omega)) (val := .pointer (some ⟨w.heap.size, 0, none⟩)) (d := .lit (.int .i64 (w.heap.size : Int))) (ps := []) rfl
  have hfr := fr_grown hturn.grown
  have hfw : Fr (fun k => k = mb) w w' := (Fr.of_below hAd (F := fun k => k = mb)).trans hfr (fun _ _ h => h)
  have hsz : w.heap.size < w'.heap.size := by have := hfr.size; have h3 : (w.alloc (.cells #[.slice none 0 0, .int .i64 0] 151)).drew.heap.size = w.heap.size + 1 := hz; omega
  have hmbl := h.lt mb h.inM
  have hnew : w'.heap[w.heap.size]? = some (.cells #[.slice none 0 0, .int .i64 0] 151 (0, 0)) := (hfr.block w.heap.size (by have h3 : (w.alloc (.cells #[.slice none 0 0, .int .i64 0] 151)).drew.heap.size = w.heap.size + 1 := hz; omega) (by intro e; omega)).trans hx
  have hins := h.ins n hnl hf rfl hsz hfw hown' hnew
  obtain ⟨c0, c1, c2, c3⟩ := cells4 h.blk
  have hl1 := (Array.getElem?_eq_some_iff.1 h1).1
  have hl2 := (Array.getElem?_eq_some_iff.1 h2).1
  obtain ⟨es, clock, hmb, _⟩ := h.map
  have hS0 : w.drew.cell? ⟨b1, 0, none⟩ = some (.pointer (some ⟨d, 0, none⟩)) ∧ w.drew.cell? ⟨b2, 0, none⟩ = some (.string ⟨n.toArray⟩) ∧ w.drew.cell? ⟨d, 1, none⟩ = some (.map (some mb)) := ⟨cell1 h1, cell1 h2, c1⟩
  have hS1 : (w.alloc (.cells #[.slice none 0 0, .int .i64 0] 151)).drew.cell? ⟨b1, 0, none⟩ = some (.pointer (some ⟨d, 0, none⟩)) ∧ (w.alloc (.cells #[.slice none 0 0, .int .i64 0] 151)).drew.cell? ⟨b2, 0, none⟩ = some (.string ⟨n.toArray⟩) ∧ (w.alloc (.cells #[.slice none 0 0, .int .i64 0] 151)).drew.cell? ⟨d, 1, none⟩ = some (.map (some mb)) :=
    ⟨cell1 ((hAd.block _ hl1).trans h1), cell1 ((hAd.block _ hl2).trans h2), (cells4 ((hAd.block _ (h.lt d h.inD)).trans h.blk)).2.1⟩
  have hS2 : w'.cell? ⟨b1, 0, none⟩ = some (.pointer (some ⟨d, 0, none⟩)) ∧ w'.cell? ⟨b2, 0, none⟩ = some (.string ⟨n.toArray⟩) ∧ w'.cell? ⟨d, 1, none⟩ = some (.map (some mb)) :=
    ⟨cell1 ((hfw.block _ hl1 (by rintro rfl; rw [hmb] at h1; cases h1)).trans h1), cell1 ((hfw.block _ hl2 (by rintro rfl; rw [hmb] at h2; cases h2)).trans h2), (cells4 ((hfw.block _ (h.lt d h.inD) (by rintro rfl; have := h.blk; rw [hmb] at this; cases this)).trans h.blk)).2.1⟩
  have hlast : Fr S w w' := hfw.mono (fun k _ hk => by rw [hk]; exact h.inM)
  clear hown' hturn hfr hnew hx hfw c0 c1 c2 c3 hmb
  go_enter Tryz.func104, Tryz.ntmps104
  go_wp2_with fail
  go_region_held3 (fun W => W.cell? ⟨b1, 0, none⟩ = some (.pointer (some ⟨d, 0, none⟩)) ∧ W.cell? ⟨b2, 0, none⟩ = some (.string ⟨n.toArray⟩) ∧ W.cell? ⟨d, 1, none⟩ = some (.map (some mb))) (first | assumption) (first | fail)
  go_wp2
  go_ret
  exact ⟨_, rfl, ⟨mb, _, hins⟩, hlast, fun k hk hs => hs.elim id (fun h => absurd hk (by omega))⟩

set_option maxHeartbeats 1000000 in
theorem create_any {S : Nat → Prop} (D : DiskA) (d : Nat) (w : World) (h : DiskAt S w d D) (n : Bytes) (hn : n.length ≤ 1048576) (hp0 : 0 ≤ D.plan) (hp1 : D.plan ≤ 4611686018427387904) (hl : D.files.length < 1048576) :
    Calls Tryz.prog 36 #[.pointer (some ⟨d, 0, none⟩), .string ⟨n.toArray⟩] w (DiskPost S w d (doA D .create n)) := by
  have hB := below3 w (.cells #[.pointer (some ⟨d, 0, none⟩)] 26) (.cells #[.string ⟨n.toArray⟩] 9) (.cells #[.string ⟨n.toArray⟩] 9)
  have g0 := heap3_0 w (.cells #[.pointer (some ⟨d, 0, none⟩)] 26) (.cells #[.string ⟨n.toArray⟩] 9) (.cells #[.string ⟨n.toArray⟩] 9)
  have g1 := heap3_1 w (.cells #[.pointer (some ⟨d, 0, none⟩)] 26) (.cells #[.string ⟨n.toArray⟩] 9) (.cells #[.string ⟨n.toArray⟩] 9)
  have g2 := heap3_2 w (.cells #[.pointer (some ⟨d, 0, none⟩)] 26) (.cells #[.string ⟨n.toArray⟩] 9) (.cells #[.string ⟨n.toArray⟩] 9)
  have hz := size3 w (.cells #[.pointer (some ⟨d, 0, none⟩)] 26) (.cells #[.string ⟨n.toArray⟩] 9) (.cells #[.string ⟨n.toArray⟩] 9)
  have hw := h.below hB
  have hSl : ∀ k, S k → k < w.heap.size := by obtain ⟨mb, qs, h'⟩ := h; exact h'.lt
  go_enter Tryz.func36, Tryz.ntmps36
  go_wp2_with fail
  generalize ((w.alloc (.cells #[.pointer (some ⟨d, 0, none⟩)] 26)).alloc (.cells #[.string ⟨n.toArray⟩] 9)).alloc (.cells #[.string ⟨n.toArray⟩] 9) = W3 at *
  have hrow : Row S W3 (.slice (some ⟨w.heap.size + 1 + 1, 0, none⟩) 1 1) 1 [stV n] := .inr ⟨_, 0, 1, rfl, Nat.le_refl _, by omega, by omega, fun hk => by have := hSl _ hk; omega, fun j u hu => by
    cases j with
    | zero => cases hu; exact cell1 g2
    | succ j => simp at hu⟩
  have hrun : Calls Tryz.prog 103 #[.pointer (some ⟨d, 0, none⟩), .agg #[.slice (some ⟨w.heap.size + 1 + 1, 0, none⟩) 1 1, .bool true, .func (.func 104) #[] #[.pointer (some ⟨w.heap.size, 0, none⟩), .pointer (some ⟨w.heap.size + 1, 0, none⟩)]]] W3 (DiskPost S W3 d (doA D .create n)) := by
    cases hd : D.down with
    | true => exact run_down D d _ hw .create n _ _ rfl hd
    | false =>
      by_cases hp : D.plan = 1
      · exact run_plan D d _ hw .create n _ _ rfl hd hp
      · refine run_open D d _ hw .create n hn _ hrow 104 (Go.Proofs.enters_of Tryz.func104 (by kernel_rfl) rfl) _ hd hp hp0 hp1 (fun W mb qs hin hF hnb hok => ?_)
        have hf : findK nq qs n = none := by simpa using (show (findK nq qs n).isSome = false from hok)
        rw [ptrOf_none hf]
        have hql : qs.length < 1048576 := by have := congrArg List.length hin.files; rw [List.length_map] at this; rw [this]; exact hl
        exact create1_any _ d mb qs W hin n hf hnb hql _ _ _ _ ((hF.block _ (by omega) (fun hk => by have := hSl _ hk; omega)).trans g0) ((hF.block _ (by omega) (fun hk => by have := hSl _ hk; omega)).trans g1)
  refine hrun.mono ?_
  intro e w1 hP
  replace hP := hP.trans (Fr.of_below hB)
  obtain ⟨S', rfl, hP2, hP3, hP4⟩ := hP
  go_wp2
  go_ret
  exact ⟨S', rfl, hP2, hP3, hP4⟩

end Go.Proofs.YtepceidajmedeaaGreatDoor

namespace Go.Proofs.YtepceidajmedeaaGreatDoor
open Go.RowKit CW

theorem bodyK_full (D : DiskA) (n b : Bytes) (i : Nat) (h : namedB n = true) (hf : findF D.files n = some i) (f : FileA) (hi : D.files[i]? = some f) (hr : D.room < ((usedF D.files + b.length : Nat) : Int)) : bodyA D (.append b) n = (D, 5) := by
  unfold bodyA; rw [if_neg (by rw [h]; decide), hf]; simp only [Option.bind_some, hi]; rw [if_pos hr]
theorem bodyK_append (D : DiskA) (n b : Bytes) (i : Nat) (h : namedB n = true) (hf : findF D.files n = some i) (f : FileA) (hi : D.files[i]? = some f) (hr : ¬ D.room < ((usedF D.files + b.length : Nat) : Int)) : bodyA D (.append b) n = ({ D with files := putF D.files ⟨f.name, f.b ++ b, f.dur⟩ }, 0) := by
  unfold bodyA; rw [if_neg (by rw [h]; decide), hf]; simp only [Option.bind_some, hi]; rw [if_neg hr]
theorem usedF_mem {fs : List FileA} {f : FileA} (h : f ∈ fs) : f.b.length ≤ usedF fs := by
  obtain ⟨l, r, rfl⟩ := List.append_of_mem h
  simp [usedF]
  omega

/-- The append itself: what it leaves. -/
theorem append_upd {S : Nat → Prop} {D : DiskA} {d mb : Nat} {qs : List Ent} {W1 w1 : World} (h : DiskIn S W1 d mb D qs) (i : Nat) (hi : i < qs.length) (b' : Bytes) (av : Option Addr) (cv : Nat)
    (ho : w1.ownsRow 0 5 1 (.slice av (qs[i].1.b.length + b'.length) cv) (qs[i].1.b.length + b'.length) (qs[i].1.b.map encB ++ b'.map encB)) (hg : W1.grownBy w1 qs[i].2.2.ownBlock)
    (hat : (Value.slice av (qs[i].1.b.length + b'.length) cv).ownBlock = qs[i].2.2.ownBlock ∨ (Value.slice av (qs[i].1.b.length + b'.length) cv).ownBlock = some W1.heap.size) :
    DiskIn (fun k => S k ∨ (W1.heap.size ≤ k ∧ k < (w1.setCell ⟨qs[i].2.1, 0, none⟩ (.slice av (qs[i].1.b.length + b'.length) cv)).heap.size)) (w1.setCell ⟨qs[i].2.1, 0, none⟩ (.slice av (qs[i].1.b.length + b'.length) cv)) d mb { D with files := putF D.files ⟨qs[i].1.name, qs[i].1.b ++ b', qs[i].1.dur⟩ } (qs.set i (⟨qs[i].1.name, qs[i].1.b ++ b', qs[i].1.dur⟩, qs[i].2.1, .slice av (qs[i].1.b.length + b'.length) cv)) ∧
      Fr S W1 (w1.setCell ⟨qs[i].2.1, 0, none⟩ (.slice av (qs[i].1.b.length + b'.length) cv)) ∧ w1.heap[qs[i].2.1]? = W1.heap[qs[i].2.1]? := by
  have hq := h.file qs[i] (List.getElem_mem hi)
  have hF := h.inF qs[i] (List.getElem_mem hi)
  have hlt := h.lt _ hF.1
  have hne : some qs[i].2.1 ≠ qs[i].2.2.ownBlock := fun e => by
    rcases hq.2.2 with ⟨hv, _⟩ | ⟨g, cap, cur, hv, _, hh, _⟩
    · rw [hv] at e; cases e
    · rw [hv] at e
      have e : qs[i].2.1 = g := Option.some.inj e
      have h1 := hq.1
      rw [e, hh] at h1
      simp at h1
  have hb1 : w1.heap[qs[i].2.1]? = W1.heap[qs[i].2.1]? := hg.block _ hlt hne
  have hbl := hb1.trans hq.1
  have hfr : Fr (fun k => k = qs[i].2.1 ∨ qs[i].2.2.ownBlock = some k) W1 (w1.setCell ⟨qs[i].2.1, 0, none⟩ (.slice av (qs[i].1.b.length + b'.length) cv)) :=
    ⟨hg.os, hg.tape, hg.output, by simpa [World.setCell] using hg.size, fun k hk hn => (heap_setCell_other _ _ _ _ (fun e => hn (.inl e))).trans (hg.block k hk (fun e => hn (.inr e.symm)))⟩
  have hblk : (w1.setCell ⟨qs[i].2.1, 0, none⟩ (.slice av (qs[i].1.b.length + b'.length) cv)).heap[qs[i].2.1]? = some (.cells #[.slice av (qs[i].1.b.length + b'.length) cv, .int .i64 (qs[i].1.dur : Int)] 151 (0, 0)) := heap_setCell_same _ _ _ _ _ _ hbl
  have hrow : (w1.setCell ⟨qs[i].2.1, 0, none⟩ (.slice av (qs[i].1.b.length + b'.length) cv)).ownsRow 0 5 1 (.slice av (qs[i].1.b.length + b'.length) cv) (qs[i].1.b ++ b').length ((qs[i].1.b ++ b').map encB) := by
    rw [List.length_append, List.map_append]
    refine ownsRow_block ho (fun g hg' => heap_setCell_other _ _ _ _ (fun e => ?_))
    rcases ho.2 with ⟨hv, _⟩ | ⟨g', cap, cur, hv, _, hh, _⟩
    · rw [hv] at hg'; cases hg'
    · rw [hv] at hg'
      have e2 : g' = g := Option.some.inj hg'
      have e : g = qs[i].2.1 := e
      rw [e2, e, hbl] at hh
      simp at hh
  refine ⟨h.upd i hi ⟨qs[i].1.name, qs[i].1.b ++ b', qs[i].1.dur⟩ _ rfl hfr hblk hrow (hat.imp id (fun e g hg' => by rw [e] at hg'; cases hg'; exact Nat.le_refl _)), hfr.mono (fun k _ hk => ?_), hb1⟩
  rcases hk with rfl | hk
  · exact hF.1
  · exact hF.2 k hk

set_option maxHeartbeats 2000000 in
set_option maxRecDepth 100000 in
theorem append1_any {S : Nat → Prop} (D : DiskA) (d mb : Nat) (qs : List Ent) (w : World) (h : DiskIn S w d mb D qs) (n : Bytes) (i : Nat) (hi : i < qs.length) (hf : findK nq qs n = some i) (hnb : namedB n = true) (hu : usedF D.files ≤ 1099511627776) (b1 b2 t1 t2 : Nat) (ht2 : t2 ≠ 5 ∧ t2 ≠ 151) (bv : Value) (b' : Bytes)
    (h1 : w.heap[b1]? = some (.cells #[.pointer (some ⟨d, 0, none⟩)] t1 (0, 0))) (h2 : w.heap[b2]? = some (.cells #[bv] t2 (0, 0))) (hbv : SlB (fun _ => False) w bv b') (hbl : b'.length ≤ 1073741824) :
    Calls Tryz.prog 128 #[.pointer (some ⟨qs[i].2.1, 0, none⟩), .pointer (some ⟨b1, 0, none⟩), .pointer (some ⟨b2, 0, none⟩)] w (DiskPost S w d (bodyA D (.append b') n)) := by
  have hq := h.file qs[i] (List.getElem_mem hi)
  have hF := h.inF qs[i] (List.getElem_mem hi)
  have hFF : findF D.files n = some i := by rw [findF_qs h.files]; exact hf
  have hget := files_get h.files i hi
  have hmem : qs[i].1 ∈ D.files := by rw [← h.files]; exact List.mem_map.2 ⟨_, List.getElem_mem hi, rfl⟩
  have hqu := usedF_mem hmem
  obtain ⟨ab, capb, rfl, hab1, hab2⟩ := hbv.shape
  obtain ⟨aq, capq, hvq, hq1, hq2, _⟩ := (Row.of_owns hq.2).open
  have hfb := h.lt _ hF.1
  have hl1 := (Array.getElem?_eq_some_iff.1 h1).1
  have hl2 := (Array.getElem?_eq_some_iff.1 h2).1
  have hdl := h.lt d h.inD
  have hne : ∀ g, qs[i].2.2.ownBlock = some g → b2 ≠ g := fun g hg e => by
    rcases hq.2.2 with ⟨hv, _⟩ | ⟨g', cap, cur, hv, _, hh, _⟩
    · rw [hv] at hg; cases hg
    · rw [hv] at hg
      have e2 : g' = g := Option.some.inj hg
      rw [e2, ← e, h2] at hh
      simp at hh
      exact ht2.1 hh.2
  have hne2 : b2 ≠ qs[i].2.1 := fun e => by
    have h3 := hq.1
    rw [← e, h2] at h3
    simp at h3
  obtain ⟨c0, c1, c2, c3⟩ := cells4 h.blk
  have hSS : ∀ W, Below w.heap.size w W → (Below w.heap.size w W ∧ W.cell? ⟨b1, 0, none⟩ = some (.pointer (some ⟨d, 0, none⟩)) ∧ W.cell? ⟨b2, 0, none⟩ = some (.slice ab b'.length capb) ∧ W.cell? ⟨d, 0, none⟩ = some (.int .i64 D.room)) := fun W hW => ⟨hW, cell1 ((hW.block _ hl1).trans h1), cell1 ((hW.block _ hl2).trans h2), (hW.cell (p := ⟨d, 0, none⟩) hdl).trans c0⟩
  have hST : ∀ W W', (Below w.heap.size w W ∧ W.cell? ⟨b1, 0, none⟩ = some (.pointer (some ⟨d, 0, none⟩)) ∧ W.cell? ⟨b2, 0, none⟩ = some (.slice ab b'.length capb) ∧ W.cell? ⟨d, 0, none⟩ = some (.int .i64 D.room)) → Below W.heap.size W W' → Below w.heap.size w W' := fun W W' h k => h.1.trans (k.mono h.1.size)
  have hS0 := hSS w.drew (Below.refl _ _).drew
  have hUW : ∀ W, (Below w.heap.size w W ∧ W.cell? ⟨b1, 0, none⟩ = some (.pointer (some ⟨d, 0, none⟩)) ∧ W.cell? ⟨b2, 0, none⟩ = some (.slice ab b'.length capb) ∧ W.cell? ⟨d, 0, none⟩ = some (.int .i64 D.room)) → Calls Tryz.prog 51 #[.pointer (some ⟨d, 0, none⟩)] W fun e w' => e = .returned (.int .i64 (usedF D.files : Nat)) ∧ Below W.heap.size W w' := fun W hW => used_any W ⟨mb, qs, h.below hW.1⟩ (by omega)
  obtain ⟨u, hug⟩ : ∃ u, usedF D.files = u := ⟨_, rfl⟩
  have HUG : Hid (usedF D.files = u) := hug
  rw [hug] at hUW hqu hu
  clear hug
  have hwrap : IntKind.i64.wrap ((u : Int) + (b'.length : Int)) = (u : Int) + (b'.length : Int) := IntWalk.i64_in _ (by omega)
  go_enter Tryz.func128, Tryz.ntmps128
  go_wp2_with fail
  go_region_held3 (fun W => Below w.heap.size w W ∧ W.cell? ⟨b1, 0, none⟩ = some (.pointer (some ⟨d, 0, none⟩)) ∧ W.cell? ⟨b2, 0, none⟩ = some (.slice ab b'.length capb) ∧ W.cell? ⟨d, 0, none⟩ = some (.int .i64 D.room)) (first | assumption) (first | (go_at_call 51; refine (hUW _ (by assumption)).mono ?_; rintro e W1 ⟨rfl, hbu⟩; have hS1 := hSS W1 (hST _ _ (by assumption) hbu)))
  clear hwrap
  have hB1 : Below w.heap.size w W1 := hS1.1
  have hin1 := h.below hB1
  have hF1 : Fr S w W1 := (Fr.of_below hB1)
  clear hSS hST hS0 hUW hS1
  by_cases hr : D.room < (u : Int) + (b'.length : Int)
  · have HR : Hid (bodyA D (.append b') n = (D, 5)) := bodyK_full D n b' i hnb hFF qs[i].1 hget (by rw [HUG.out]; omega)
    have hdr : decide (D.room < (u : Int) + (b'.length : Int)) = true := decide_eq_true hr
    go_wp2
    go_ret
    show DiskPost S w d (bodyA D (.append b') n) _ _
    rw [HR.out]
    exact ⟨S, rfl, ⟨mb, qs, hin1⟩, hF1, fun _ _ h => h⟩
  · have HR : Hid (bodyA D (.append b') n = ({ D with files := putF D.files ⟨qs[i].1.name, qs[i].1.b ++ b', qs[i].1.dur⟩ }, 0)) := bodyK_append D n b' i hnb hFF qs[i].1 hget (by rw [HUG.out]; omega)
    have hdr : decide (D.room < (u : Int) + (b'.length : Int)) = false := decide_eq_false hr
    go_wp2_with fail
    have hown1 := (hin1.file qs[i] (List.getElem_mem hi)).2
    have hblk1 := (hin1.file qs[i] (List.getElem_mem hi)).1
    have hd1 : W1.drew.ownsRow 0 5 1 qs[i].2.2 qs[i].1.b.length (qs[i].1.b.map encB) := hown1
    have hbv1 : SlB (fun _ => False) W1.drew (.slice ab b'.length capb) b' := hbv.below hB1.drew
    have hb2 := (hB1.block _ hl2).trans h2
    have hone := bytes_one b'
    have hl2' : b2 < W1.heap.size := Nat.lt_of_lt_of_le hl2 hB1.size
    have hS0 : W1.drew.cell? ⟨b2, 0, none⟩ = some (.slice ab b'.length capb) := cell1 hb2
    have hSW : ∀ W, W1.drew.grownBy W qs[i].2.2.ownBlock → W.cell? ⟨b2, 0, none⟩ = some (.slice ab b'.length capb) := fun W hg => cell1 ((hg.block b2 hl2' (fun e => hne _ e.symm rfl)).trans hb2)
    have hSX : ∀ W u, W1.drew.grownBy W qs[i].2.2.ownBlock → (W.setCell ⟨qs[i].2.1, 0, none⟩ u).cell? ⟨b2, 0, none⟩ = some (.slice ab b'.length capb) := fun W u hg => cell1 ((heap_setCell_other _ _ _ _ hne2).trans ((hg.block b2 hl2' (fun e => hne _ e.symm rfl)).trans hb2))
    have hupd := fun w1 av cv => append_upd (w1 := w1) (hin1.below (Below.refl _ W1).drew) i hi b' av cv
    have hfbW : W1.drew.heap[qs[i].2.1]? = some (.cells #[.slice aq qs[i].1.b.length capq, .int .i64 (qs[i].1.dur : Int)] 151 (0, 0)) := by rw [← hvq]; exact hblk1
    obtain ⟨f0, f1⟩ := cells2 hfbW
    have f0' : W1.cell? ⟨qs[i].2.1, 0, none⟩ = some (.slice aq qs[i].1.b.length capq) := f0
    rw [hvq] at hd1 hSW hSX hupd
    generalize hfbn : qs[i].2.1 = fb at *
    generalize hbb : qs[i].1.b = bb at *
    generalize hnn : qs[i].1.name = nn at *
    generalize hdd : qs[i].1.dur = dd at *
    clear hq hF hmem hget hblk1 hown1 hfbn hbb hnn hdd hvq
    go_region_law (first
        | (refine wpH_app_at (base := 0) tyB rfl (s := .tmp 19) (x := .tmp 20) rfl rfl rfl hd1 hbv1 (by simp) hone (by unfold maxLen; omega) (by omega) (Nat.zero_le _) ?_; intro v1 w1 ho1 hg1 hat1; obtain ⟨av, cv, rfl, hv1, hv2, _⟩ := (Row.of_owns ho1).open; have hup := hupd w1 av cv ho1 hg1 hat1; have hS1 := hSW w1 hg1; have hbx := hup.2.2.trans hfbW; have hcz := (cells2 hbx).1; have hfz := frozen_of_row w1 fb 0 _ _ hbx))
    all_goals
      go_wp2
      go_ret
      show DiskPost S w d (bodyA D (.append b') n) _ _
      rw [HR.out]
      refine ⟨_, rfl, ⟨mb, _, hup.1⟩, (Fr.of_below (F := S) hB1.drew).trans hup.2.1 (fun _ _ h => h), fun k hk hs => hs.elim id (fun h => ?_)⟩
      have := hB1.size
      have h3 : W1.drew.heap.size = W1.heap.size := rfl
      omega

set_option maxHeartbeats 1000000 in
theorem append_any {S : Nat → Prop} (D : DiskA) (d : Nat) (w : World) (h : DiskAt S w d D) (n : Bytes) (hn : n.length ≤ 1048576) (hp0 : 0 ≤ D.plan) (hp1 : D.plan ≤ 4611686018427387904) (hu : usedF D.files ≤ 1099511627776) (bv : Value) (b' : Bytes) (hbv : SlB S w bv b') (hbl : b'.length ≤ 1073741824) :
    Calls Tryz.prog 64 #[.pointer (some ⟨d, 0, none⟩), .string ⟨n.toArray⟩, bv] w (DiskPost S w d (doA D (.append b') n)) := by
  obtain ⟨ab, capb, rfl, hab1, hab2⟩ := hbv.shape
  have hB := below3 w (.cells #[.pointer (some ⟨d, 0, none⟩)] 26) (.cells #[.slice ab b'.length capb] 30) (.cells #[.string ⟨n.toArray⟩] 9)
  have g0 := heap3_0 w (.cells #[.pointer (some ⟨d, 0, none⟩)] 26) (.cells #[.slice ab b'.length capb] 30) (.cells #[.string ⟨n.toArray⟩] 9)
  have g1 := heap3_1 w (.cells #[.pointer (some ⟨d, 0, none⟩)] 26) (.cells #[.slice ab b'.length capb] 30) (.cells #[.string ⟨n.toArray⟩] 9)
  have g2 := heap3_2 w (.cells #[.pointer (some ⟨d, 0, none⟩)] 26) (.cells #[.slice ab b'.length capb] 30) (.cells #[.string ⟨n.toArray⟩] 9)
  have hz := size3 w (.cells #[.pointer (some ⟨d, 0, none⟩)] 26) (.cells #[.slice ab b'.length capb] 30) (.cells #[.string ⟨n.toArray⟩] 9)
  have hw := h.below hB
  have hSl : ∀ k, S k → k < w.heap.size := by obtain ⟨mb, qs, h'⟩ := h; exact h'.lt
  go_enter Tryz.func64, Tryz.ntmps64
  go_wp2_with fail
  generalize ((w.alloc (.cells #[.pointer (some ⟨d, 0, none⟩)] 26)).alloc (.cells #[.slice ab b'.length capb] 30)).alloc (.cells #[.string ⟨n.toArray⟩] 9) = W3 at *
  have hrow : Row S W3 (.slice (some ⟨w.heap.size + 1 + 1, 0, none⟩) 1 1) 1 [stV n] := .inr ⟨_, 0, 1, rfl, Nat.le_refl _, by omega, by omega, fun hk => by have := hSl _ hk; omega, fun j u hu => by
    cases j with
    | zero => cases hu; exact cell1 g2
    | succ j => simp at hu⟩
  have hrun : Calls Tryz.prog 103 #[.pointer (some ⟨d, 0, none⟩), .agg #[.slice (some ⟨w.heap.size + 1 + 1, 0, none⟩) 1 1, .bool false, .func (.func 128) #[] #[.pointer (some ⟨w.heap.size, 0, none⟩), .pointer (some ⟨w.heap.size + 1, 0, none⟩)]]] W3 (DiskPost S W3 d (doA D (.append b') n)) := by
    cases hd : D.down with
    | true => exact run_down D d _ hw (.append b') n _ _ rfl hd
    | false =>
      by_cases hp : D.plan = 1
      · exact run_plan D d _ hw (.append b') n _ _ rfl hd hp
      · refine run_open D d _ hw (.append b') n hn _ hrow 128 (Go.Proofs.enters_of Tryz.func128 (by kernel_rfl) rfl) _ hd hp hp0 hp1 (fun W mb qs hin hF hnb hok => ?_)
        obtain ⟨i, hf⟩ := Option.isSome_iff_exists.1 (show (findK nq qs n).isSome = true from hok)
        obtain ⟨hi, _⟩ := findK_some hf
        rw [ptrOf_some hi hf]
        exact append1_any _ d mb qs W hin n i hi hf hnb hu _ _ _ _ (by decide) _ b' ((hF.block _ (by omega) (fun hk => by have := hSl _ hk; omega)).trans g0) ((hF.block _ (by omega) (fun hk => by have := hSl _ hk; omega)).trans g1) ((hbv.below hB).fr hF (fun _ h => h) (fun _ _ h => h.elim)) hbl
  refine hrun.mono ?_
  intro e w1 hP
  replace hP := hP.trans (Fr.of_below hB)
  obtain ⟨S', rfl, hP2, hP3, hP4⟩ := hP
  go_wp2
  go_ret
  exact ⟨S', rfl, hP2, hP3, hP4⟩

end Go.Proofs.YtepceidajmedeaaGreatDoor
