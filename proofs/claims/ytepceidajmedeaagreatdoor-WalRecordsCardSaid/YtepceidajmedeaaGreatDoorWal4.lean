/- Lemmas for a law of this seat, part 4: contracts of the functions that it reaches, and the plain law. No condition but those of each lemma. -/
import Derived.Test.YtepceidajmedeaaGreatDoorWal3
import Derived.IntWalk
import Derived.Deep.QuietTactic
import Derived.BigQuiet
import Derived.Deep.RegionHeld3
import Derived.Laws.CopyOwn
import Derived.Lib.AppendZerosOnto
import Derived.Deep.WholeRow
import Derived.Test.YtepceidajmedeaaGreatDoorKeys
import Derived.RangeFuncOwn
import Derived.RangeFuncBound
import Derived.RangeFuncCalls
import Derived.Shelf.Abstract
import Derived.Shelf.RegionOpen
import Derived.OwnWalkIn
import Derived.TacticsInMore
import Derived.LoopNIn
import Derived.LoopIn
import Derived.Laws.ResultCell

namespace Go.Proofs.YtepceidajmedeaaGreatDoor
open Go.RowKit CW

theorem bodyK_full (D : DiskA) (n b : Bytes) (i : Nat) (h : namedB n = true) (hf : findF D.files n = some i) (f : FileA) (hi : D.files[i]? = some f) (hr : D.room < ((usedF D.files + b.length : Nat) : Int)) : bodyA D (.append b) n = (D, 5) := by
  unfold bodyA; rw [if_neg (by rw [h]; decide), hf]; simp only [Option.bind_some, hi]; rw [if_pos hr]
theorem bodyK_append (D : DiskA) (n b : Bytes) (i : Nat) (h : namedB n = true) (hf : findF D.files n = some i) (f : FileA) (hi : D.files[i]? = some f) (hr : ¬ D.room < ((usedF D.files + b.length : Nat) : Int)) : bodyA D (.append b) n = ({ D with files := putF D.files ⟨f.name, f.b ++ b, f.dur⟩ }, 0) := by
  unfold bodyA; rw [if_neg (by rw [h]; decide), hf]; simp only [Option.bind_some, hi]; rw [if_neg hr]
theorem usedF_mem {fs : List FileA} {f : FileA} (h : f ∈ fs) : f.b.length ≤ usedF fs := by
  obtain ⟨l, r, rfl⟩ := List.append_of_mem h
  simp [usedF]
  omega

/-- The append itself: what it leaves. -/
theorem append_upd {S : Nat → Prop} {D : DiskA} {d mb : Nat} {qs : List Ent} {W1 w1 : World} (h : DiskIn S W1 d mb D qs) (i : Nat) (hi : i < qs.length) (b' : Bytes) (av : Option Addr) (cv : Nat)
    (ho : w1.ownsRow 0 5 1 (.slice av (qs[i].1.b.length + b'.length) cv) (qs[i].1.b.length + b'.length) (qs[i].1.b.map encB ++ b'.map encB)) (hg : W1.grownBy w1 qs[i].2.2.ownBlock)
    (hat : (Value.slice av (qs[i].1.b.length + b'.length) cv).ownBlock = qs[i].2.2.ownBlock ∨ (Value.slice av (qs[i].1.b.length + b'.length) cv).ownBlock = some W1.heap.size) :
    DiskIn (fun k => S k ∨ (W1.heap.size ≤ k ∧ k < (w1.setCell ⟨qs[i].2.1, 0, none⟩ (.slice av (qs[i].1.b.length + b'.length) cv)).heap.size)) (w1.setCell ⟨qs[i].2.1, 0, none⟩ (.slice av (qs[i].1.b.length + b'.length) cv)) d mb { D with files := putF D.files ⟨qs[i].1.name, qs[i].1.b ++ b', qs[i].1.dur⟩ } (qs.set i (⟨qs[i].1.name, qs[i].1.b ++ b', qs[i].1.dur⟩, qs[i].2.1, .slice av (qs[i].1.b.length + b'.length) cv)) ∧
      Fr S W1 (w1.setCell ⟨qs[i].2.1, 0, none⟩ (.slice av (qs[i].1.b.length + b'.length) cv)) ∧ w1.heap[qs[i].2.1]? = W1.heap[qs[i].2.1]? := by
  have hq := h.file qs[i] (List.getElem_mem hi)
  have hF := h.inF qs[i] (List.getElem_mem hi)
  have hlt := h.lt _ hF.1
  have hne : some qs[i].2.1 ≠ qs[i].2.2.ownBlock := fun e => by
    rcases hq.2.2 with ⟨hv, _⟩ | ⟨g, cap, cur, hv, _, hh, _⟩
    · rw [hv] at e; cases e
    · rw [hv] at e
      have e : qs[i].2.1 = g := Option.some.inj e
      have h1 := hq.1
      rw [e, hh] at h1
      simp at h1
  have hb1 : w1.heap[qs[i].2.1]? = W1.heap[qs[i].2.1]? := hg.block _ hlt hne
  have hbl := hb1.trans hq.1
  have hfr : Fr (fun k => k = qs[i].2.1 ∨ qs[i].2.2.ownBlock = some k) W1 (w1.setCell ⟨qs[i].2.1, 0, none⟩ (.slice av (qs[i].1.b.length + b'.length) cv)) :=
    ⟨hg.os, hg.tape, hg.output, by simpa [World.setCell] using hg.size, fun k hk hn => (heap_setCell_other _ _ _ _ (fun e => hn (.inl e))).trans (hg.block k hk (fun e => hn (.inr e.symm)))⟩
  have hblk : (w1.setCell ⟨qs[i].2.1, 0, none⟩ (.slice av (qs[i].1.b.length + b'.length) cv)).heap[qs[i].2.1]? = some (.cells #[.slice av (qs[i].1.b.length + b'.length) cv, .int .i64 (qs[i].1.dur : Int)] 151 (0, 0)) := heap_setCell_same _ _ _ _ _ _ hbl
  have hrow : (w1.setCell ⟨qs[i].2.1, 0, none⟩ (.slice av (qs[i].1.b.length + b'.length) cv)).ownsRow 0 5 1 (.slice av (qs[i].1.b.length + b'.length) cv) (qs[i].1.b ++ b').length ((qs[i].1.b ++ b').map encB) := by
    rw [List.length_append, List.map_append]
    refine ownsRow_block ho (fun g hg' => heap_setCell_other _ _ _ _ (fun e => ?_))
    rcases ho.2 with ⟨hv, _⟩ | ⟨g', cap, cur, hv, _, hh, _⟩
    · rw [hv] at hg'; cases hg'
    · rw [hv] at hg'
      have e2 : g' = g := Option.some.inj hg'
      have e : g = qs[i].2.1 := e
      rw [e2, e, hbl] at hh
      simp at hh
  refine ⟨h.upd i hi ⟨qs[i].1.name, qs[i].1.b ++ b', qs[i].1.dur⟩ _ rfl hfr hblk hrow (hat.imp id (fun e g hg' => by rw [e] at hg'; cases hg'; exact Nat.le_refl _)), hfr.mono (fun k _ hk => ?_), hb1⟩
  rcases hk with rfl | hk
  · exact hF.1
  · exact hF.2 k hk

set_option maxHeartbeats 2000000 in
set_option maxRecDepth 100000 in
theorem append1_any {S : Nat → Prop} (D : DiskA) (d mb : Nat) (qs : List Ent) (w : World) (h : DiskIn S w d mb D qs) (n : Bytes) (i : Nat) (hi : i < qs.length) (hf : findK nq qs n = some i) (hnb : namedB n = true) (hu : usedF D.files ≤ 1099511627776) (b1 b2 t1 t2 : Nat) (ht2 : t2 ≠ 5 ∧ t2 ≠ 151) (bv : Value) (b' : Bytes)
    (h1 : w.heap[b1]? = some (.cells #[.pointer (some ⟨d, 0, none⟩)] t1 (0, 0))) (h2 : w.heap[b2]? = some (.cells #[bv] t2 (0, 0))) (hbv : SlB (fun _ => False) w bv b') (hbl : b'.length ≤ 1073741824) :
    Calls Tryz.prog 128 #[.pointer (some ⟨qs[i].2.1, 0, none⟩), .pointer (some ⟨b1, 0, none⟩), .pointer (some ⟨b2, 0, none⟩)] w (DiskPost S w d (bodyA D (.append b') n)) := by
  have hq := h.file qs[i] (List.getElem_mem hi)
  have hF := h.inF qs[i] (List.getElem_mem hi)
  have hFF : findF D.files n = some i := by rw [findF_qs h.files]; exact hf
  have hget := files_get h.files i hi
  have hmem : qs[i].1 ∈ D.files := by rw [← h.files]; exact List.mem_map.2 ⟨_, List.getElem_mem hi, rfl⟩
  have hqu := usedF_mem hmem
  obtain ⟨ab, capb, rfl, hab1, hab2⟩ := hbv.shape
  obtain ⟨aq, capq, hvq, hq1, hq2, _⟩ := (Row.of_owns hq.2).open
  have hfb := h.lt _ hF.1
  have hl1 := (Array.getElem?_eq_some_iff.1 h1).1
  have hl2 := (Array.getElem?_eq_some_iff.1 h2).1
  have hdl := h.lt d h.inD
  have hne : ∀ g, qs[i].2.2.ownBlock = some g → b2 ≠ g := fun g hg e => by
    rcases hq.2.2 with ⟨hv, _⟩ | ⟨g', cap, cur, hv, _, hh, _⟩
    · rw [hv] at hg; cases hg
    · rw [hv] at hg
      have e2 : g' = g := Option.some.inj hg
      rw [e2, ← e, h2] at hh
      simp at hh
      exact ht2.1 hh.2
  have hne2 : b2 ≠ qs[i].2.1 := fun e => by
    have h3 := hq.1
    rw [← e, h2] at h3
    simp at h3
  obtain ⟨c0, c1, c2, c3⟩ := cells4 h.blk
  have hSS : ∀ W, Below w.heap.size w W → (Below w.heap.size w W ∧ W.cell? ⟨b1, 0, none⟩ = some (.pointer (some ⟨d, 0, none⟩)) ∧ W.cell? ⟨b2, 0, none⟩ = some (.slice ab b'.length capb) ∧ W.cell? ⟨d, 0, none⟩ = some (.int .i64 D.room)) := fun W hW => ⟨hW, cell1 ((hW.block _ hl1).trans h1), cell1 ((hW.block _ hl2).trans h2), (hW.cell (p := ⟨d, 0, none⟩) hdl).trans c0⟩
  have hST : ∀ W W', (Below w.heap.size w W ∧ W.cell? ⟨b1, 0, none⟩ = some (.pointer (some ⟨d, 0, none⟩)) ∧ W.cell? ⟨b2, 0, none⟩ = some (.slice ab b'.length capb) ∧ W.cell? ⟨d, 0, none⟩ = some (.int .i64 D.room)) → Below W.heap.size W W' → Below w.heap.size w W' := fun W W' h k => h.1.trans (k.mono h.1.size)
  have hS0 := hSS w.drew (Below.refl _ _).drew
  have hUW : ∀ W, (Below w.heap.size w W ∧ W.cell? ⟨b1, 0, none⟩ = some (.pointer (some ⟨d, 0, none⟩)) ∧ W.cell? ⟨b2, 0, none⟩ = some (.slice ab b'.length capb) ∧ W.cell? ⟨d, 0, none⟩ = some (.int .i64 D.room)) → Calls Tryz.prog 51 #[.pointer (some ⟨d, 0, none⟩)] W fun e w' => e = .returned (.int .i64 (usedF D.files : Nat)) ∧ Below W.heap.size W w' := fun W hW => used_any W ⟨mb, qs, h.below hW.1⟩ (by omega)
  obtain ⟨u, hug⟩ : ∃ u, usedF D.files = u := ⟨_, rfl⟩
  have HUG : Hid (usedF D.files = u) := hug
  rw [hug] at hUW hqu hu
  clear hug
  have hwrap : IntKind.i64.wrap ((u : Int) + (b'.length : Int)) = (u : Int) + (b'.length : Int) := IntWalk.i64_in _ (by omega)
  go_enter Tryz.func128, Tryz.ntmps128
  go_wp2_with fail
  go_region_held3 (fun W => Below w.heap.size w W ∧ W.cell? ⟨b1, 0, none⟩ = some (.pointer (some ⟨d, 0, none⟩)) ∧ W.cell? ⟨b2, 0, none⟩ = some (.slice ab b'.length capb) ∧ W.cell? ⟨d, 0, none⟩ = some (.int .i64 D.room)) (first | assumption) (first | (go_at_call 51; refine (hUW _ (by assumption)).mono ?_; rintro e W1 ⟨rfl, hbu⟩; have hS1 := hSS W1 (hST _ _ (by assumption) hbu)))
  clear hwrap
  have hB1 : Below w.heap.size w W1 := hS1.1
  have hin1 := h.below hB1
  have hF1 : Fr S w W1 := (Fr.of_below hB1)
  clear hSS hST hS0 hUW hS1
  by_cases hr : D.room < (u : Int) + (b'.length : Int)
  · have HR : Hid (bodyA D (.append b') n = (D, 5)) := bodyK_full D n b' i hnb hFF qs[i].1 hget (by rw [HUG.out]; omega)
    have hdr : decide (D.room < (u : Int) + (b'.length : Int)) = true := decide_eq_true hr
    go_wp2
    go_ret
    show DiskPost S w d (bodyA D (.append b') n) _ _
    rw [HR.out]
    exact ⟨S, rfl, ⟨mb, qs, hin1⟩, hF1, fun _ _ h => h⟩
  · have HR : Hid (bodyA D (.append b') n = ({ D with files := putF D.files ⟨qs[i].1.name, qs[i].1.b ++ b', qs[i].1.dur⟩ }, 0)) := bodyK_append D n b' i hnb hFF qs[i].1 hget (by rw [HUG.out]; omega)
    have hdr : decide (D.room < (u : Int) + (b'.length : Int)) = false := decide_eq_false hr
    go_wp2_with fail
    have hown1 := (hin1.file qs[i] (List.getElem_mem hi)).2
    have hblk1 := (hin1.file qs[i] (List.getElem_mem hi)).1
    have hd1 : W1.drew.ownsRow 0 5 1 qs[i].2.2 qs[i].1.b.length (qs[i].1.b.map encB) := hown1
    have hbv1 : SlB (fun _ => False) W1.drew (.slice ab b'.length capb) b' := hbv.below hB1.drew
    have hb2 := (hB1.block _ hl2).trans h2
    have hone := bytes_one b'
    have hl2' : b2 < W1.heap.size := Nat.lt_of_lt_of_le hl2 hB1.size
    have hS0 : W1.drew.cell? ⟨b2, 0, none⟩ = some (.slice ab b'.length capb) := cell1 hb2
    have hSW : ∀ W, W1.drew.grownBy W qs[i].2.2.ownBlock → W.cell? ⟨b2, 0, none⟩ = some (.slice ab b'.length capb) := fun W hg => cell1 ((hg.block b2 hl2' (fun e => hne _ e.symm rfl)).trans hb2)
    have hSX : ∀ W u, W1.drew.grownBy W qs[i].2.2.ownBlock → (W.setCell ⟨qs[i].2.1, 0, none⟩ u).cell? ⟨b2, 0, none⟩ = some (.slice ab b'.length capb) := fun W u hg => cell1 ((heap_setCell_other _ _ _ _ hne2).trans ((hg.block b2 hl2' (fun e => hne _ e.symm rfl)).trans hb2))
    have hupd := fun w1 av cv => append_upd (w1 := w1) (hin1.below (Below.refl _ W1).drew) i hi b' av cv
    have hfbW : W1.drew.heap[qs[i].2.1]? = some (.cells #[.slice aq qs[i].1.b.length capq, .int .i64 (qs[i].1.dur : Int)] 151 (0, 0)) := by rw [← hvq]; exact hblk1
    obtain ⟨f0, f1⟩ := cells2 hfbW
    have f0' : W1.cell? ⟨qs[i].2.1, 0, none⟩ = some (.slice aq qs[i].1.b.length capq) := f0
    rw [hvq] at hd1 hSW hSX hupd
    generalize hfbn : qs[i].2.1 = fb at *
    generalize hbb : qs[i].1.b = bb at *
    generalize hnn : qs[i].1.name = nn at *
    generalize hdd : qs[i].1.dur = dd at *
    clear hq hF hmem hget hblk1 hown1 hfbn hbb hnn hdd hvq
    go_region_held3 (fun W => W.cell? ⟨b2, 0, none⟩ = some (.slice ab b'.length capb)) (first | assumption | exact hSX _ _ hg1)
      (first
        | (refine wpH_app_at (base := 0) tyB rfl (s := .tmp 19) (x := .tmp 20) rfl rfl rfl hd1 hbv1 (by simp) hone (by unfold maxLen; omega) (by omega) (Nat.zero_le _) ?_; intro v1 w1 ho1 hg1 hat1; obtain ⟨av, cv, rfl, hv1, hv2, _⟩ := (Row.of_owns ho1).open; have hup := hupd w1 av cv ho1 hg1 hat1; have hS1 := hSW w1 hg1; have hbx := hup.2.2.trans hfbW; have hcz := (cells2 hbx).1; have hfz := frozen_of_row w1 fb 0 _ _ hbx))
    go_wp2
    go_ret
    show DiskPost S w d (bodyA D (.append b') n) _ _
    rw [HR.out]
    refine ⟨_, rfl, ⟨mb, _, hup.1⟩, (Fr.of_below (F := S) hB1.drew).trans hup.2.1 (fun _ _ h => h), fun k hk hs => hs.elim id (fun h => ?_)⟩
    have := hB1.size
    have h3 : W1.drew.heap.size = W1.heap.size := rfl
    omega

set_option maxHeartbeats 1000000 in
theorem append_any {S : Nat → Prop} (D : DiskA) (d : Nat) (w : World) (h : DiskAt S w d D) (n : Bytes) (hn : n.length ≤ 1048576) (hp0 : 0 ≤ D.plan) (hp1 : D.plan ≤ 4611686018427387904) (hu : usedF D.files ≤ 1099511627776) (bv : Value) (b' : Bytes) (hbv : SlB S w bv b') (hbl : b'.length ≤ 1073741824) :
    Calls Tryz.prog 64 #[.pointer (some ⟨d, 0, none⟩), .string ⟨n.toArray⟩, bv] w (DiskPost S w d (doA D (.append b') n)) := by
  obtain ⟨ab, capb, rfl, hab1, hab2⟩ := hbv.shape
  have hB := below3 w (.cells #[.pointer (some ⟨d, 0, none⟩)] 26) (.cells #[.slice ab b'.length capb] 30) (.cells #[.string ⟨n.toArray⟩] 9)
  have g0 := heap3_0 w (.cells #[.pointer (some ⟨d, 0, none⟩)] 26) (.cells #[.slice ab b'.length capb] 30) (.cells #[.string ⟨n.toArray⟩] 9)
  have g1 := heap3_1 w (.cells #[.pointer (some ⟨d, 0, none⟩)] 26) (.cells #[.slice ab b'.length capb] 30) (.cells #[.string ⟨n.toArray⟩] 9)
  have g2 := heap3_2 w (.cells #[.pointer (some ⟨d, 0, none⟩)] 26) (.cells #[.slice ab b'.length capb] 30) (.cells #[.string ⟨n.toArray⟩] 9)
  have hz := size3 w (.cells #[.pointer (some ⟨d, 0, none⟩)] 26) (.cells #[.slice ab b'.length capb] 30) (.cells #[.string ⟨n.toArray⟩] 9)
  have hw := h.below hB
  have hSl : ∀ k, S k → k < w.heap.size := by obtain ⟨mb, qs, h'⟩ := h; exact h'.lt
  go_enter Tryz.func64, Tryz.ntmps64
  go_wp2_with fail
  generalize ((w.alloc (.cells #[.pointer (some ⟨d, 0, none⟩)] 26)).alloc (.cells #[.slice ab b'.length capb] 30)).alloc (.cells #[.string ⟨n.toArray⟩] 9) = W3 at *
  have hrow : Row S W3 (.slice (some ⟨w.heap.size + 1 + 1, 0, none⟩) 1 1) 1 [stV n] := .inr ⟨_, 0, 1, rfl, Nat.le_refl _, by omega, by omega, fun hk => by have := hSl _ hk; omega, fun j u hu => by
    cases j with
    | zero => cases hu; exact cell1 g2
    | succ j => simp at hu⟩
  have hrun : Calls Tryz.prog 103 #[.pointer (some ⟨d, 0, none⟩), .agg #[.slice (some ⟨w.heap.size + 1 + 1, 0, none⟩) 1 1, .bool false, .func (.func 128) #[] #[.pointer (some ⟨w.heap.size, 0, none⟩), .pointer (some ⟨w.heap.size + 1, 0, none⟩)]]] W3 (DiskPost S W3 d (doA D (.append b') n)) := by
    cases hd : D.down with
    | true => exact run_down D d _ hw (.append b') n _ _ rfl hd
    | false =>
      by_cases hp : D.plan = 1
      · exact run_plan D d _ hw (.append b') n _ _ rfl hd hp
      · refine run_open D d _ hw (.append b') n hn _ hrow 128 (Go.Proofs.enters_of Tryz.func128 (by kernel_rfl) rfl) _ hd hp hp0 hp1 (fun W mb qs hin hF hnb hok => ?_)
        obtain ⟨i, hf⟩ := Option.isSome_iff_exists.1 (show (findK nq qs n).isSome = true from hok)
        obtain ⟨hi, _⟩ := findK_some hf
        rw [ptrOf_some hi hf]
        exact append1_any _ d mb qs W hin n i hi hf hnb hu _ _ _ _ (by decide) _ b' ((hF.block _ (by omega) (fun hk => by have := hSl _ hk; omega)).trans g0) ((hF.block _ (by omega) (fun hk => by have := hSl _ hk; omega)).trans g1) ((hbv.below hB).fr hF (fun _ h => h) (fun _ _ h => h.elim)) hbl
  refine hrun.mono ?_
  intro e w1 hP
  replace hP := hP.trans (Fr.of_below hB)
  obtain ⟨S', rfl, hP2, hP3, hP4⟩ := hP
  go_wp2
  go_ret
  exact ⟨S', rfl, hP2, hP3, hP4⟩

end Go.Proofs.YtepceidajmedeaaGreatDoor

namespace Go.Proofs.YtepceidajmedeaaGreatDoor
open Go.RowKit CW

theorem same1_any (v v' : Value) (bs bs' : Bytes) (w : World) (hv : SlB (fun _ => False) w v bs) (hv' : SlB (fun _ => False) w v' bs') :
    Calls Tryz.prog 71 #[v, v'] w fun e w' => e = .returned (.bool (bs == bs')) ∧ w = w' := by
  have k1 := run_str_of Tryz.underlying30 Tryz.underlying5 Tryz.underlying9 hv
  have k2 := run_str_of Tryz.underlying30 Tryz.underlying5 Tryz.underlying9 hv'
  go_enter Tryz.func71, Tryz.ntmps71
  go_wp2
  go_ret
  exact ⟨rfl, rfl⟩

set_option maxRecDepth 100000 in
theorem open1_any (M : Nat → Prop) (v : Value) (bs : Bytes) (w : World) (hv : SlB M w v bs) :
    Calls Tryz.prog 166 #[v] w fun e w' => ∃ v' ok, e = .returned (.tuple #[v', .bool ok]) ∧ Below w.heap.size w w' ∧
      (openB bs = none ∧ v' = .slice none 0 0 ∧ ok = false ∨ ∃ x, openB bs = some x ∧ ok = true ∧ SlB M w' v' x) := by
  by_cases h4 : bs.length < 4
  · obtain ⟨a, cap, rfl, hn, hcap, _, hcell⟩ := Row.open hv
    have hno : openB bs = none := by unfold openB; rw [if_pos h4]
    have hd : decide ((bs.length : Int) - 4 < 0) = true := by simp; omega
    clear hcell hv
    go_enter Tryz.func166, Tryz.ntmps166
    go_wp2
    go_quiet (fail)
    go_wp2
    go_ret2
    exact ⟨_, _, rfl, ⟨rfl, rfl, rfl, Nat.le_refl _, fun _ _ => rfl⟩, .inl ⟨hno, rfl, rfl⟩⟩
  · obtain ⟨b, off, cap, rfl, hn, hcap, hb, hm, hcell⟩ := hv.open (by omega)
    obtain ⟨n, hnn⟩ : ∃ n, n + 4 = bs.length := ⟨bs.length - 4, by omega⟩
    have hL : Hid (n + 4 = bs.length) := hnn
    have hd : decide ((n : Int) < 0) = false := by simp
    have hsub : (bs.length : Int) - 4 = (n : Int) := by omega
    have hop : openB bs = if le4 (CW.sum (bs.take n)) = bs.drop n then some (bs.take n) else none := by
      unfold openB
      rw [if_neg h4, show bs.length - 4 = n by omega]
    have HO : Hid (openB bs = if le4 (CW.sum (bs.take n)) = bs.drop n then some (bs.take n) else none) := hop
    clear hop
    have htk := hv.take n (by omega)
    have hdr := hv.drop n (by omega)
    have hcv : ∀ W, Below w.heap.size w W → (convert 30 9 (.slice (some ⟨b, off + n, none⟩) (bs.length - n) (cap - n))).run Tryz.prog W = .ok (.string ⟨(bs.drop n).toArray⟩) W :=
      fun W h => run_str_of Tryz.underlying30 Tryz.underlying5 Tryz.underlying9 (hdr.below h)
    have g1 : (n : Int) ≤ (bs.length : Int) := by omega
    have g2 : (n : Int) ≤ (cap : Int) := by omega
    have g3 : ¬ cap = n := by omega
    clear hcell hnn h4
    go_enter Tryz.func166, Tryz.ntmps166
    go_wp2
    go_region_held3 (fun W => Below w.heap.size w W) (first | assumption | exact (Below.refl _ _).drew)
      (first
        | (go_at_call 163; refine (sum1_any _ _ _ (htk.any.below ‹_›)).mono ?_; rintro e w' ⟨rfl, rfl⟩)
        | (go_at_call 133; refine (little_any _ _ (sum_lt _)).mono ?_; rintro e w2 ⟨v2, rfl, hs2', hb2⟩; have hs2 := SlB.of_owns hs2'; have k2 := run_str_of Tryz.underlying30 Tryz.underlying5 Tryz.underlying9 hs2; have hbb := Below.trans ‹Below w.heap.size w _› (hb2.mono (Below.size ‹Below w.heap.size w _›))))
    go_wp2
    · have h : (!le4 (CW.sum (bs.take n)) == bs.drop n) = true := by assumption
      have hne : ¬ le4 (CW.sum (bs.take n)) = bs.drop n := by simpa using h
      go_ret2
      exact ⟨_, _, rfl, by assumption, .inl ⟨by rw [HO.out, if_neg hne], rfl, rfl⟩⟩
    · have h : (!le4 (CW.sum (bs.take n)) == bs.drop n) = false := by assumption
      have he : le4 (CW.sum (bs.take n)) = bs.drop n := by simpa using h
      go_ret2
      exact ⟨_, _, rfl, by assumption, .inr ⟨_, by rw [HO.out, if_pos he], rfl, htk.below (by assumption)⟩⟩

end Go.Proofs.YtepceidajmedeaaGreatDoor

namespace Go.Proofs.YtepceidajmedeaaGreatDoor
open Go.RowKit CW

theorem shift_any (x : Nat) (w : World) (hx : x < 4294967296) :
    Calls Tryz.prog 244 #[.int .u32 (x : Int)] w fun e w' => e = .returned (.int .u32 (halves 8 x : Nat)) ∧ w = w' := by
  go_enter Tryz.func244, Tryz.ntmps244
  go_wp2
  go_loop [0, 3] (fun a i => ∃ k : Nat, k ≤ 8 ∧ i = .int .i64 k ∧ a = .int .u32 ((halves k x : Nat) : Int)) (fun _ i => 8 - (intOf i).toNat)
  case atStart => exact ⟨0, by omega, rfl, rfl⟩
  case round =>
    obtain ⟨k, hk, rfl, rfl⟩ := hrel
    have hl := halves_lt k hx
    have HS : Hid (halves (k + 1) x = half (halves k x)) := halves_succ k x
    generalize hy : halves k x = y at hl HS
    have HY : Hid (halves k x = y) := hy
    clear hy
    by_cases hlt : k < 8
    · by_cases hp : y % 2 = 1
      · have HH : Hid (half y = (y / 2) ^^^ 2197175160) := by show half y = _; unfold half; rw [if_pos hp]
        have hxo : bits .xor .u32 ((y : Int) / 2) 2197175160 = (((y / 2) ^^^ 2197175160 : Nat) : Int) := by
          have h := u32_xor_nat (y / 2) 2197175160 (by omega) (by decide)
          rwa [Int.natCast_ediv] at h
        have ha : bits .and .u32 (y : Int) 1 = 1 := by
          have h := u32_and_nat y 1 hl (by decide)
          rwa [nat_mask1, hp] at h
        have hm : bits .and .u32 2197175160 4294967295 = 2197175160 := by kernel_rfl
        clear hp
        go_wp2
        go_round
        case rel => exact ⟨k + 1, by omega, by go_num, by rw [HS.out, HH.out]⟩
        case measure => simp [intOf]; omega
      · have HH : Hid (half y = y / 2) := by show half y = _; unfold half; rw [if_neg hp]
        have hxo : bits .xor .u32 ((y : Int) / 2) 0 = ((y / 2 : Nat) : Int) := by
          have h := u32_xor_nat (y / 2) 0 (by omega) (by decide)
          rwa [Int.natCast_ediv, Nat.xor_zero] at h
        have ha : bits .and .u32 (y : Int) 1 = 0 := by
          have h := u32_and_nat y 1 hl (by decide)
          rwa [nat_mask1, show y % 2 = 0 by omega] at h
        have hm : bits .and .u32 2197175160 0 = 0 := by kernel_rfl
        clear hp
        go_wp2
        go_round
        case rel => exact ⟨k + 1, by omega, by go_num, by rw [HS.out, HH.out]; go_num⟩
        case measure => simp [intOf]; omega
    · go_wp2
      go_ret
      obtain rfl : k = 8 := by omega
      exact ⟨by rw [HY.out]; rfl, rfl⟩

theorem size263 : Tryz.zeroCells263.size = 256 := by kernel_rfl

def tab (i : Nat) : Value := .int .u32 (halves 8 i : Nat)
def tabCells : Array Value := ((List.range 256).map tab).toArray
theorem tab_at (i : Nat) (h : i < 256) : tabCells[i]? = some (tab i) := by simp [tabCells, h]
theorem tab_one : ∀ v ∈ tabCells.toList, v.oneCell' = true := by
  intro v hv
  simp only [tabCells, List.mem_map] at hv
  obtain ⟨i, _, rfl⟩ := hv
  rfl

set_option maxRecDepth 100000 in
theorem table_any (w : World) :
    Calls Tryz.prog 228 #[] w fun e w' => e = .returned (.agg tabCells) ∧ Below w.heap.size w w' := by
  go_enter Tryz.func228, Tryz.ntmps228
  go_wp2_with fail
  go_loopw [4] (fun i wr => ∃ (k : Nat) (cur : Array Value), k ≤ 256 ∧ i = .int .i64 k ∧ wr.heap[w.heap.size + 1]? = some (.cells cur 263 (0, 0)) ∧ cur.size = 256 ∧ (∀ j, j < k → cur[j]? = some (tab j)) ∧
      wr.heap[w.heap.size]? = some (.cells Tryz.zeroCells263 263 (0, 0)) ∧ Below w.heap.size w wr) (fun i _ => 256 - (intOf i).toNat)
  case atStart => exact ⟨0, _, by omega, rfl, heap_alloc2_new _ _ _, size263, fun j hj => by omega, heap_alloc2_old _ _ _, ((Below.refl _ _).alloc (Nat.le_refl _) _).alloc (by simp) _⟩
  case round =>
    obtain ⟨k, cur, hk, rfl, hh, hsz, hcur, hz, hb⟩ := hrel
    by_cases hlt : k < 256
    · have hcell : wr.cell? ⟨w.heap.size + 1, k, none⟩ = cur[k]? := Go.cell_of_row wr _ k cur _ _ hh
      rw [Array.getElem?_eq_getElem (by omega)] at hcell
      have hfr := frozen_of_row wr (w.heap.size + 1) k cur _ hh
      go_wp2_with (first | (go_at_call 244; refine (shift_any k _ (by omega)).mono ?_; rintro e w' ⟨rfl, rfl⟩))
      refine ⟨⟨k + 1, cur.setIfInBounds k (tab k), by omega, by go_num, heap_setCell_same _ _ _ _ _ _ hh, by simp [hsz], fun j hj => ?_, (heap_setCell_other _ _ _ _ (by simp)).trans hz, hb.setCell (by simp) _⟩, ?_⟩
      · by_cases e : j = k
        · subst e; simp [hsz, hlt]
        · rw [Array.getElem?_setIfInBounds_ne (fun h => e h.symm)]; exact hcur j (by omega)
      · simp [intOf]; omega
    · have hcu : cur = tabCells := by
        refine Array.ext (by rw [hsz]; simp [tabCells]) fun i h1 h2 => ?_
        have a := hcur i (by omega)
        have b := tab_at i (by omega)
        rw [Array.getElem?_eq_getElem h1] at a
        rw [Array.getElem?_eq_getElem h2] at b
        exact Option.some.inj (a.trans b.symm)
      subst hcu
      go_wp2_with (first
        | (refine wpList_load_row rfl 263 (.tmp 1) rfl (w.heap.size + 1) rfl 263 tabCells (0, 0) _ hh Tryz.underlying263 rfl (by kernel_rfl) ?_)
        | (refine wpList_store_whole rfl (ty := 263) (x := .tmp 0) (y := .tmp 14) rfl w.heap.size 263 tabCells _ rfl rfl hz (by rw [size263]; rfl) (by kernel_rfl) tab_one ?_))
      refine bodyPost_ret (v := .agg tabCells) (results_cell_row (fr := (0, 0)) Tryz.results228 _ _ w.heap.size 263 tabCells _ rfl (setRow_heap _ _ _ _ _ _ hz) Tryz.underlying263 rfl (by kernel_rfl)) rfl ⟨rfl, below_setRow hb (Nat.le_refl _) _⟩

end Go.Proofs.YtepceidajmedeaaGreatDoor

namespace Go.Proofs.YtepceidajmedeaaGreatDoor
open Go.RowKit CW

theorem i5 : (Tryz.prog.info? 5).map (fun i => (i.zero, i.size, i.bytes)) = some (some (.int .u8 0), 1, 1) := by kernel_rfl

/-- slices.Grow of no slice: room for n bytes. -/
theorem grow0_any (n : Nat) (w : World) (hn : n ≤ 70368744177664) :
    Calls Tryz.prog 162 #[.slice none 0 0, .int .i64 n] w fun e w' => ∃ v, e = .returned v ∧ w'.ownsRow w.heap.size 5 1 v 0 [] ∧ Below w.heap.size w w' := by
  have h0 : (0 : Int) ≤ (n : Int) := by omega
  by_cases hz : n = 0
  · subst hz
    go_enter Tryz.func162, Tryz.ntmps162
    go_wp2
    go_ret
    exact ⟨_, rfl, World.ownsRow_nil _ _ _ _, Below.refl _ _⟩
  · obtain ⟨i0, hi, hz0, hz1, hz2⟩ := info_parts i5
    have hpos : (0 : Int) < (n : Int) := by omega
    obtain ⟨G, C, hrz, hG1, hG2, hC⟩ : ∃ (G : Nat) (C : Array Value), (∀ ty, (Builtin.append_ #[30, 3] ty #[.slice none 0 0, .int .i64 (n : Int)]).run Tryz.prog w =
        .ok (.slice (some ⟨w.heap.size, 0, none⟩) n G) (w.drew.alloc (.cells C 5))) ∧ n ≤ G ∧ G ≤ maxLen ∧ C.size = G := by
      have hfit : Builtin.nextslicecap (0 + n) 0 * i0.bytes ≤ 281474976710656 := growslice_fits (by omega) (by rw [hz2]; omega)
      have h : ∀ ty, _ := fun ty => Lib.run_append_grow_zeros w 30 3 ty 5 i0 (.int .u8 0) .i64 .i64 Tryz.underlying30 Tryz.underlying3 hi hz0 none 0 0 [] (run_firstCells_none w.drew i0.size 0 0 0) n (by omega) (by omega) (by omega) (by omega) (by rw [hz2]; omega) hfit
      simp only [Nat.zero_add] at h
      exact ⟨_, _, h, grownCap_ge w n 0 _, grownCap_le_maxLen w n 0 _ (by unfold maxLen; omega), by
        have := grownCap_ge w n 0 5
        simp only [Array.size_append, size_zeroCells, List.size_toArray, List.length_nil, Value.cells]
        simp
        omega⟩
    clear hz0 hz1 hz2 hi
    have hown : (w.drew.alloc (.cells C 5)).ownsRow w.heap.size 5 1 (.slice (some ⟨w.heap.size, 0, none⟩) 0 G) 0 [] := World.ownsRow_made w.drew C G (Nat.le_refl _) hG2 (by rw [hC, Nat.mul_one])
    have HR := hrz
    have g2 : ¬ G = 0 := by omega
    go_enter Tryz.func162, Tryz.ntmps162
    go_wp2_with (at_builtin; refine wpList_app_run rfl rfl rfl rfl hrz ?_; clear hrz)
    go_ret
    refine ⟨_, rfl, hown, ?_⟩
    exact ((Below.refl w.heap.size w).drew).alloc (Nat.le_refl _) _

theorem flat_take (rs : List Bytes) (k : Nat) (h : k < rs.length) : (rs.take (k + 1)).flatten = (rs.take k).flatten ++ rs[k] := by
  rw [List.take_succ_eq_append_getElem h, List.flatten_append]
  simp

theorem flat_take_le (rs : List Bytes) (k : Nat) : (rs.take k).flatten.length ≤ rs.flatten.length := by
  conv => rhs; rw [← List.take_append_drop k rs, List.flatten_append, List.length_append]
  omega

set_option maxHeartbeats 400000 in
set_option maxRecDepth 100000 in
theorem concat_any (v : Value) (rs : List Bytes) (w : World) (hv : SlBB (fun _ => False) w v rs) (hl : rs.flatten.length ≤ 70368744177664) :
    Calls Tryz.prog 122 #[v] w fun e w' => ∃ v', e = .returned v' ∧ w'.ownsRow w.heap.size 5 1 v' rs.flatten.length (rs.flatten.map encB) ∧ Below w.heap.size w w' := by
  obtain ⟨a, cap, rfl, hn, hc, hnone, hcell⟩ := hv.open
  go_enter Tryz.func122, Tryz.ntmps122
  go_wp2
  go_loop [3, 11] (fun s i => ∃ k : Nat, k ≤ rs.length ∧ i = .int .i64 k ∧ s = .int .i64 ((rs.take k).flatten.length : Nat)) (fun _ i => rs.length - (intOf i).toNat)
  case atStart => exact ⟨0, by omega, rfl, rfl⟩
  case round =>
    obtain ⟨k, hk, rfl, rfl⟩ := hrel
    by_cases hlt : k < rs.length
    · obtain ⟨b, off, rfl, _, _, hce⟩ := hcell (by omega)
      obtain ⟨u, hu, hsu⟩ := hce k hlt
      obtain ⟨a', cap', rfl, _, _⟩ := hsu.shape
      have hf := flat_take rs k hlt
      have hfl := flat_take_le rs (k + 1)
      have hle : (rs.take (k + 1)).flatten.length = (rs.take k).flatten.length + rs[k].length := by rw [hf, List.length_append]
      have HLE : Hid ((rs.take (k + 1)).flatten.length = (rs.take k).flatten.length + rs[k].length) := hle
      generalize hA : (rs.take k).flatten.length = A at hle HLE
      have HA : Hid ((rs.take k).flatten.length = A) := hA
      have hB : A + rs[k].length ≤ 70368744177664 := by omega
      clear hcell hce hnone hsu hf hfl hle hA
      generalize hC : rs[k].length = C at *
      have HC : Hid (rs[k].length = C) := hC
      clear hC
      go_wp2
      go_round
      case rel => exact ⟨k + 1, by omega, by go_num, by rw [HLE.out]; go_num⟩
      case measure => simp [intOf]; omega
    · have hk' : k = rs.length := by omega
      subst hk'
      rw [List.take_length]
      obtain ⟨N, hN⟩ : ∃ N, N = rs.flatten.length := ⟨_, rfl⟩
      rw [← hN] at hl ⊢
      have HN : Hid (N = rs.flatten.length) := hN
      clear hN
      go_wp2_with (first | (go_at_call 162; refine (grow0_any _ _ hl).mono ?_; rintro e w1 ⟨v1, rfl, ho1, hb1⟩))
      go_loopw [6, 27] (fun s i wr => ∃ k : Nat, k ≤ rs.length ∧ i = .int .i64 k ∧ wr.ownsRow w.heap.size 5 1 s (rs.take k).flatten.length ((rs.take k).flatten.map encB) ∧ Below w.heap.size w wr) (fun _ i _ => rs.length - (intOf i).toNat)
      case atStart => exact ⟨0, by omega, rfl, ho1, hb1⟩
      case round =>
        obtain ⟨k, hk, rfl, hown, hb⟩ := hrel
        by_cases hlt : k < rs.length
        · obtain ⟨b, off, rfl, hbl, _, hce⟩ := hcell (by omega)
          obtain ⟨u, hu, hsu⟩ := hce k hlt
          have hu' : wr.cell? ⟨b, off + k, none⟩ = some u := (hb.cell (p := ⟨b, off + k, none⟩) hbl).trans hu
          have hs' : SlB (fun _ => False) wr u rs[k] := hsu.below hb
          have hf := flat_take rs k hlt
          have hfl := flat_take_le rs (k + 1)
          have hle : (rs.take (k + 1)).flatten.length = (rs.take k).flatten.length + rs[k].length := by rw [hf, List.length_append]
          have hB : (rs.take k).flatten.length + rs[k].length ≤ 70368744177664 := by rw [← hle]; have := HN.out; omega
          have HF : Hid ((rs.take (k + 1)).flatten = (rs.take k).flatten ++ rs[k]) := hf
          generalize hA : (rs.take k).flatten = A at hown hB HF
          have HA : Hid ((rs.take k).flatten = A) := hA
          clear hcell hce hnone hsu hf hfl hle hu hA
          go_wp2_with (at_builtin; refine wpList_app tyB rfl rfl rfl rfl hown hs' (by simp) (bytes_one _) (by unfold maxLen; omega) (by omega) hb.size ?_; intro v2 w2 ho2 hg2)
          go_roundw
          case rel => exact ⟨k + 1, by omega, by go_num, by rw [HF.out, List.length_append, List.map_append]; exact ho2, hb.trans (below_grown hown hg2 hb.size)⟩
          case measure => simp [intOf]; omega
        · have hk' : k = rs.length := by omega
          subst hk'
          rw [List.take_length] at hown
          go_wp2
          go_ret
          exact ⟨_, rfl, by rw [HN.out]; exact hown, hb⟩

set_option maxRecDepth 100000 in
theorem more_any (s : Nat) (v : Value) (bs : Bytes) (w : World) (hs : s < 4294967296) (hv : SlB (fun _ => False) w v bs) :
    Calls Tryz.prog 194 #[.int .u32 (s : Int), v] w fun e w' => e = .returned (.int .u32 (more s bs : Nat)) ∧ Below w.heap.size w w' := by
  obtain ⟨a, cap, rfl, hn, hcap, _, hcell⟩ := Row.open hv
  have hx := flip_bits s hs
  have hfl := flip_lt s
  unfold more
  generalize flip s = f at hx hfl
  go_enter Tryz.func194, Tryz.ntmps194
  go_wp2_with (first
    | (go_at_call 228; refine (table_any _).mono ?_; rintro e w1 ⟨rfl, hb1⟩; have hz1 := heap_alloc_new w1 (.cells Tryz.zeroCells263 263))
    | (refine wpList_store_whole rfl (ty := 263) (x := .tmp 5) (y := .tmp 9) rfl w1.heap.size 263 tabCells _ rfl rfl hz1 (by rw [size263]; rfl) (by kernel_rfl) tab_one ?_))
  have hh2 := setRow_heap _ _ _ tabCells _ _ hz1
  have hb2 : Below w.heap.size w ((w1.alloc (.cells Tryz.zeroCells263 263)).setRow w1.heap.size tabCells) := below_setRow (hb1.alloc hb1.size _) hb1.size _
  generalize w1.heap.size = g at *
  generalize (World.setRow _ g tabCells) = W2 at hh2 hb2 ⊢
  clear hz1 hb1
  go_loop [6, 14] (fun a i => ∃ k : Nat, k ≤ bs.length ∧ i = .int .i64 k ∧ a = .int .u32 (((bs.take k).foldl feed f : Nat) : Int)) (fun _ i => bs.length - (intOf i).toNat)
  case atStart => exact ⟨0, by omega, rfl, rfl⟩
  case round =>
    obtain ⟨k, hk, rfl, rfl⟩ := hrel
    have hl := fold_lt (bs.take k) hfl
    by_cases hlt : k < bs.length
    · obtain ⟨b, off, rfl, hbl, _, hc⟩ := hcell (by omega)
      have hck := (hb2.cell (p := ⟨b, off + k, none⟩) hbl).trans (hc k (encB bs[k]) (by simp [hlt]))
      have HN : Hid ((bs.take (k + 1)).foldl feed f = feed ((bs.take k).foldl feed f) bs[k]) := by
        show (bs.take (k + 1)).foldl feed f = _
        rw [List.take_succ_eq_append_getElem hlt, List.foldl_append]; rfl
      generalize (bs.take k).foldl feed f = r at hl HN
      generalize bs[k] = c at hck HN
      have hcc := c.toNat_lt
      have hft := feed_table r c
      have HF : Hid (feed r c = (r / 256) ^^^ halves 8 ((r % 256) ^^^ c.toNat)) := hft
      have hix : bits .xor .u8 ((r : Int) % 256) (c.toNat : Int) = (((r % 256) ^^^ c.toNat : Nat) : Int) := by
        have h := u8_xor_nat (r % 256) c.toNat (by omega) (by omega)
        rwa [Int.natCast_emod] at h
      have hxl : (r % 256) ^^^ c.toNat < 256 := xor_lt256 (by omega) (by omega)
      generalize (r % 256) ^^^ c.toNat = x at hix hxl HF
      have htab : W2.cell? ⟨g, x, none⟩ = some (.int .u32 (halves 8 x : Nat)) := (Go.cell_of_row W2 g x tabCells _ _ hh2).trans (tab_at x hxl)
      have hh8 := halves_lt 8 (show x < 4294967296 by omega)
      have hxo : bits .xor .u32 ((r : Int) / 256) ((halves 8 x : Nat) : Int) = (((r / 256) ^^^ halves 8 x : Nat) : Int) := by
        have h := u32_xor_nat (r / 256) (halves 8 x) (by omega) hh8
        rwa [Int.natCast_ediv] at h
      generalize halves 8 x = y at htab hxo HF
      unfold encB at hck
      clear hc hcell hx hft hh8 hh2
      go_wp2
      go_round
      case rel => exact ⟨k + 1, by omega, by go_num, by rw [HN.out, HF.out]⟩
      case measure => simp [intOf]; omega
    · have hfin := flip_bits _ hl
      obtain rfl : k = bs.length := by omega
      rw [List.take_length] at hfin ⊢
      go_wp2
      go_ret
      exact ⟨rfl, hb2⟩

end Go.Proofs.YtepceidajmedeaaGreatDoor

namespace Go.Proofs.YtepceidajmedeaaGreatDoor
open Go.RowKit CW

theorem tyBB : SlTy Tryz.prog 23 30 1 24 (.slice none 0 0) := SlTy.mk' Tryz.underlying23 (by kernel_rfl) rfl (by decide)

theorem sum_any (v : Value) (rs : List Bytes) (w : World) (hv : SlBB (fun _ => False) w v rs) (hl : rs.flatten.length ≤ 70368744177664) :
    Calls Tryz.prog 161 #[v] w fun e w' => e = .returned (.int .u32 (CW.sum rs.flatten : Nat)) ∧ Below w.heap.size w w' := by
  unfold CW.sum
  have hm : ∀ u w1, SlB (fun _ => False) w1 u rs.flatten → Calls Tryz.prog 194 #[.int .u32 0, u] w1 fun e w' => e = .returned (.int .u32 (more 0 rs.flatten : Nat)) ∧ Below w1.heap.size w1 w' := fun u w1 h => more_any 0 u _ w1 (by decide) h
  generalize more 0 rs.flatten = m at hm ⊢
  go_enter Tryz.func161, Tryz.ntmps161
  go_wp2_with (first
    | (go_at_call 122; refine (concat_any _ _ _ hv hl).mono ?_; rintro e w1 ⟨v1, rfl, ho1, hb1⟩; have hs1 := SlB.any (SlB.of_owns ho1))
    | (go_at_call 194; refine (hm _ _ hs1).mono ?_; rintro e w2 ⟨rfl, hb2⟩))
  go_ret
  exact ⟨rfl, hb1.trans (hb2.mono hb1.size)⟩

set_option maxHeartbeats 400000 in
theorem seal_any (v : Value) (bs : Bytes) (w : World) (hv : SlB (fun _ => False) w v bs) (hl : bs.length ≤ 70368744177660) :
    Calls Tryz.prog 121 #[v] w fun e w' => ∃ v', e = .returned v' ∧ w'.ownsRow w.heap.size 5 1 v' (sealB bs).length ((sealB bs).map encB) ∧ Below w.heap.size w w' := by
  obtain ⟨a, cap, rfl, hn, hcap⟩ := hv.shape
  have hb0 : Below w.heap.size w (w.alloc (.cells #[.slice a bs.length cap] 30)) := (Below.refl _ _).alloc (Nat.le_refl _) _
  have hbb : SlBB (fun _ => False) (w.alloc (.cells #[.slice a bs.length cap] 30)) (.slice (some ⟨w.heap.size, 0, none⟩) 1 1) [bs] := SlBB.lit1 (Nat.le_refl _) hv (fun _ h => h.elim)
  have hs : Calls Tryz.prog 161 #[.slice (some ⟨w.heap.size, 0, none⟩) 1 1] (w.alloc (.cells #[.slice a bs.length cap] 30)) fun e w' => e = .returned (.int .u32 (CW.sum bs : Nat)) ∧ Below (w.heap.size + 1) (w.alloc (.cells #[.slice a bs.length cap] 30)) w' := by
    have h := sum_any _ _ _ hbb (by simp; omega)
    simpa using h
  have hx := sum_lt bs
  have HS : Hid (sealB bs = bs ++ le4 (CW.sum bs)) := rfl
  generalize CW.sum bs = x at hs hx HS
  clear hbb
  go_enter Tryz.func121, Tryz.ntmps121
  have hlit : ∀ w1 : World, SlB (fun k => k < w1.heap.size) (w1.alloc (.cells #[.int .u8 ((x : Int) % 256), .int .u8 ((x : Int) / 256 % 256), .int .u8 ((x : Int) / 65536 % 256), .int .u8 ((x : Int) / 16777216)] 5)) (.slice (some ⟨w1.heap.size, 0, none⟩) 4 4) (le4 x) :=
    fun w1 => Row.lit (size := 1) (Nat.le_refl _) (by decide) rfl (le4_cells x hx)
  go_wp2_with (first
    | (go_at_call 161; refine hs.mono ?_; rintro e w1 ⟨rfl, hb1⟩; have hb2 : Below w.heap.size w w1 := hb0.trans (hb1.mono (by omega)); clear hb1 hb0)
    | (at_builtin; refine wpList_app_full tyB rfl rfl rfl rfl ((hv.below (hb2.alloc hb2.size _)).full) (by simp) (SlB.any (hlit w1)) (by simp [le4]) (by simp [le4]) (by unfold maxLen; simp [le4]; omega) (by simp [le4]; omega) (bytes_one _) ?_; intro v2 w2 ho2 hg2))
  go_ret
  have hb3 : Below w.heap.size w w2 := (hb2.alloc hb2.size _).grown hg2 (by simp; have := hb2.size; omega) (fun k hk => by cases hk)
  refine ⟨_, rfl, ?_, hb3⟩
  rw [HS.out, List.map_append, List.length_append]
  refine owns_base ho2 ?_
  have := hb2.size
  simp; omega

set_option maxHeartbeats 400000 in
theorem equal_any (v v' : Value) (bs bs' : Bytes) (w : World) (hv : SlB (fun _ => False) w v bs) (hv' : SlB (fun _ => False) w v' bs') :
    Calls Tryz.prog 101 #[v, v'] w fun e w' => e = .returned (.bool (bs == bs')) ∧ Below w.heap.size w w' := by
  obtain ⟨a, cap, rfl, hn, hcap, _, hcell⟩ := Row.open hv
  obtain ⟨a', cap', rfl, hn', hcap', _, hcell'⟩ := Row.open hv'
  by_cases hl : bs.length = bs'.length
  · have hq : (((bs.length : Nat) : Int) != ((bs'.length : Nat) : Int)) = false := by simp [hl]
    have HL : Hid (bs.length = bs'.length) := hl
    clear hl
    go_enter Tryz.func101, Tryz.ntmps101
    go_wp2
    go_loopw [13] (fun i wr => ∃ k : Nat, k ≤ bs.length ∧ i = .int .i64 k ∧ bs.take k = bs'.take k ∧ Below w.heap.size w wr) (fun i _ => bs.length - (intOf i).toNat)
    case atStart => exact ⟨0, by omega, rfl, rfl, Below.refl _ _⟩
    case round =>
      obtain ⟨k, hk, rfl, htk, hb⟩ := hrel
      by_cases hlt : k < bs.length
      · have hlt' : k < bs'.length := by rw [← HL.out]; exact hlt
        obtain ⟨b, off, rfl, hbl, _, hc⟩ := hcell (by omega)
        obtain ⟨b', off', rfl, hbl', _, hc'⟩ := hcell' (by omega)
        have h1 := (hb.cell (p := ⟨b, off + k, none⟩) hbl).trans (hc k (encB bs[k]) (by simp [hlt]))
        have h2 := (hb.cell (p := ⟨b', off' + k, none⟩) hbl').trans (hc' k (encB bs'[k]) (by simp [hlt']))
        have HT : Hid (bs.take (k + 1) = bs.take k ++ [bs[k]]) := List.take_succ_eq_append_getElem hlt
        have HT' : Hid (bs'.take (k + 1) = bs'.take k ++ [bs'[k]]) := List.take_succ_eq_append_getElem hlt'
        have HK : Hid (bs.take k = bs'.take k) := htk
        have HX : Hid (bs[k]? = some bs[k]) := by show bs[k]? = _; simp [hlt]
        have HX' : Hid (bs'[k]? = some bs'[k]) := by show bs'[k]? = _; simp [hlt']
        generalize bs[k] = x at *
        generalize bs'[k] = x' at *
        unfold encB at h1 h2
        clear hc hc' hcell hcell' htk
        have i1 : (k : Int) < (bs.length : Int) := by omega
        have i2 : (k : Int) < (bs'.length : Int) := by omega
        go_wp2
        go_quiet (fail)
        go_wp2
        · have hx : ((x.toNat : Int) != (x'.toNat : Int)) = true := by assumption
          go_ret
          have hne : ¬ bs = bs' := fun e => by
            subst e
            have := HX.out.symm.trans HX'.out
            simp at this
            subst this
            simp at hx
          exact ⟨by rw [beq_eq_false_iff_ne.2 hne]; rfl, below_drewN' hb _⟩
        · have hx : ((x.toNat : Int) != (x'.toNat : Int)) = false := by assumption
          have hxx : x = x' := by
            simp at hx
            exact UInt8.toNat_inj.1 (by omega)
          go_roundw
          case rel => exact ⟨k + 1, by omega, by go_num, by rw [HT.out, HT'.out, HK.out, hxx], below_drewN' hb _⟩
          case measure => simp [intOf]; omega
      · have he : bs = bs' := by
          have e1 := List.take_of_length_le (l := bs) (i := k) (by omega)
          have e2 := List.take_of_length_le (l := bs') (i := k) (by rw [← HL.out]; omega)
          rw [← e1, ← e2]; exact htk
        have HE : Hid ((bs == bs') = true) := by show (bs == bs') = true; simpa using he
        clear he htk
        go_wp2
        go_ret
        exact ⟨by rw [HE.out] <;> rfl, hb⟩
  · have hq : (((bs.length : Nat) : Int) != ((bs'.length : Nat) : Int)) = true := by simp; omega
    have HE : Hid ((bs == bs') = false) := by show (bs == bs') = false; exact beq_eq_false_iff_ne.2 (fun e => hl (by rw [e]))
    clear hl
    go_enter Tryz.func101, Tryz.ntmps101
    go_wp2
    go_ret
    exact ⟨by rw [HE.out] <;> rfl, Below.refl _ _⟩

/-- slices.Clone: the same bytes in memory of the call's own. -/
theorem clone_any (v : Value) (bs : Bytes) (w : World) (hv : SlB (fun _ => False) w v bs) (hl : bs.length ≤ 70368744177660) :
    Calls Tryz.prog 118 #[v] w fun e w' => ∃ v', e = .returned v' ∧ w'.ownsRow w.heap.size 5 1 v' bs.length (bs.map encB) ∧ Below w.heap.size w w' := by
  have qT : ∀ (w : World) (a : Option Addr) (n c n' c' : Nat), (binOp .eql 30 (.slice a n c) (.slice none n' c')).run Tryz.prog w = .ok (.bool a.isNone) w := fun w a n c n' c' => Lib.run_eql_slice_nil w _ _ a n c n' c' Tryz.underlying30
  obtain ⟨aa, cap, rfl, hn, hc⟩ := hv.shape
  cases aa with
  | none =>
    obtain ⟨_, _, e, _, _, hnn, _⟩ := Row.open hv
    cases e
    obtain ⟨hz, rfl⟩ := hnn rfl
    have hq : bs = [] := List.length_eq_zero_iff.1 hz
    subst hq
    go_enter Tryz.func118, Tryz.ntmps118
    go_wp2
    go_ret
    refine ⟨_, rfl, ?_, Below.refl _ _⟩
    exact World.ownsRow_nil _ _ _ _
  | some a1 =>
    have h0 : (w.alloc (.cells #[] 5)).ownsRow w.heap.size 5 1 (.slice (some ⟨w.heap.size, 0, none⟩) 0 0) 0 [] := World.ownsRow_made w #[] 0 (Nat.le_refl _) (by decide) rfl
    have hb0 : Below w.heap.size w (w.alloc (.cells #[] 5)) := (Below.refl _ _).alloc (Nat.le_refl _) _
    have hv0 : SlB (fun _ => False) (w.alloc (.cells #[] 5)) (.slice (some a1) bs.length cap) bs := SlB.below hv hb0
    go_enter Tryz.func118, Tryz.ntmps118
    go_wp2_with (at_builtin; refine wpList_app tyB rfl rfl rfl rfl h0 hv0 (by simp) (bytes_one _) (by unfold maxLen; omega) (by omega) hb0.size ?_; intro v1 w1 ho1 hg1)
    go_ret
    refine ⟨_, rfl, ?_, hb0.trans (below_grown h0 hg1 hb0.size)⟩
    simpa using ho1

theorem open_any (v : Value) (bs : Bytes) (w : World) (hv : SlB (fun _ => False) w v bs) (hl : bs.length ≤ 70368744177660) :
    Calls Tryz.prog 197 #[v] w fun e w' => ∃ v' ok, e = .returned (.tuple #[v', .bool ok]) ∧ Below w.heap.size w w' ∧
      (openB bs = none ∧ v' = .slice none 0 0 ∧ ok = false ∨ ∃ x, openB bs = some x ∧ ok = true ∧ SlB (fun k => k < w.heap.size) w' v' x) := by
  by_cases h4 : bs.length < 4
  · obtain ⟨a, cap, rfl, hn, hcap, _, hcell⟩ := Row.open hv
    have hno : openB bs = none := by unfold openB; rw [if_pos h4]
    have hd : decide ((bs.length : Int) - 4 < 0) = true := by simp; omega
    clear hcell hv
    go_enter Tryz.func197, Tryz.ntmps197
    go_wp2
    go_ret2
    exact ⟨_, _, rfl, Below.refl _ _, .inl ⟨hno, rfl, rfl⟩⟩
  · obtain ⟨b, off, cap, rfl, hn, hcap, hb, hm, hcell⟩ := hv.open (by omega)
    obtain ⟨n, hnn⟩ : ∃ n, n + 4 = bs.length := ⟨bs.length - 4, by omega⟩
    have hL : Hid (n + 4 = bs.length) := hnn
    have hd : decide ((n : Int) < 0) = false := by simp
    have hsub : (bs.length : Int) - 4 = (n : Int) := by omega
    have hop : openB bs = if sealB (bs.take n) = bs then some (bs.take n) else none := by
      unfold openB
      rw [if_neg h4, show bs.length - 4 = n by omega]
      have e : (le4 (CW.sum (bs.take n)) = bs.drop n) ↔ (sealB (bs.take n) = bs) := by
        unfold sealB
        constructor
        · intro h; rw [h, List.take_append_drop]
        · intro h
          have h2 := congrArg (List.drop n) h
          rw [List.drop_append_of_le_length (by rw [List.length_take]; omega), List.drop_eq_nil_of_le (by rw [List.length_take]; omega)] at h2
          exact h2
      by_cases h : le4 (CW.sum (bs.take n)) = bs.drop n
      · rw [if_pos h, if_pos (e.1 h)]
      · rw [if_neg h, if_neg (fun x => h (e.2 x))]
    have HO : Hid (openB bs = if sealB (bs.take n) = bs then some (bs.take n) else none) := hop
    have htk := hv.take n (by omega)
    have hlt : (bs.take n).length ≤ 70368744177660 := by rw [List.length_take]; omega
    have g2 : (n : Int) ≤ (cap : Int) := by omega
    clear hcell hnn h4 hop
    go_enter Tryz.func197, Tryz.ntmps197
    go_wp2_with (first
      | (go_at_call 121; refine (seal_any _ _ _ htk hlt).mono ?_; rintro e w1 ⟨v1, rfl, ho1, hb1⟩; have hs1 := SlB.any (SlB.of_owns ho1))
      | (go_at_call 101; refine (equal_any _ _ _ _ _ hs1 (hv.below hb1)).mono ?_; rintro e w2 ⟨rfl, hb2⟩; have hb3 := hb1.trans (hb2.mono hb1.size); clear hb2)
      | (go_at_call 118; refine (clone_any _ _ _ (htk.below hb3) hlt).mono ?_; rintro e w4 ⟨v4, rfl, ho4, hb4⟩; have hb5 := hb3.trans (hb4.mono hb3.size)))
    · have h : (!sealB (bs.take n) == bs) = true := by assumption
      have hne : ¬ sealB (bs.take n) = bs := by simpa using h
      go_ret2
      exact ⟨_, _, rfl, hb3, .inl ⟨by rw [HO.out, if_neg hne], rfl, rfl⟩⟩
    · have h : (!sealB (bs.take n) == bs) = false := by assumption
      have he : sealB (bs.take n) = bs := by simpa using h
      go_ret2
      exact ⟨_, _, rfl, hb5, .inr ⟨_, by rw [HO.out, if_pos he], rfl, (SlB.of_owns ho4).mono (fun k _ hk => Nat.lt_of_lt_of_le hk hb3.size)⟩⟩

end Go.Proofs.YtepceidajmedeaaGreatDoor

namespace Go.Proofs.YtepceidajmedeaaGreatDoor
open Go.RowKit CW

def newA (room : Int) : DiskA := ⟨max room 0, [], 0, false⟩

theorem new_any (room : Int) (w : World) :
    Calls Tryz.prog 40 #[.int .i64 room] w fun e w' => ∃ S d, e = .returned (.pointer (some ⟨d, 0, none⟩)) ∧ DiskAt S w' d (newA room) ∧ Below w.heap.size w w' ∧ (∀ k, S k → w.heap.size ≤ k) := by
  have hmm := @run_makeMap Tryz.prog
  go_enter Tryz.func40, Tryz.ntmps40
  go_wp2
  go_ret
  have hm := (World.ownsMap_made w Tryz.prog 9 ptrE).alloc (.cells #[.int .i64 (max room 0), .map (some w.heap.size), .int .i64 0, .bool false] 134)
  have hb := (boxF (w.alloc (.map #[] 0)) (.cells #[.int .i64 (max room 0), .map (some w.heap.size), .int .i64 0, .bool false] 134))
  have hz : (w.alloc (.map #[] 0)).heap.size = w.heap.size + 1 := by simp
  rw [hz] at hb
  refine ⟨fun k => k = w.heap.size ∨ k = w.heap.size + 1, w.heap.size + 1, rfl, ⟨w.heap.size, [], ?_⟩, ((Below.refl _ _).alloc (Nat.le_refl _) _).alloc (by simp) _, fun k hk => by omega⟩
  exact
  { files := rfl
    blk := hb.2.2
    map := hm
    file := fun q hq => by cases hq
    apart := List.Pairwise.nil
    sorted := List.Pairwise.nil
    inD := .inr rfl
    inM := .inl rfl
    inF := fun q hq => by cases hq
    lt := fun k hk => by have := hb.2.1; omega
    name := fun q hq => by cases hq }

/-- What Read gives. -/
def readA (D : DiskA) (n : Bytes) : Bytes × Int := match (findF D.files n).bind (fun i => D.files[i]?) with | none => ([], 6) | some f => (f.b, 0)

set_option maxHeartbeats 1000000 in
theorem read_any {S : Nat → Prop} (D : DiskA) (d : Nat) (w : World) (h : DiskAt S w d D) (n : Bytes) (hn : n.length ≤ 1048576) (hd : D.down = false) (hu : usedF D.files ≤ 1099511627776) :
    Calls Tryz.prog 56 #[.pointer (some ⟨d, 0, none⟩), .string ⟨n.toArray⟩] w fun e w' => ∃ v, e = .returned (.tuple #[v, .int .i64 (readA D n).2]) ∧ Row (fun k => k < w.heap.size) w' v (readA D n).1.length ((readA D n).1.map encB) ∧ Below w.heap.size w w' := by
  obtain ⟨mb, qs, h⟩ := h
  have hb := h.blk
  rw [hd] at hb
  obtain ⟨c0, c1, c2, c3⟩ := cells4 hb
  rcases ent_ptr h n hn with ⟨hf, hlk⟩ | ⟨i, hi, hf, hlk⟩
  · have e : readA D n = ([], 6) := by unfold readA; rw [findF_qs h.files, hf]; rfl
    rw [e]
    go_enter Tryz.func56, Tryz.ntmps56
    go_wp2
    go_ret2
    exact ⟨_, rfl, .inl ⟨⟨_, rfl⟩, rfl, rfl⟩, Below.refl _ _⟩
  · have e : readA D n = (qs[i].1.b, 0) := by unfold readA; rw [findF_qs h.files, hf]; simp only [Option.bind_some, files_get h.files i hi]
    rw [e]
    have hq := h.file qs[i] (List.getElem_mem hi)
    have hqu : qs[i].1.b.length ≤ usedF D.files := usedF_mem (by rw [← h.files]; exact List.mem_map.2 ⟨_, List.getElem_mem hi, rfl⟩)
    have hrow : SlB (fun _ => False) w qs[i].2.2 qs[i].1.b := (SlB.of_owns hq.2).any
    have hcl := clone_any _ _ w hrow (by omega)
    obtain ⟨a, cap, hv, h1, h2, _⟩ := (Row.of_owns hq.2).open
    have hqb := hq.1
    rw [hv] at hqb hcl
    obtain ⟨x0, x1⟩ := cells2 hqb
    clear hq hqu hrow hv hf e
    generalize qs[i].2.1 = fb at *
    generalize qs[i].1.b = bb at *
    go_enter Tryz.func56, Tryz.ntmps56
    go_wp2_with (go_at_call 118; refine hcl.mono ?_; rintro e w1 ⟨v1, rfl, ho, hb1⟩)
    go_ret2
    exact ⟨v1, rfl, Row.of_owns ho, hb1⟩

end Go.Proofs.YtepceidajmedeaaGreatDoor

namespace Go.Proofs.YtepceidajmedeaaGreatDoor
open Go.RowKit CW

theorem cells5 {w : World} {g : Nat} {t : TypeId} {fr : Nat × Nat} {a b c d e : Value} (h : w.heap[g]? = some (.cells #[a, b, c, d, e] t fr)) :
    w.cell? ⟨g, 0, none⟩ = some a ∧ w.cell? ⟨g, 1, none⟩ = some b ∧ w.cell? ⟨g, 2, none⟩ = some c ∧ w.cell? ⟨g, 3, none⟩ = some d ∧ w.cell? ⟨g, 4, none⟩ = some e :=
  ⟨by rw [Go.cell_of_row _ g 0 _ _ _ h]; rfl, by rw [Go.cell_of_row _ g 1 _ _ _ h]; rfl, by rw [Go.cell_of_row _ g 2 _ _ _ h]; rfl, by rw [Go.cell_of_row _ g 3 _ _ _ h]; rfl, by rw [Go.cell_of_row _ g 4 _ _ _ h]; rfl⟩

theorem walname_any (g : Nat) (n : Nat) (w : World) (h : w.cell? ⟨g, 0, none⟩ = some (.int .i64 (n : Int))) (h1 : 1 ≤ n) (hn : n < 100) :
    Calls Tryz.prog 65 #[.pointer (some ⟨g, 0, none⟩)] w fun e w' => e = .returned (.string ⟨(nameB n).toArray⟩) ∧ Below w.heap.size w w' := by
  have hc := name_any n w h1 hn
  generalize nameB n = s at *
  go_enter Tryz.func65, Tryz.ntmps65
  go_wp2_with (go_at_call 55; refine hc.mono ?_; rintro e w1 ⟨rfl, hb⟩)
  go_ret
  exact ⟨rfl, hb⟩

def stepV (p : Nat × Array Value) : Value := .func (.func p.1) #[] p.2

theorem size170 : (Tryz.prog.info? 170).map (·.size) = some 1 := by kernel_rfl

set_option maxHeartbeats 1000000 in
theorem try_any (fs : List (Nat × Array Value)) (v : Value) (w : World) (P : Nat → World → Prop) (Post : Int → World → Prop)
    (hrow : ∀ k W, P k W → Row (fun _ => False) W v fs.length (fs.map stepV)) (hst : ∀ k W W', P k W → Below W.heap.size W W' → P k W') (hfe : ∀ p ∈ fs, ∀ args W, (callFunc p.1 args).run Tryz.prog W = .ok (.enter p.1 args) W)
    (hstep : ∀ k (hk : k < fs.length) W, P k W → Calls Tryz.prog fs[k].1 fs[k].2 W fun e w' => ∃ c, e = .returned (.int .i64 c) ∧ (c ≠ 0 → Post c w') ∧ (c = 0 → P (k + 1) w'))
    (hend : ∀ W, P fs.length W → Post 0 W) (h0 : P 0 w) :
    Calls Tryz.prog 123 #[v] w fun e w' => ∃ c, e = .returned (.int .i64 c) ∧ Post c w' := by
  obtain ⟨a, cap, rfl, hn, hc, hnone, hcell0⟩ := (hrow 0 w h0).open
  go_enter Tryz.func123, Tryz.ntmps123
  go_wp2
  go_loopw [8] (fun i wr => ∃ k : Nat, k ≤ fs.length ∧ i = .int .i64 k ∧ Hid (P k wr)) (fun i _ => fs.length - (intOf i).toNat)
  case atStart => exact ⟨0, by omega, rfl, h0⟩
  case round =>
    obtain ⟨k, hk, rfl, HPk⟩ := hrel
    by_cases hlt : k < fs.length
    · obtain ⟨a', cap', e', _, _, _, hcell⟩ := (hrow k wr HPk.out).open
      cases e'
      obtain ⟨b, off, rfl, hbl, _, hcc⟩ := hcell (by omega)
      have h1 := hcc k (stepV fs[k]) (by simp [hlt])
      have hfe1 := hfe fs[k] (List.getElem_mem hlt)
      have hs1 := fun W => hstep k hlt W
      unfold stepV at h1
      have i1 : (k : Int) < (fs.length : Int) := by omega
      have hP2 : ∀ C, Hid (P k (wr.alloc C)) := fun C => hst k _ _ HPk.out ((Below.refl _ _).alloc (Nat.le_refl _) C)
      clear hcell hcc hcell0 hfe hstep
      generalize fs[k].1 = f at *
      generalize fs[k].2 = caps at *
      have hcall := hs1
      go_wp2_with ((with_reducible refine at_sto ?_); refine wpList_store_in rfl (ty := 170) (x := .tmp 4) (y := .tmp 11) rfl wr.heap.size 0 170 (.agg #[.func (.func f) #[] caps]) [.nilFunc] rfl rfl (heap_alloc_new _ _) (Nat.le_refl _) size170 (by intro u hu; simp [Value.cells] at hu; subst hu; rfl) ?_; intro W1 hV1 hV2 hV3; replace hV1 : W1.heap[wr.heap.size]? = some (.cells #[.func (.func f) #[] caps] 170 (0, 0)) := hV1; have hx0 := cell1 hV1; have HB1 : Below wr.heap.size wr W1 := ((Below.refl _ _).alloc (Nat.le_refl _) _).trans (hV2.below (by simp) (by intro q h1 h2; omega)))
      refine (hcall W1 (hst k wr W1 HPk.out HB1)).mono ?_
      rintro e W2 ⟨c, rfl, hc0, hc1⟩
      by_cases hcz : c = 0
      · subst hcz
        have HP2 : Hid (P (k + 1) W2) := hc1 rfl
        clear hc0 hc1 hP2
        go_wp2
        go_roundw
        case rel => exact ⟨k + 1, by omega, by go_num, HP2⟩
        case measure => simp [intOf]; omega
      · have hpost := hc0 hcz
        have hcb : (c != 0) = true := by simpa using hcz
        clear hc0 hc1 hP2
        go_wp2
        go_ret
        exact ⟨c, rfl, hpost⟩
    · have hkl : k = fs.length := by omega
      subst hkl
      go_wp2
      go_ret
      exact ⟨0, rfl, hend _ HPk.out⟩

end Go.Proofs.YtepceidajmedeaaGreatDoor

namespace Go.Proofs.YtepceidajmedeaaGreatDoor
open Go.RowKit CW

set_option maxHeartbeats 1000000 in
set_option maxRecDepth 100000 in
theorem rot2_any {T : Nat → Prop} (D : DiskA) (d l b1 n : Nat) (s wt mo : Value) (w : World) (hD : DiskAt T w d D) (h1 : w.heap[b1]? = some (.cells #[.pointer (some ⟨l, 0, none⟩)] 27 (0, 0))) (hl : w.heap[l]? = some (.cells #[.int .i64 (n : Int), s, wt, .pointer (some ⟨d, 0, none⟩), mo] 108 (0, 0)))
    (n1 : ¬ T b1) (n2 : ¬ T l) (hn1 : 1 ≤ n) (hn : n < 100) (hp0 : 0 ≤ D.plan) (hp1 : D.plan ≤ 4611686018427387904) :
    Calls Tryz.prog 125 #[.pointer (some ⟨b1, 0, none⟩)] w (DiskPost T w d (doA D .sync (nameB n))) := by
  obtain ⟨c0, c1, c2, c3, c4⟩ := cells5 hl
  have e1 := cell1 h1
  have hl1 := (Array.getElem?_eq_some_iff.1 h1).1
  have hll := (Array.getElem?_eq_some_iff.1 hl).1
  have hSS : ∀ W, Below w.heap.size w W → (W.cell? ⟨b1, 0, none⟩ = some (.pointer (some ⟨l, 0, none⟩)) ∧ W.cell? ⟨l, 3, none⟩ = some (.pointer (some ⟨d, 0, none⟩)) ∧ W.cell? ⟨l, 0, none⟩ = some (.int .i64 (n : Int))) := fun W hW => ⟨(hW.cell (p := ⟨b1, 0, none⟩) hl1).trans e1, (hW.cell (p := ⟨l, 3, none⟩) hll).trans c3, (hW.cell (p := ⟨l, 0, none⟩) hll).trans c0⟩
  have hSF : ∀ W, Fr T w W → (W.cell? ⟨b1, 0, none⟩ = some (.pointer (some ⟨l, 0, none⟩)) ∧ W.cell? ⟨l, 3, none⟩ = some (.pointer (some ⟨d, 0, none⟩)) ∧ W.cell? ⟨l, 0, none⟩ = some (.int .i64 (n : Int))) := fun W hW => by
    have a1 := (hW.block b1 hl1 n1).trans h1
    have a2 := (hW.block l hll n2).trans hl
    exact ⟨cell1 a1, (cells5 a2).2.2.2.1, (cells5 a2).1⟩
  have hS0 := hSS w.drew (Below.refl _ _).drew
  have hsy := fun W (hW : Below w.heap.size w W) => sync_any D d W (hD.below hW) (nameB n) (by rw [nameB_length]; omega) hp0 hp1
  have hnm := fun W (hW : W.cell? ⟨l, 0, none⟩ = some (.int .i64 (n : Int))) => walname_any l n W hW hn1 hn
  generalize nameB n = nb at *
  generalize doA D .sync nb = R at *
  go_enter Tryz.func125, Tryz.ntmps125
  go_wp2_with fail
  go_region_held3 (fun W => W.cell? ⟨b1, 0, none⟩ = some (.pointer (some ⟨l, 0, none⟩)) ∧ W.cell? ⟨l, 3, none⟩ = some (.pointer (some ⟨d, 0, none⟩)) ∧ W.cell? ⟨l, 0, none⟩ = some (.int .i64 (n : Int))) (first | assumption)
    (first
      | (go_at_call 65; refine (hnm _ hS0.2.2).mono ?_; rintro e W1 ⟨rfl, hb⟩; have hB1 : Below w.heap.size w W1 := (Below.refl _ _).drew.trans hb; have hS1 := hSS W1 hB1)
      | (go_at_call 83; refine (hsy _ hB1).mono ?_; intro e W2 hP; replace hP := hP.trans (Fr.of_below hB1); obtain ⟨T', rfl, hP2, hP3, hP4⟩ := hP; have hS2 := hSF W2 hP3))
  go_wp2
  go_ret
  exact ⟨T', rfl, hP2, hP3, hP4⟩

set_option maxHeartbeats 1000000 in
set_option maxRecDepth 100000 in
theorem rot3_any {T : Nat → Prop} (D : DiskA) (d l b1 b3 n : Nat) (n0 s wt mo s3 w3 : Value) (w : World) (hD : DiskAt T w d D) (h1 : w.heap[b1]? = some (.cells #[.pointer (some ⟨l, 0, none⟩)] 27 (0, 0))) (hl : w.heap[l]? = some (.cells #[n0, s, wt, .pointer (some ⟨d, 0, none⟩), mo] 108 (0, 0)))
    (h3 : w.heap[b3]? = some (.cells #[.int .i64 (n : Int), s3, w3] 106 (0, 0)))
    (n1 : ¬ T b1) (n2 : ¬ T l) (n3 : ¬ T b3) (hn1 : 1 ≤ n) (hn : n < 100) (hp0 : 0 ≤ D.plan) (hp1 : D.plan ≤ 4611686018427387904) (hfl : D.files.length < 1048576) :
    Calls Tryz.prog 126 #[.pointer (some ⟨b1, 0, none⟩), .pointer (some ⟨b3, 0, none⟩)] w (DiskPost T w d (doA D .create (nameB n))) := by
  obtain ⟨c0, c1, c2, c3, c4⟩ := cells5 hl
  have e1 := cell1 h1
  have e3 := (cells3 h3).1
  have hl1 := (Array.getElem?_eq_some_iff.1 h1).1
  have hll := (Array.getElem?_eq_some_iff.1 hl).1
  have hl3 := (Array.getElem?_eq_some_iff.1 h3).1
  have hSS : ∀ W, Below w.heap.size w W → (W.cell? ⟨b1, 0, none⟩ = some (.pointer (some ⟨l, 0, none⟩)) ∧ W.cell? ⟨l, 3, none⟩ = some (.pointer (some ⟨d, 0, none⟩)) ∧ W.cell? ⟨b3, 0, none⟩ = some (.int .i64 (n : Int))) := fun W hW => ⟨(hW.cell (p := ⟨b1, 0, none⟩) hl1).trans e1, (hW.cell (p := ⟨l, 3, none⟩) hll).trans c3, (hW.cell (p := ⟨b3, 0, none⟩) hl3).trans e3⟩
  have hSF : ∀ W, Fr T w W → (W.cell? ⟨b1, 0, none⟩ = some (.pointer (some ⟨l, 0, none⟩)) ∧ W.cell? ⟨l, 3, none⟩ = some (.pointer (some ⟨d, 0, none⟩)) ∧ W.cell? ⟨b3, 0, none⟩ = some (.int .i64 (n : Int))) := fun W hW => by
    have a1 := (hW.block b1 hl1 n1).trans h1
    have a2 := (hW.block l hll n2).trans hl
    have a3 := (hW.block b3 hl3 n3).trans h3
    exact ⟨cell1 a1, (cells5 a2).2.2.2.1, (cells3 a3).1⟩
  have hS0 := hSS w.drew (Below.refl _ _).drew
  have hsy := fun W (hW : Below w.heap.size w W) => create_any D d W (hD.below hW) (nameB n) (by rw [nameB_length]; omega) hp0 hp1 hfl
  have hnm := fun W (hW : W.cell? ⟨b3, 0, none⟩ = some (.int .i64 (n : Int))) => walname_any b3 n W hW hn1 hn
  generalize nameB n = nb at *
  generalize doA D .create nb = R at *
  go_enter Tryz.func126, Tryz.ntmps126
  go_wp2_with fail
  go_region_held3 (fun W => W.cell? ⟨b1, 0, none⟩ = some (.pointer (some ⟨l, 0, none⟩)) ∧ W.cell? ⟨l, 3, none⟩ = some (.pointer (some ⟨d, 0, none⟩)) ∧ W.cell? ⟨b3, 0, none⟩ = some (.int .i64 (n : Int))) (first | assumption)
    (first
      | (go_at_call 65; refine (hnm _ hS0.2.2).mono ?_; rintro e W1 ⟨rfl, hb⟩; have hB1 : Below w.heap.size w W1 := (Below.refl _ _).drew.trans hb; have hS1 := hSS W1 hB1)
      | (go_at_call 36; refine (hsy _ hB1).mono ?_; intro e W2 hP; replace hP := hP.trans (Fr.of_below hB1); obtain ⟨T', rfl, hP2, hP3, hP4⟩ := hP; have hS2 := hSF W2 hP3))
  go_wp2
  go_ret
  exact ⟨T', rfl, hP2, hP3, hP4⟩

theorem rot1_any (b3 n : Nat) (s3 w3 : Value) (w : World) (h3 : w.heap[b3]? = some (.cells #[.int .i64 (n : Int), s3, w3] 106 (0, 0))) (hn1 : 1 ≤ n) (hn : n < 100) :
    Calls Tryz.prog 124 #[.pointer (some ⟨b3, 0, none⟩)] w fun e w' => e = .returned (.int .i64 0) ∧ Below w.heap.size w w' := by
  have hc := walname_any b3 n w (cells3 h3).1 hn1 hn
  have hne : (nameB n == []) = false := by rw [beq_eq_false_iff_ne]; intro h; have := nameB_length n; rw [h] at this; cases this
  generalize nameB n = nb at *
  go_enter Tryz.func124, Tryz.ntmps124
  go_wp2_with (go_at_call 65; refine hc.mono ?_; rintro e w1 ⟨rfl, hb⟩)
  go_ret
  exact ⟨rfl, hb⟩

theorem size106 : (Tryz.prog.info? 106).map (·.size) = some 3 := by kernel_rfl

theorem rot4_any (l b1 b3 n : Nat) (a0 a1 a2 a3 a4 : Value) (w : World) (h1 : w.heap[b1]? = some (.cells #[.pointer (some ⟨l, 0, none⟩)] 27 (0, 0))) (hl : w.heap[l]? = some (.cells #[a0, a1, a2, a3, a4] 108 (0, 0)))
    (h3 : w.heap[b3]? = some (.cells #[.int .i64 (n : Int), .int .i64 0, .int .i64 0] 106 (0, 0))) :
    Calls Tryz.prog 127 #[.pointer (some ⟨b3, 0, none⟩), .pointer (some ⟨b1, 0, none⟩)] w fun e w' => e = .returned (.int .i64 0) ∧ w'.heap[l]? = some (.cells #[.int .i64 (n : Int), .int .i64 0, .int .i64 0, a3, a4] 108 (0, 0)) ∧ Fr (fun k => k = l) w w' := by
  have e1 := cell1 h1
  obtain ⟨x0, x1, x2⟩ := cells3 h3
  go_enter Tryz.func127, Tryz.ntmps127
  go_wp2_with ((with_reducible refine at_sto ?_); refine wpList_store_in rfl (ty := 106) (x := .tmp 6) (y := .tmp 4) rfl l 0 108 (.agg #[.int .i64 (n : Int), .int .i64 0, .int .i64 0]) [a0, a1, a2, a3, a4] rfl rfl hl (by simp [Value.cells]) size106 (by intro u hu; simp [Value.cells] at hu; rcases hu with rfl | rfl | rfl <;> rfl) ?_; intro W hV1 hV2 hV3)
  go_ret
  exact ⟨rfl, hV1, hV2⟩

end Go.Proofs.YtepceidajmedeaaGreatDoor

namespace Go.Proofs.YtepceidajmedeaaGreatDoor
open Go.RowKit CW

def logC (L : LogA) (d : Nat) : Array Value := #[.int .i64 (L.n : Int), .int .i64 (L.size : Int), .int .i64 (L.waiting : Int), .pointer (some ⟨d, 0, none⟩), .int .i64 L.most]

/-- How a log lies in memory. -/
def LogAt (S : Nat → Prop) (w : World) (l d : Nat) (L : LogA) : Prop :=
  ∃ T, w.heap[l]? = some (.cells (logC L d) 108 (0, 0)) ∧ DiskAt T w d L.D ∧ ¬ T l ∧ S l ∧ (∀ k, T k → S k) ∧ ∀ k, S k → k < w.heap.size

theorem DiskAt.lt {S : Nat → Prop} {w : World} {d : Nat} {D : DiskA} (h : DiskAt S w d D) : ∀ k, S k → k < w.heap.size := by obtain ⟨mb, qs, h⟩ := h; exact h.lt

theorem LogAt.fr {S F : Nat → Prop} {w w' : World} {l d : Nat} {L : LogA} (h : LogAt S w l d L) (hf : Fr F w w') (hF : ∀ k, S k → ¬ F k) : LogAt S w' l d L := by
  obtain ⟨T, h1, h2, h3, h4, h5, h6⟩ := h
  exact ⟨T, (hf.block l (h6 l h4) (hF l h4)).trans h1, h2.fr hf (fun k hk => hF k (h5 k hk)), h3, h4, h5, fun k hk => Nat.lt_of_lt_of_le (h6 k hk) hf.size⟩
theorem LogAt.below {S : Nat → Prop} {w w' : World} {l d : Nat} {L : LogA} (h : LogAt S w l d L) (hf : Below w.heap.size w w') : LogAt S w' l d L := h.fr (F := fun _ => False) (Fr.of_below hf) (fun _ _ h => h)

/-- A change's result: the log behind it, its code. -/
def LogPost (S : Nat → Prop) (w : World) (l d : Nat) (R : LogA × Int) (c : Int) (w' : World) : Prop :=
  ∃ S' : Nat → Prop, c = R.2 ∧ LogAt S' w' l d R.1 ∧ Fr S w w' ∧ ∀ k, k < w.heap.size → S' k → S k

/-- Rotate, on its way: w is the world of the call, W0 that behind its own blocks. -/
structure RotAt (S : Nat → Prop) (w W0 : World) (l d : Nat) (cs : Array Value) (D : DiskA) (W : World) : Prop where
  ex : ∃ T, DiskAt T W d D ∧ (∀ k, k < W0.heap.size → T k → S k) ∧ ¬ T l
  log : W.heap[l]? = some (.cells cs 108 (0, 0))
  box : ∀ k, w.heap.size ≤ k → k < W0.heap.size → W.heap[k]? = W0.heap[k]?
  fr : Fr S w W
  size : W0.heap.size ≤ W.heap.size
  le : w.heap.size ≤ W0.heap.size

theorem RotAt.below {S : Nat → Prop} {w W0 W W' : World} {l d : Nat} {cs : Array Value} {D : DiskA} (h : RotAt S w W0 l d cs D W) (hB : Below W.heap.size W W') : RotAt S w W0 l d cs D W' := by
  obtain ⟨T, h1, h2, h3⟩ := h.ex
  exact ⟨⟨T, h1.below hB, h2, h3⟩, (hB.block _ (Array.getElem?_eq_some_iff.1 h.log).1).trans h.log, fun k hk hk2 => (hB.block k (Nat.lt_of_lt_of_le hk2 h.size)).trans (h.box k hk hk2),
    h.fr.trans (Fr.of_below hB (F := fun _ => False)) (fun _ _ h => h.elim), Nat.le_trans h.size hB.size, h.le⟩

theorem RotAt.disk {S T : Nat → Prop} {w W0 W W' : World} {l d : Nat} {cs : Array Value} {D : DiskA} {R : DiskA × Int} {e : Ending} (h : RotAt S w W0 l d cs D W) (h2 : ∀ k, k < W0.heap.size → T k → S k) (h3 : ¬ T l) (hS : ∀ k, S k → k < w.heap.size) (hP : DiskPost T W d R e W') : RotAt S w W0 l d cs R.1 W' := by
  obtain ⟨T', _, hP2, hP3, hP4⟩ := hP
  have hll := (Array.getElem?_eq_some_iff.1 h.log).1
  refine ⟨⟨T', hP2, fun k hk ht => h2 k hk (hP4 k (Nat.lt_of_lt_of_le hk h.size) ht), fun ht => h3 (hP4 l hll ht)⟩, (hP3.block l hll h3).trans h.log, fun k hk hk2 => ?_, ?_, Nat.le_trans h.size hP3.size, h.le⟩
  · refine (hP3.block k (Nat.lt_of_lt_of_le hk2 h.size) (fun ht => ?_)).trans (h.box k hk hk2)
    have := hS k (h2 k hk2 ht)
    omega
  · refine ⟨hP3.os.trans h.fr.os, hP3.tape.trans h.fr.tape, hP3.output.trans h.fr.output, Nat.le_trans h.fr.size hP3.size, fun k hk hn => ?_⟩
    by_cases ht : T k
    · by_cases hk0 : k < W0.heap.size
      · exact absurd (h2 k hk0 ht) hn
      · have := h.le
        omega
    · exact (hP3.block k (Nat.lt_of_lt_of_le hk h.fr.size) ht).trans (h.fr.block k hk hn)

theorem RotAt.post {S : Nat → Prop} {w W0 W : World} {l d : Nat} {L : LogA} {R : LogA × Int} {c : Int} (h : RotAt S w W0 l d (logC L d) L.D W) (hSl : S l) (hS : ∀ k, S k → k < w.heap.size) (hR : R = (L, c)) : LogPost S w l d R c W := by
  obtain ⟨T, h1, h2, h3⟩ := h.ex
  subst hR
  refine ⟨fun k => S k ∨ T k, rfl, ⟨T, h.log, h1, h3, .inl hSl, fun k hk => .inr hk, fun k hk => ?_⟩, h.fr, fun k hk hs => ?_⟩
  · rcases hk with hk | hk
    · exact Nat.lt_of_lt_of_le (hS k hk) h.fr.size
    · exact h1.lt k hk
  · rcases hs with hs | hs
    · exact hs
    · exact h2 k (Nat.lt_of_lt_of_le hk h.le) hs

theorem rottry_any {S T : Nat → Prop} (L : LogA) (l d : Nat) (w W0 : World) (hlog : w.heap[l]? = some (.cells (logC L d) 108 (0, 0))) (hD : DiskAt T w d L.D) (hTl : ¬ T l) (hSl : S l) (hTS : ∀ k, T k → S k) (hSlt : ∀ k, S k → k < w.heap.size)
    (hB : Below w.heap.size w W0) (hz : W0.heap.size = w.heap.size + 1 + 1 + 1)
    (g0 : W0.heap[w.heap.size]? = some (.cells #[.pointer (some ⟨l, 0, none⟩)] 27 (0, 0))) (g1 : W0.heap[w.heap.size + 1]? = some (.cells #[.int .i64 ((L.n + 1 : Nat) : Int), .int .i64 0, .int .i64 0] 106 (0, 0)))
    (g2 : W0.heap[w.heap.size + 1 + 1]? = some (.cells #[.func (.func 124) #[] #[.pointer (some ⟨w.heap.size + 1, 0, none⟩)], .func (.func 125) #[] #[.pointer (some ⟨w.heap.size, 0, none⟩)], .func (.func 126) #[] #[.pointer (some ⟨w.heap.size, 0, none⟩), .pointer (some ⟨w.heap.size + 1, 0, none⟩)], .func (.func 127) #[] #[.pointer (some ⟨w.heap.size + 1, 0, none⟩), .pointer (some ⟨w.heap.size, 0, none⟩)]] 170 (0, 0)))
    (hn1 : 1 ≤ L.n) (hn : L.n + 1 < 100) (hp0 : 0 ≤ L.D.plan) (hp1 : L.D.plan ≤ 4611686018427387904)
    (hq0 : 0 ≤ (doA L.D .sync (nameB L.n)).1.plan) (hq1 : (doA L.D .sync (nameB L.n)).1.plan ≤ 4611686018427387904) (hqf : (doA L.D .sync (nameB L.n)).1.files.length < 1048576) :
    Calls Tryz.prog 123 #[.slice (some ⟨w.heap.size + 1 + 1, 0, none⟩) 4 4] W0 fun e w' => ∃ c, e = .returned (.int .i64 c) ∧ LogPost S w l d (rotA L) c w' := by
  have hll := (Array.getElem?_eq_some_iff.1 hlog).1
  obtain ⟨R1, hR1⟩ : ∃ R1, doA L.D .sync (nameB L.n) = R1 := ⟨_, rfl⟩
  rw [hR1] at hq0 hq1 hqf
  obtain ⟨R2, hR2⟩ : ∃ R2, doA R1.1 .create (nameB (L.n + 1)) = R2 := ⟨_, rfl⟩
  have bx1 : ∀ {cs D W}, RotAt S w W0 l d cs D W → W.heap[w.heap.size]? = some (.cells #[.pointer (some ⟨l, 0, none⟩)] 27 (0, 0)) := fun h => (h.box _ (Nat.le_refl _) (by omega)).trans g0
  have bx3 : ∀ {cs D W}, RotAt S w W0 l d cs D W → W.heap[w.heap.size + 1]? = some (.cells #[.int .i64 ((L.n + 1 : Nat) : Int), .int .i64 0, .int .i64 0] 106 (0, 0)) := fun h => (h.box _ (by omega) (by omega)).trans g1
  have bx2 : ∀ {cs D W}, RotAt S w W0 l d cs D W → Row (fun _ => False) W (.slice (some ⟨w.heap.size + 1 + 1, 0, none⟩) 4 4) 4 ([(124, #[Value.pointer (some ⟨w.heap.size + 1, 0, none⟩)]), (125, #[Value.pointer (some ⟨w.heap.size, 0, none⟩)]), (126, #[Value.pointer (some ⟨w.heap.size, 0, none⟩), Value.pointer (some ⟨w.heap.size + 1, 0, none⟩)]), (127, #[Value.pointer (some ⟨w.heap.size + 1, 0, none⟩), Value.pointer (some ⟨w.heap.size, 0, none⟩)])].map stepV) := fun {cs D W} h =>
    .inr ⟨_, 0, 4, rfl, Nat.le_refl _, by omega, by have := h.size; omega, fun h => h, fun j u hu => by
      have hx := (h.box (w.heap.size + 1 + 1) (by omega) (by omega)).trans g2
      rw [Nat.zero_add, Go.cell_of_row _ _ j _ _ _ hx, ← hu, List.getElem?_toArray]
      rfl⟩
  have nb : ∀ {T' : Nat → Prop}, (∀ k, k < W0.heap.size → T' k → S k) → ∀ k, w.heap.size ≤ k → k < W0.heap.size → ¬ T' k := fun h k h1 h2 ht => by have := hSlt k (h k h2 ht); omega
  refine try_any [(124, #[.pointer (some ⟨w.heap.size + 1, 0, none⟩)]), (125, #[.pointer (some ⟨w.heap.size, 0, none⟩)]), (126, #[.pointer (some ⟨w.heap.size, 0, none⟩), .pointer (some ⟨w.heap.size + 1, 0, none⟩)]), (127, #[.pointer (some ⟨w.heap.size + 1, 0, none⟩), .pointer (some ⟨w.heap.size, 0, none⟩)])] _ W0
    (fun k W => match k with
      | 0 => RotAt S w W0 l d (logC L d) L.D W
      | 1 => RotAt S w W0 l d (logC L d) L.D W
      | 2 => R1.2 = 0 ∧ RotAt S w W0 l d (logC L d) R1.1 W
      | 3 => R1.2 = 0 ∧ R2.2 = 0 ∧ RotAt S w W0 l d (logC L d) R2.1 W
      | _ => R1.2 = 0 ∧ R2.2 = 0 ∧ RotAt S w W0 l d (logC ⟨R2.1, L.most, L.n + 1, 0, 0⟩ d) R2.1 W)
    (fun c W => LogPost S w l d (rotA L) c W) ?_ ?_ ?_ ?_ ?_ ?_
  · intro k W h
    match k, h with
    | 0, h => exact bx2 h
    | 1, h => exact bx2 h
    | 2, h => exact bx2 h.2
    | 3, h => exact bx2 h.2.2
    | _ + 4, h => exact bx2 h.2.2
  · intro k W W' h hb
    match k, h with
    | 0, h => exact RotAt.below h hb
    | 1, h => exact RotAt.below h hb
    | 2, h => exact ⟨h.1, RotAt.below h.2 hb⟩
    | 3, h => exact ⟨h.1, h.2.1, RotAt.below h.2.2 hb⟩
    | _ + 4, h => exact ⟨h.1, h.2.1, RotAt.below h.2.2 hb⟩
  · intro p hp
    simp only [List.mem_cons, List.not_mem_nil, or_false] at hp
    rcases hp with rfl | rfl | rfl | rfl
    · exact Go.Proofs.enters_of Tryz.func124 (by kernel_rfl) rfl
    · exact Go.Proofs.enters_of Tryz.func125 (by kernel_rfl) rfl
    · exact Go.Proofs.enters_of Tryz.func126 (by kernel_rfl) rfl
    · exact Go.Proofs.enters_of Tryz.func127 (by kernel_rfl) rfl
  · intro k hk W h
    match k, hk, h with
    | 0, _, h =>
      refine (rot1_any (w.heap.size + 1) (L.n + 1) _ _ W (bx3 h) (by omega) hn).mono ?_
      rintro e W' ⟨rfl, hb⟩
      exact ⟨0, rfl, fun h => absurd rfl h, fun _ => RotAt.below h hb⟩
    | 1, _, h =>
      obtain ⟨T', h1, h2, h3⟩ := RotAt.ex h
      refine (rot2_any L.D d l w.heap.size L.n _ _ _ W h1 (bx1 h) h.log (nb h2 _ (Nat.le_refl _) (by omega)) h3 hn1 (by omega) hp0 hp1).mono ?_
      intro e W' hP
      rw [hR1] at hP
      have hR := RotAt.disk h h2 h3 hSlt hP
      obtain ⟨T'', rfl, _⟩ := hP
      refine ⟨_, rfl, fun hc => ?_, fun hc => ⟨hc, hR⟩⟩
      have hlg : RotAt S w W0 l d (logC { L with D := R1.1 } d) { L with D := R1.1 }.D W' := hR
      exact hlg.post hSl hSlt (by unfold rotA; rw [hR1]; simp only; rw [if_pos hc])
    | 2, _, h =>
      obtain ⟨hc1, h⟩ := h
      obtain ⟨T', h1, h2, h3⟩ := RotAt.ex h
      refine (rot3_any R1.1 d l w.heap.size (w.heap.size + 1) (L.n + 1) _ _ _ _ _ _ W h1 (bx1 h) h.log (bx3 h) (nb h2 _ (Nat.le_refl _) (by omega)) h3 (nb h2 _ (by omega) (by omega)) (by omega) hn hq0 hq1 hqf).mono ?_
      intro e W' hP
      rw [hR2] at hP
      have hR := RotAt.disk h h2 h3 hSlt hP
      obtain ⟨T'', rfl, _⟩ := hP
      refine ⟨_, rfl, fun hc => ?_, fun hc => ⟨hc1, hc, hR⟩⟩
      have hlg : RotAt S w W0 l d (logC { L with D := R2.1 } d) { L with D := R2.1 }.D W' := hR
      exact hlg.post hSl hSlt (by unfold rotA; rw [hR1]; simp only; rw [if_neg (by rw [hc1]; decide), hR2, if_pos hc])
    | 3, _, h =>
      obtain ⟨hc1, hc2, h⟩ := h
      refine (rot4_any l w.heap.size (w.heap.size + 1) (L.n + 1) _ _ _ _ _ W (bx1 h) h.log (bx3 h)).mono ?_
      rintro e W' ⟨rfl, hlg, hf⟩
      refine ⟨0, rfl, fun h => absurd rfl h, fun _ => ⟨hc1, hc2, ?_⟩⟩
      obtain ⟨T', h1, h2, h3⟩ := RotAt.ex h
      exact ⟨⟨T', h1.fr hf (fun k hk e => h3 (by rw [← e]; exact hk)), h2, h3⟩, hlg, fun k hk hk2 => (hf.block k (Nat.lt_of_lt_of_le hk2 h.size) (fun e => by have := hSlt l hSl; omega)).trans (h.box k hk hk2),
        h.fr.trans hf (fun k _ e => by rw [e]; exact hSl), Nat.le_trans h.size hf.size, h.le⟩
  · intro W h
    obtain ⟨hc1, hc2, h⟩ := h
    refine RotAt.post h hSl hSlt ?_
    unfold rotA
    rw [hR1]
    simp only
    rw [if_neg (by rw [hc1]; decide), hR2, if_neg (by rw [hc2]; decide)]
  · exact ⟨⟨T, hD.below hB, fun k _ ht => hTS k ht, hTl⟩, (hB.block l hll).trans hlog, fun k _ _ => rfl, Fr.of_below hB, Nat.le_refl _, hB.size⟩

set_option maxHeartbeats 1000000 in
set_option maxRecDepth 100000 in
theorem rotate_any {S : Nat → Prop} (L : LogA) (l d : Nat) (w : World) (h : LogAt S w l d L) (hn1 : 1 ≤ L.n) (hn : L.n + 1 < 100) (hp0 : 0 ≤ L.D.plan) (hp1 : L.D.plan ≤ 4611686018427387904) (hfl : L.D.files.length < 1048576)
    (hq0 : 0 ≤ (doA L.D .sync (nameB L.n)).1.plan) (hq1 : (doA L.D .sync (nameB L.n)).1.plan ≤ 4611686018427387904) (hqf : (doA L.D .sync (nameB L.n)).1.files.length < 1048576) :
    Calls Tryz.prog 63 #[.pointer (some ⟨l, 0, none⟩)] w fun e w' => ∃ c, e = .returned (.int .i64 c) ∧ LogPost S w l d (rotA L) c w' := by
  obtain ⟨T, hlog, hD, hTl, hSl, hTS, hSlt⟩ := h
  have HLOG : Hid (w.heap[l]? = some (.cells (logC L d) 108 (0, 0))) := hlog
  obtain ⟨y0, y1, y2, y3, y4⟩ := cells5 hlog
  clear hlog
  have g0 := heap3_0 w (.cells #[.pointer (some ⟨l, 0, none⟩)] 27) (.cells #[.int .i64 ((L.n : Int) + 1), .int .i64 0, .int .i64 0] 106) (.cells #[.func (.func 124) #[] #[.pointer (some ⟨w.heap.size + 1, 0, none⟩)], .func (.func 125) #[] #[.pointer (some ⟨w.heap.size, 0, none⟩)], .func (.func 126) #[] #[.pointer (some ⟨w.heap.size, 0, none⟩), .pointer (some ⟨w.heap.size + 1, 0, none⟩)], .func (.func 127) #[] #[.pointer (some ⟨w.heap.size + 1, 0, none⟩), .pointer (some ⟨w.heap.size, 0, none⟩)]] 170)
  have g1 := heap3_1 w (.cells #[.pointer (some ⟨l, 0, none⟩)] 27) (.cells #[.int .i64 ((L.n : Int) + 1), .int .i64 0, .int .i64 0] 106) (.cells #[.func (.func 124) #[] #[.pointer (some ⟨w.heap.size + 1, 0, none⟩)], .func (.func 125) #[] #[.pointer (some ⟨w.heap.size, 0, none⟩)], .func (.func 126) #[] #[.pointer (some ⟨w.heap.size, 0, none⟩), .pointer (some ⟨w.heap.size + 1, 0, none⟩)], .func (.func 127) #[] #[.pointer (some ⟨w.heap.size + 1, 0, none⟩), .pointer (some ⟨w.heap.size, 0, none⟩)]] 170)
  have g2 := heap3_2 w (.cells #[.pointer (some ⟨l, 0, none⟩)] 27) (.cells #[.int .i64 ((L.n : Int) + 1), .int .i64 0, .int .i64 0] 106) (.cells #[.func (.func 124) #[] #[.pointer (some ⟨w.heap.size + 1, 0, none⟩)], .func (.func 125) #[] #[.pointer (some ⟨w.heap.size, 0, none⟩)], .func (.func 126) #[] #[.pointer (some ⟨w.heap.size, 0, none⟩), .pointer (some ⟨w.heap.size + 1, 0, none⟩)], .func (.func 127) #[] #[.pointer (some ⟨w.heap.size + 1, 0, none⟩), .pointer (some ⟨w.heap.size, 0, none⟩)]] 170)
  have hB := below3 w (.cells #[.pointer (some ⟨l, 0, none⟩)] 27) (.cells #[.int .i64 ((L.n : Int) + 1), .int .i64 0, .int .i64 0] 106) (.cells #[.func (.func 124) #[] #[.pointer (some ⟨w.heap.size + 1, 0, none⟩)], .func (.func 125) #[] #[.pointer (some ⟨w.heap.size, 0, none⟩)], .func (.func 126) #[] #[.pointer (some ⟨w.heap.size, 0, none⟩), .pointer (some ⟨w.heap.size + 1, 0, none⟩)], .func (.func 127) #[] #[.pointer (some ⟨w.heap.size + 1, 0, none⟩), .pointer (some ⟨w.heap.size, 0, none⟩)]] 170)
  have hz := size3 w (.cells #[.pointer (some ⟨l, 0, none⟩)] 27) (.cells #[.int .i64 ((L.n : Int) + 1), .int .i64 0, .int .i64 0] 106) (.cells #[.func (.func 124) #[] #[.pointer (some ⟨w.heap.size + 1, 0, none⟩)], .func (.func 125) #[] #[.pointer (some ⟨w.heap.size, 0, none⟩)], .func (.func 126) #[] #[.pointer (some ⟨w.heap.size, 0, none⟩), .pointer (some ⟨w.heap.size + 1, 0, none⟩)], .func (.func 127) #[] #[.pointer (some ⟨w.heap.size + 1, 0, none⟩), .pointer (some ⟨w.heap.size, 0, none⟩)]] 170)
  have HQ : Hid (0 ≤ (doA L.D .sync (nameB L.n)).1.plan ∧ (doA L.D .sync (nameB L.n)).1.plan ≤ 4611686018427387904 ∧ (doA L.D .sync (nameB L.n)).1.files.length < 1048576) := ⟨hq0, hq1, hqf⟩
  clear hq0 hq1 hqf
  obtain ⟨R, hR⟩ : ∃ R : Int → World → Prop, R = fun c w' => LogPost S w l d (rotA L) c w' := ⟨_, rfl⟩
  have HR : Hid (R = fun c w' => LogPost S w l d (rotA L) c w') := hR
  show Calls _ _ _ _ (fun e w' => ∃ c, e = .returned (.int .i64 c) ∧ (fun c w' => LogPost S w l d (rotA L) c w') c w')
  rw [← hR]
  clear hR
  have hll := hSlt l hSl
  have yA : ∀ C, (w.alloc C).cell? ⟨l, 0, none⟩ = some (.int .i64 (L.n : Int)) := fun C => ((boxF w C).1.cell (p := ⟨l, 0, none⟩) hll).trans y0
  clear y0 y1 y2 y3 y4
  have hdn1 : (L.n : Int) + 1 ≤ 9223372036854775807 := by omega
  go_enter Tryz.func63, Tryz.ntmps63
  go_wp2_with fail
  generalize (((w.alloc _).alloc _).alloc _) = W0 at *
  refine (rottry_any L l d w W0 HLOG.out hD hTl hSl hTS hSlt hB hz g0 g1 g2 hn1 hn hp0 hp1 HQ.out.1 HQ.out.2.1 HQ.out.2.2).mono ?_
  rintro e W' ⟨c, rfl, hP⟩
  have hP' : Hid (R c W') := by show R c W'; rw [HR.out]; exact hP
  clear hP
  go_wp2
  go_ret
  exact ⟨c, rfl, hP'.out⟩

end Go.Proofs.YtepceidajmedeaaGreatDoor

namespace Go.Proofs.YtepceidajmedeaaGreatDoor
open Go.RowKit CW

theorem i64_or_nat (a b : Nat) (ha : a < 9223372036854775808) (hb : b < 9223372036854775808) : bits .or .i64 (a : Int) (b : Int) = ((a ||| b : Nat) : Int) := by
  have hx : a ||| b < 2 ^ 63 := Nat.or_lt_two_pow (by omega) (by omega)
  show IntKind.i64.wrap ((BitVec.ofInt 64 (a : Int) ||| BitVec.ofInt 64 (b : Int)).toNat : Int) = _
  rw [BitVec.toNat_or, ofInt_u64 a (by omega), ofInt_u64 b (by omega), IntKind.wrap_i64]
  omega

theorem i64_or_join (x y i : Nat) (hx : x < 2 ^ i) (hi : i ≤ 32) (hy : y < 256) : bits .or .i64 (x : Int) ((y * 2 ^ i : Nat) : Int) = ((x + y * 2 ^ i : Nat) : Int) := by
  have h1 : 2 ^ i ≤ 2 ^ 32 := Nat.pow_le_pow_right (by decide) hi
  have h2 : y * 2 ^ i ≤ 255 * 2 ^ 32 := Nat.mul_le_mul (by omega) h1
  rw [i64_or_nat _ _ (by omega) (by omega), Nat.or_comm, nat_join i _ _ (Nat.mul_mod_left _ _) hx, Nat.add_comm]

theorem little_f (n : Nat) (w : World) (hn : n ≤ 1048576) :
    Calls Tryz.prog 120 #[.int .i64 n] w fun e w' => e = .returned (.agg ((le4 n).map encB).toArray) ∧ Below w.heap.size w w' := by
  have h0 : (0 : Int) ≤ (n : Int) := by omega
  have h1 : (n : Int) ≤ 1048576 := by omega
  go_enter Tryz.func120, Tryz.ntmps120
  go_wp2
  have e1 : (n : Int) % 256 = ((n % 256 : Nat) : Int) := by omega
  have e2 : (n : Int) / 256 % 256 = ((n / 256 % 256 : Nat) : Int) := by omega
  have e3 : (n : Int) / 65536 = ((n / 65536 % 256 : Nat) : Int) := by omega
  have e4 : (n : Int) / 16777216 = ((n / 16777216 % 256 : Nat) : Int) := by omega
  rw [e1, e2, e3, e4]
  refine bodyPost_ret (v := .agg ((le4 n).map encB).toArray) ?_ rfl ⟨rfl, (Below.refl _ _).alloc (Nat.le_refl _) _⟩
  rw [results_cell_row (fr := (0, 0)) Tryz.results120 _ _ w.heap.size 165 _ _ rfl (heap_alloc_new w _) Tryz.underlying165 rfl (by kernel_rfl)]
  simp only [le4, List.map_cons, List.map_nil, encB_ofNat]

set_option maxRecDepth 100000 in
theorem number_f (a b c d : UInt8) (w : World) :
    Calls Tryz.prog 196 #[.agg #[encB a, encB b, encB c, encB d]] w fun e w' => e = .returned (.int .i64 (a.toNat + 256 * b.toNat + 65536 * c.toNat + 16777216 * d.toNat : Nat)) ∧ Below w.heap.size w w' := by
  unfold encB
  have ha := a.toNat_lt
  have hb := b.toNat_lt
  have hc := c.toNat_lt
  have hd := d.toNat_lt
  generalize a.toNat = a at *
  generalize b.toNat = b at *
  generalize c.toNat = c at *
  generalize d.toNat = d at *
  have i0 : ∀ w, (Instr.index 165 (.agg #[.int .u8 (a : Int), .int .u8 (b : Int), .int .u8 (c : Int), .int .u8 (d : Int)]) (.int .i64 0)).run Tryz.prog w = .ok (.int .u8 (a : Int)) w := fun _ => by kernel_rfl
  have i1 : ∀ w, (Instr.index 165 (.agg #[.int .u8 (a : Int), .int .u8 (b : Int), .int .u8 (c : Int), .int .u8 (d : Int)]) (.int .i64 1)).run Tryz.prog w = .ok (.int .u8 (b : Int)) w := fun _ => by kernel_rfl
  have i2 : ∀ w, (Instr.index 165 (.agg #[.int .u8 (a : Int), .int .u8 (b : Int), .int .u8 (c : Int), .int .u8 (d : Int)]) (.int .i64 2)).run Tryz.prog w = .ok (.int .u8 (c : Int)) w := fun _ => by kernel_rfl
  have i3 : ∀ w, (Instr.index 165 (.agg #[.int .u8 (a : Int), .int .u8 (b : Int), .int .u8 (c : Int), .int .u8 (d : Int)]) (.int .i64 3)).run Tryz.prog w = .ok (.int .u8 (d : Int)) w := fun _ => by kernel_rfl
  go_enter Tryz.func196, Tryz.ntmps196
  go_wp2
  refine wp_loop_rounds 5 ?_
  rw [rounds_succ]
  go_wp2
  rw [rounds_succ]
  go_wp2
  rw [rounds_succ]
  go_wp2
  rw [rounds_succ]
  go_wp2
  rw [rounds_succ]
  go_wp2
  have hab : a < 2 ^ 8 := ha
  have o1 : bits .or .i64 0 (a : Int) = (a : Int) := by
    have h := i64_or_nat 0 a (by decide) (by omega)
    rwa [Nat.zero_or] at h
  have o2 : bits .or .i64 (a : Int) ((b : Int) * 256) = ((a + b * 256 : Nat) : Int) := i64_or_join a b 8 (by omega) (by decide) (by omega)
  have o3 : bits .or .i64 ((a + b * 256 : Nat) : Int) ((c : Int) * 65536) = ((a + b * 256 + c * 65536 : Nat) : Int) := i64_or_join _ c 16 (by omega) (by decide) (by omega)
  have o4 : bits .or .i64 ((a + b * 256 + c * 65536 : Nat) : Int) ((d : Int) * 16777216) = ((a + b * 256 + c * 65536 + d * 16777216 : Nat) : Int) := i64_or_join _ d 24 (by omega) (by decide) (by omega)
  rw [o1, o2, o3, o4]
  go_ret
  exact ⟨ret_int (by omega), (Below.refl _ _).alloc (Nat.le_refl _) _⟩

set_option maxHeartbeats 400000 in
theorem make_any (v : Value) (r : Bytes) (w : World) (hv : SlB (fun _ => False) w v r) (hl : r.length ≤ 9223372036854775807) :
    Calls Tryz.prog 62 #[v] w fun e w' => ∃ v' ok, e = .returned (.tuple #[v', .bool ok]) ∧ Below w.heap.size w w' ∧
      (makeB r = none ∧ v' = .slice none 0 0 ∧ ok = false ∨ makeB r = some (frameB r) ∧ ok = true ∧ w'.ownsRow w.heap.size 5 1 v' (frameB r).length ((frameB r).map encB)) := by
  obtain ⟨a, cap, rfl, hn, hcap⟩ := hv.shape
  by_cases hlong : 1048576 < r.length
  · have hm : makeB r = none := by unfold makeB; rw [if_neg (by omega)]
    have hd : (1048576 : Int) < (r.length : Int) := by omega
    go_enter Tryz.func62, Tryz.ntmps62
    go_wp2
    go_ret2
    exact ⟨_, _, rfl, Below.refl _ _, .inl ⟨hm, rfl, rfl⟩⟩
  · have hm : makeB r = some (frameB r) := by unfold makeB; rw [if_pos (by omega)]
    have hd : ¬ (1048576 : Int) < (r.length : Int) := by omega
    have hd' : r.length ≤ 1048576 := by omega
    clear hlong
    go_enter Tryz.func62, Tryz.ntmps62
    go_wp2_with (first
      | (go_at_call 120; refine (little_f _ _ hd').mono ?_; rintro e w1 ⟨rfl, hb1⟩)
      | (refine wpList_store_whole rfl (ty := 165) (x := .tmp 4) (y := .tmp 10) rfl w1.heap.size 165 ((le4 r.length).map encB).toArray _ rfl rfl (heap_alloc_new w1 _) rfl (by kernel_rfl) (by simpa using bytes_one (le4 r.length)) ?_; rw [World.setRow_alloc_new]))
    have hb2 : Below w.heap.size w (w1.alloc (.cells ((le4 r.length).map encB).toArray 165)) := hb1.alloc hb1.size _
    have hs2 : SlB (fun _ => False) (w1.alloc (.cells ((le4 r.length).map encB).toArray 165)) (.slice (some ⟨w1.heap.size, 0, none⟩) 4 4) (le4 r.length) := SlB.any (Row.lit (size := 1) (Nat.le_refl _) (by decide) rfl rfl)
    have hbb := SlBB.lit2 (e := 30) (Nat.zero_le _) hs2 (hv.below hb2) (fun _ h => h.elim)
    rw [World.size_alloc] at hbb
    have hb3 : Below w.heap.size w ((w1.alloc (.cells ((le4 r.length).map encB).toArray 165)).alloc (.cells #[.slice (some ⟨w1.heap.size, 0, none⟩) 4 4, .slice a r.length cap] 30)) := hb2.alloc hb2.size _
    have hflen : (List.flatten [le4 r.length, r]).length ≤ 70368744177660 := by simp [le4]; omega
    have hflat : List.flatten [le4 r.length, r] = le4 r.length ++ r := by simp
    have HFR : Hid (frameB r = sealB (List.flatten [le4 r.length, r])) := by show frameB r = _; rw [hflat]; rfl
    have hcc := concat_any _ _ _ hbb (by omega)
    clear hflat hs2 hb2 hbb
    generalize List.flatten [le4 r.length, r] = F at hflen HFR hcc
    refine hcc.mono ?_
    rintro e w4 ⟨v4, rfl, ho4, hb4⟩
    have hs4 := SlB.any (SlB.of_owns ho4)
    have hb5 := hb3.trans (hb4.mono hb3.size)
    clear hb3 hb4 hcc
    go_wp2_with (first
      | (go_at_call 121; refine (seal_any _ _ _ hs4 hflen).mono ?_; rintro e w6 ⟨v6, rfl, ho6, hb6⟩; have hb7 := hb5.trans (hb6.mono hb5.size)))
    go_ret2
    refine ⟨_, _, rfl, hb7, .inr ⟨hm, rfl, ?_⟩⟩
    rw [HFR.out]
    exact owns_base ho6 hb5.size

theorem number_nat (a b c d : Nat) (ha : a < 256) (hb : b < 256) (hc : c < 256) (hd : d < 256) (w : World) :
    Calls Tryz.prog 196 #[.agg #[.int .u8 (a : Int), .int .u8 (b : Int), .int .u8 (c : Int), .int .u8 (d : Int)]] w fun e w' => e = .returned (.int .i64 (a + 256 * b + 65536 * c + 16777216 * d : Nat)) ∧ Below w.heap.size w w' := by
  have h := number_f (UInt8.ofNat a) (UInt8.ofNat b) (UInt8.ofNat c) (UInt8.ofNat d) w
  simp only [encB_ofNat, UInt8.toNat_ofNat'] at h
  rw [Nat.mod_eq_of_lt (a := a) (b := 256) ha, Nat.mod_eq_of_lt (a := b) (b := 256) hb, Nat.mod_eq_of_lt (a := c) (b := 256) hc, Nat.mod_eq_of_lt (a := d) (b := 256) hd] at h
  exact h

set_option maxHeartbeats 400000 in
set_option maxRecDepth 100000 in
theorem next_any (v : Value) (bs : Bytes) (w : World) (hv : SlB (fun _ => False) w v bs) (hl : bs.length ≤ 70368744177660) :
    Calls Tryz.prog 165 #[v] w fun e w' => ∃ v' n, e = .returned (.tuple #[v', .int .i64 (n : Nat)]) ∧ Below w.heap.size w w' ∧
      (nextB bs = none ∧ v' = .slice none 0 0 ∧ n = 0 ∨ ∃ x, nextB bs = some (x, n) ∧ SlB (fun k => k < w.heap.size) w' v' x) := by
  obtain ⟨a, cap, rfl, hn, hcap⟩ := hv.shape
  by_cases h8 : bs.length < 8
  · have hno : nextB bs = none := by unfold nextB; rw [if_pos h8]
    have hd : (bs.length : Int) < 8 := by omega
    go_enter Tryz.func165, Tryz.ntmps165
    go_wp2
    go_ret2
    exact ⟨_, 0, rfl, Below.refl _ _, .inl ⟨hno, rfl, rfl⟩⟩
  · obtain ⟨b, off, cap', h, _, _, hb, _, hcell⟩ := hv.open (by omega)
    cases h
    have c0 := hcell 0 (by omega)
    have c1 := hcell 1 (by omega)
    have c2 := hcell 2 (by omega)
    have c3 := hcell 3 (by omega)
    have hnum : num4 bs = bs[0].toNat + 256 * bs[1].toNat + 65536 * bs[2].toNat + 16777216 * bs[3].toNat := by
      unfold num4
      simp [List.getD, show 0 < bs.length by omega, show 1 < bs.length by omega, show 2 < bs.length by omega, show 3 < bs.length by omega]
    have l0 := bs[0].toNat_lt
    have l1 := bs[1].toNat_lt
    have l2 := bs[2].toNat_lt
    have l3 := bs[3].toNat_lt
    have HN : Hid (num4 bs = bs[0].toNat + 256 * bs[1].toNat + 65536 * bs[2].toNat + 16777216 * bs[3].toNat) := hnum
    generalize bs[0].toNat = b0 at *
    generalize bs[1].toNat = b1 at *
    generalize bs[2].toNat = b2 at *
    generalize bs[3].toNat = b3 at *
    rw [Nat.add_zero] at c0
    have hcn := number_nat b0 b1 b2 b3 (by omega) (by omega) (by omega) (by omega)
    rw [← hnum] at hcn
    clear hnum hcell
    have hat : ∀ W, (Instr.arrayAt 165 (.slice (some ⟨b, off, none⟩) bs.length cap)).run Tryz.prog W = .ok (.pointer (some ⟨b, off, none⟩)) W := fun W => by
      have h4 : ¬ bs.length < 4 := by omega
      simp [Instr.arrayAt, run_underlying Tryz.underlying165, h4]
    have hnb : nextB bs = if 1048576 < num4 bs ∨ bs.length < num4 bs + 8 then none else (openB (bs.take (num4 bs + 8))).map (fun x => (x.drop 4, num4 bs + 8)) := by
      rw [nextB, if_neg h8]
    have HX : Hid (nextB bs = if 1048576 < num4 bs ∨ bs.length < num4 bs + 8 then none else (openB (bs.take (num4 bs + 8))).map (fun x => (x.drop 4, num4 bs + 8))) := hnb
    clear hnb HN
    generalize num4 bs = N at hcn HX
    have hd : ¬ (bs.length : Int) < 8 := by omega
    have hN0 : (0 : Int) ≤ (N : Int) := by omega
    by_cases hA : 1048576 < N
    · have hA' : (1048576 : Int) < (N : Int) := by omega
      go_enter Tryz.func165, Tryz.ntmps165
      go_wp2_with (first
        | (go_at_call 196; refine (hcn _).mono ?_; rintro e w1 ⟨rfl, hb1⟩))
      go_ret2
      exact ⟨_, 0, rfl, hb1, .inl ⟨by rw [HX.out, if_pos (.inl hA)], rfl, rfl⟩⟩
    · have hA' : ¬ (1048576 : Int) < (N : Int) := by omega
      by_cases hB : bs.length < N + 8
      · have hB' : (bs.length : Int) < (N : Int) + 8 := by omega
        go_enter Tryz.func165, Tryz.ntmps165
        go_wp2_with (first
          | (go_at_call 196; refine (hcn _).mono ?_; rintro e w1 ⟨rfl, hb1⟩))
        go_ret2
        exact ⟨_, 0, rfl, hb1, .inl ⟨by rw [HX.out, if_pos (.inr hB)], rfl, rfl⟩⟩
      · have hB' : ¬ (bs.length : Int) < (N : Int) + 8 := by omega
        have HO : Hid (nextB bs = (openB (bs.take (N + 8))).map (fun x => (x.drop 4, N + 8))) := by
          show nextB bs = _
          rw [HX.out, if_neg (by omega)]
        have htk := hv.take (N + 8) (by omega)
        have hlk : (bs.take (N + 8)).length ≤ 70368744177660 := by rw [List.length_take]; omega
        have hlk' : (bs.take (N + 8)).length = N + 8 := by rw [List.length_take]; omega
        have HLK : Hid ((bs.take (N + 8)).length = N + 8) := hlk'
        have g1 : ((N + 8 : Nat) : Int) ≤ (cap : Int) := by omega
        have g2 : ((N : Int) + 8).toNat = N + 8 := by omega
        clear hlk' HX hA hB
        generalize bs.take (N + 8) = T at *
        go_enter Tryz.func165, Tryz.ntmps165
        go_wp2_with (first
          | (go_at_call 196; refine (hcn _).mono ?_; rintro e w1 ⟨rfl, hb1⟩)
          | (go_at_call 197; refine (open_any _ T _ (htk.below hb1) hlk).mono ?_; rintro e w2 ⟨v2, ok, rfl, hb2, hres⟩; have hb3 := hb1.trans (hb2.mono hb1.size); clear hb2; rcases hres with ⟨ho, rfl, rfl⟩ | ⟨x, ho, rfl, hs2⟩; all_goals (have HOO : Hid (openB T = _) := ho); all_goals (try (have hxl := openB_length ho; rw [HLK.out] at hxl; obtain ⟨b2, off2, cap2, rfl, hn2, hc2, _, _, _⟩ := hs2.open (by omega); have hx4 : ((4 : Nat) : Int) ≤ (x.length : Int) := by omega)); all_goals clear ho))
        · go_ret2
          exact ⟨_, 0, rfl, hb3, .inl ⟨by rw [HO.out, HOO.out]; rfl, rfl, rfl⟩⟩
        · obtain rfl : cap2 = 4 := by assumption
          go_ret2
          exact ⟨_, N + 8, rfl, hb3, .inr ⟨x.drop 4, by rw [HO.out, HOO.out]; rfl, (hs2.dropCap 4 (by omega) rfl).mono (fun k _ hk => Nat.lt_of_lt_of_le hk hb1.size)⟩⟩
        · go_ret2
          exact ⟨_, N + 8, rfl, hb3, .inr ⟨x.drop 4, by rw [HO.out, HOO.out]; rfl, (hs2.drop 4 (by omega)).mono (fun k _ hk => Nat.lt_of_lt_of_le hk hb1.size)⟩⟩

end Go.Proofs.YtepceidajmedeaaGreatDoor

namespace Go.Proofs.YtepceidajmedeaaGreatDoor
open Go.RowKit CW

theorem LogPost.trans {S S2 : Nat → Prop} {w WQ W : World} {l d : Nat} {R : LogA × Int} {c : Int} (h : LogPost S2 WQ l d R c W) (hf : Fr S w WQ) (hS : ∀ k, k < w.heap.size → S2 k → S k) : LogPost S w l d R c W := by
  obtain ⟨S', h1, h2, h3, h4⟩ := h
  exact ⟨S', h1, h2, hf.trans h3 (fun i hi hs => hS i hi hs), fun k hk hs => hS k hk (h4 k (Nat.lt_of_lt_of_le hk hf.size) hs)⟩

theorem frameB_length (x : Bytes) : (frameB x).length = x.length + 8 := by unfold frameB; rw [sealB_length, List.length_append, le4_length]; omega

theorem putA_empty (L : LogA) (x : Bytes) (h : x.length = 0) : putA L x = (L, 2) := by unfold putA; rw [if_pos h]
theorem putA_long (L : LogA) (x : Bytes) (h : ¬ x.length = 0) (hm : makeB x = none) : putA L x = (L, 4) := by unfold putA; rw [if_neg h, hm]
theorem putA_big (L : LogA) (x : Bytes) (h : ¬ x.length = 0) (hm : makeB x = some (frameB x)) (hb : L.most < ((frameB x).length : Int)) : putA L x = (L, 4) := by unfold putA; rw [if_neg h, hm]; simp only; rw [if_pos hb]
theorem putA_app (L : LogA) (x : Bytes) (h : ¬ x.length = 0) (hm : makeB x = some (frameB x)) (hb : ¬ L.most < ((frameB x).length : Int)) (hr : ¬ (0 < L.size ∧ L.most < (L.size : Int) + ((frameB x).length : Int))) : putA L x = appA L (frameB x) := by
  unfold putA; rw [if_neg h, hm]; simp only; rw [if_neg hb, if_neg hr]
theorem putA_rot (L : LogA) (x : Bytes) (h : ¬ x.length = 0) (hm : makeB x = some (frameB x)) (hb : ¬ L.most < ((frameB x).length : Int)) (hr : 0 < L.size ∧ L.most < (L.size : Int) + ((frameB x).length : Int)) : putA L x = if (rotA L).2 ≠ 0 then rotA L else appA (rotA L).1 (frameB x) := by
  unfold putA; rw [if_neg h, hm]; simp only; rw [if_neg hb, if_pos hr]

/-- What a log's own numbers must be for a Put. -/
structure OkL (L : LogA) : Prop where
  n1 : 1 ≤ L.n
  n2 : L.n < 100
  p0 : 0 ≤ L.D.plan
  p1 : L.D.plan ≤ 4611686018427387904
  files : L.D.files.length < 1048576
  used : usedF L.D.files ≤ 1099511627776
  size : L.size ≤ 1099511627776
  wait : L.waiting ≤ 1099511627776

set_option maxHeartbeats 4000000 in
set_option maxRecDepth 100000 in
theorem put_any {S : Nat → Prop} (L : LogA) (l d : Nat) (w : World) (hL : LogAt S w l d L) (v : Value) (x : Bytes) (hv : SlB (fun _ => False) w v x) (hx : x.length ≤ 1073741816) (ok1 : OkL L)
    (okr : 0 < L.size → L.n + 1 < 100 ∧ 0 ≤ (doA L.D .sync (nameB L.n)).1.plan ∧ (doA L.D .sync (nameB L.n)).1.plan ≤ 4611686018427387904 ∧ (doA L.D .sync (nameB L.n)).1.files.length < 1048576 ∧ OkL (rotA L).1) :
    Calls Tryz.prog 17 #[.pointer (some ⟨l, 0, none⟩), v] w fun e w' => ∃ c, e = .returned (.int .i64 c) ∧ LogPost S w l d (putA L x) c w' := by
  obtain ⟨P, hP⟩ : ∃ P : Int → World → Prop, P = fun c w' => LogPost S w l d (putA L x) c w' := ⟨_, rfl⟩
  have HPP : Hid (P = fun c w' => LogPost S w l d (putA L x) c w') := hP
  show Calls _ _ _ _ (fun e w' => ∃ c, e = .returned (.int .i64 c) ∧ (fun c w' => LogPost S w l d (putA L x) c w') c w')
  rw [← hP]
  clear hP
  have hP : ∀ c w', LogPost S w l d (putA L x) c w' → Hid (P c w') := fun c w' h => by show P c w'; rw [HPP.out]; exact h
  have hself : ∀ W, Below w.heap.size w W → ∀ c, LogPost S w l d (L, c) c W := fun W hW c => ⟨S, rfl, hL.below hW, Fr.of_below hW, fun _ _ h => h⟩
  have hmk := make_any v x w hv (by omega)
  obtain ⟨ax, capx, rfl, hx1, hx2⟩ := hv.shape
  have HMK : Hid (Calls Tryz.prog 62 #[.slice ax x.length capx] w fun e w' => ∃ v' ok, e = .returned (.tuple #[v', .bool ok]) ∧ Below w.heap.size w w' ∧
      (makeB x = none ∧ v' = .slice none 0 0 ∧ ok = false ∨ makeB x = some (frameB x) ∧ ok = true ∧ w'.ownsRow w.heap.size 5 1 v' (frameB x).length ((frameB x).map encB))) := hmk
  clear hmk
  by_cases h0 : x.length = 0
  · have hres := fun W hW => hP 2 W (by rw [putA_empty L x h0]; exact hself W hW 2)
    rw [h0]
    clear hP hself
    go_enter Tryz.func17, Tryz.ntmps17
    go_wp2
    go_ret
    exact ⟨2, rfl, (hres _ (Below.refl _ _)).out⟩
  · have hxb : (((x.length : Nat) : Int) == 0) = false := beq_eq_false_iff_ne.2 (by omega)
    go_enter Tryz.func17, Tryz.ntmps17
    go_wp2_with fail
    refine HMK.out.mono ?_
    rintro e W0 ⟨v', ok, rfl, hB0, ⟨hm, rfl, rfl⟩ | ⟨hm, rfl, ho⟩⟩
    · have hres := hP 4 W0 (by rw [putA_long L x h0 hm]; exact hself W0 hB0 4)
      clear hP hself
      go_wp2
      go_ret
      exact ⟨4, rfl, hres.out⟩
    · have hbl : (frameB x).length ≤ 1073741824 := by rw [frameB_length]; omega
      have hpA := putA_app L x h0 hm
      have hpR := putA_rot L x h0 hm
      have hpB := putA_big L x h0 hm
      obtain ⟨ab, capb, rfl, hab1, hab2, _⟩ := (Row.of_owns ho).open
      obtain ⟨T0, hlog0, hD0, hTl0, hSl0, hTS0, hSlt0⟩ := hL.below hB0
      have hLB := hL.below hB0
      have hbS : SlB S W0 (.slice ab (frameB x).length capb) (frameB x) := (Row.of_owns ho).mono (fun k _ hk => by obtain ⟨_, _, _, _, _, _, h6⟩ := hL; exact h6 k hk)
      obtain ⟨y0, y1, y2, y3, y4⟩ := cells5 hlog0
      obtain ⟨b, hb⟩ : ∃ b, frameB x = b := ⟨_, rfl⟩
      rw [hb] at hbl hpA hpR hpB hab1 hbS
      have HB : Hid (frameB x = b) := hb
      rw [hb]
      clear hb ho HMK
      by_cases hbig : L.most < (b.length : Int)
      · have hres := hP 4 W0 (by rw [hpB hbig]; exact hself W0 hB0 4)
        clear hP hself hpA hpR hpB
        go_wp2
        go_ret
        exact ⟨4, rfl, hres.out⟩
      · have hbig' : ¬ L.most < (b.length : Int) := hbig
        replace hpA := hpA hbig
        replace hpR := hpR hbig
        clear hpB
        by_cases hrot : 0 < L.size ∧ L.most < (L.size : Int) + (b.length : Int)
        · obtain ⟨hr1, hr2⟩ := hrot
          have hpR := hpR ⟨hr1, hr2⟩
          have ir1 : (0 : Int) < (L.size : Int) := by omega
          obtain ⟨k1, k2, k3, k4, k5⟩ := okr hr1
          have hwrap : IntKind.i64.wrap ((L.size : Int) + (b.length : Int)) = (L.size : Int) + (b.length : Int) := IntWalk.i64_in _ (by have := ok1.size; omega)
          clear hpA hTl0 hTS0 hD0
          go_wp2
          go_quiet (fail)
          clear hwrap
          have hBq : Below W0.heap.size W0 (W0.drewN nq) := below_drewN' (Below.refl _ _) nq
          have hBwq : Below w.heap.size w (W0.drewN nq) := hB0.trans (hBq.mono hB0.size)
          have hLq := hLB.below hBq
          have hbQ := hbS.below hBq
          generalize W0.drewN nq = Wq at *
          have hrt := rotate_any L l d Wq hLq ok1.n1 k1 ok1.p0 ok1.p1 ok1.files k2 k3 k4
          clear y0 y1 y2 y3 y4 hlog0 hLB hbS hBq
          go_wp2_with fail
          refine hrt.mono ?_
          rintro e WQ ⟨c, rfl, hPR⟩
          obtain ⟨S2, rfl, hL, hFr, hG⟩ := hPR
          have hFw : Fr S w WQ := (Fr.of_below hBwq (F := S)).trans hFr (fun _ _ h => h)
          have hGw : ∀ k, k < w.heap.size → S2 k → S k := fun k hk h => hG k (Nat.lt_of_lt_of_le hk hBwq.size) h
          by_cases hrc : (rotA L).2 = 0
          · rw [if_neg (by rw [hrc]; decide)] at hpR
            rw [hrc]
            have hbv : SlB S2 WQ (.slice ab b.length capb) b := hbQ.fr hFr (fun _ h => h) (fun k hk h => hG k hk h)
            generalize (rotA L).1 = L2 at *
            clear hrt hbQ hLq ok1 okr k1 k2 k3 k4 hrc hG hFr
            have hq0 := k5.p0
            have hq1 := k5.p1
            have hqu := k5.used
            have hn1' := k5.n1
            have hn' := k5.n2
            have hqs := k5.size
            have hqw := k5.wait
            go_wp2_with fail
            obtain ⟨T, hlog, hD, hTl, hSl, hTS, hSlt⟩ := hL
            obtain ⟨y0, y1, y2, y3, y4⟩ := cells5 hlog
            have hll := (Array.getElem?_eq_some_iff.1 hlog).1
            have hbT : SlB T WQ (.slice ab b.length capb) b := hbv.mono (fun k _ hk => hTS k hk)
            have hSS : ∀ W, Below WQ.heap.size WQ W → (W.cell? ⟨l, 3, none⟩ = some (.pointer (some ⟨d, 0, none⟩)) ∧ W.cell? ⟨l, 0, none⟩ = some (.int .i64 (L2.n : Int))) := fun W hW => ⟨(hW.cell (p := ⟨l, 3, none⟩) hll).trans y3, (hW.cell (p := ⟨l, 0, none⟩) hll).trans y0⟩
            have hSF : ∀ W, Fr T WQ W → (W.cell? ⟨l, 3, none⟩ = some (.pointer (some ⟨d, 0, none⟩)) ∧ W.cell? ⟨l, 0, none⟩ = some (.int .i64 (L2.n : Int))) := fun W hW => by
              have a2 := (hW.block l hll hTl).trans hlog
              exact ⟨(cells5 a2).2.2.2.1, (cells5 a2).1⟩
            have hS0 := hSS WQ.drew (Below.refl _ _).drew
            have hap := fun W (hW : Below WQ.heap.size WQ W) => append_any L2.D d W (hD.below hW) (nameB L2.n) (by rw [nameB_length]; omega) hq0 hq1 hqu (.slice ab b.length capb) b (hbT.below hW) hbl
            have hnm := fun W (hW : W.cell? ⟨l, 0, none⟩ = some (.int .i64 (L2.n : Int))) => walname_any l L2.n W hW hn1' hn'
            obtain ⟨R, hR⟩ : ∃ R, doA L2.D (.append b) (nameB L2.n) = R := ⟨_, rfl⟩
            have HRR : Hid (doA L2.D (.append b) (nameB L2.n) = R) := hR
            rw [hR] at hap
            clear hR
            obtain ⟨nb, hnb⟩ : ∃ nb, nameB L2.n = nb := ⟨_, rfl⟩
            have HNB : Hid (nameB L2.n = nb) := hnb
            rw [hnb] at hap hnm HRR
            clear hnb
            go_region_held3 (fun W => W.cell? ⟨l, 3, none⟩ = some (.pointer (some ⟨d, 0, none⟩)) ∧ W.cell? ⟨l, 0, none⟩ = some (.int .i64 (L2.n : Int))) (first | assumption)
              (first
                | (go_at_call 65; refine (hnm _ hS0.2).mono ?_; rintro e W1 ⟨rfl, hb⟩; have hB1 : Below WQ.heap.size WQ W1 := (Below.refl _ _).drew.trans hb; have hS1 := hSS W1 hB1)
                | (go_at_call 64; refine (hap _ hB1).mono ?_; intro e W2 hP; replace hP := hP.trans (Fr.of_below hB1); obtain ⟨T', rfl, hP2, hP3, hP4⟩ := hP; have hS2 := hSF W2 hP3))
            have hlog2 := (hP3.block l hll hTl).trans hlog
            have hTl2 : ¬ T' l := fun ht => hTl (hP4 l hll ht)
            have hpost : ∀ W3, (∃ sz wt : Nat, W3.heap[l]? = some (.cells #[.int .i64 (L2.n : Int), .int .i64 (sz : Int), .int .i64 (wt : Int), .pointer (some ⟨d, 0, none⟩), .int .i64 L2.most] 108 (0, 0)) ∧ Fr (fun k => k = l) W2 W3 ∧ ((⟨⟨R.1, L2.most, L2.n, sz, wt⟩, R.2⟩ : LogA × Int) = appA L2 b)) → LogPost S2 WQ l d (appA L2 b) R.2 W3 := fun W3 h => by
              obtain ⟨sz, wt, h1, h2, h3⟩ := h
              rw [← h3]
              refine ⟨fun k => S2 k ∨ T' k, rfl, ⟨T', h1, hP2.fr h2 (fun k hk e => hTl2 (by rw [← e]; exact hk)), hTl2, .inl hSl, fun k hk => .inr hk, fun k hk => ?_⟩, ?_, fun k hk hs => ?_⟩
              · rcases hk with hk | hk
                · exact Nat.lt_of_lt_of_le (hSlt k hk) (Nat.le_trans hP3.size h2.size)
                · exact Nat.lt_of_lt_of_le (hP2.lt k hk) h2.size
              · exact (hP3.mono (fun k _ hk => hTS k hk)).trans h2 (fun k _ e => by rw [e]; exact hSl)
              · rcases hs with hs | hs
                · exact hs
                · exact hTS k (hP4 k hk hs)
            have hapA : appA L2 b = if R.2 ≠ 0 then ({ L2 with D := R.1 }, R.2) else (⟨R.1, L2.most, L2.n, L2.size + b.length, L2.waiting + 1⟩, 0) := by
              show (if (doA L2.D (.append b) (nameB L2.n)).2 ≠ 0 then _ else _) = _
              rw [HNB.out, HRR.out]
            clear hSS hSF hS0 hap hnm hS1 hS2 y0 y1 y2 y3 y4
            by_cases hcz : R.2 = 0
            · have hapA2 : (⟨⟨R.1, L2.most, L2.n, L2.size + b.length, L2.waiting + 1⟩, R.2⟩ : LogA × Int) = appA L2 b := by rw [hapA, if_neg (by rw [hcz]; decide), hcz]
              have HPO := hpost
              have HAPP : Hid ((⟨⟨R.1, L2.most, L2.n, L2.size + b.length, L2.waiting + 1⟩, R.2⟩ : LogA × Int) = appA L2 b) := hapA2
              have HCZ : Hid (R.2 = 0) := hcz
              rw [hcz]
              clear hpost hapA2 hapA hcz
              obtain ⟨y0, y1, y2, y3, y4⟩ := cells5 hlog2
              go_wp2_with (first
                | ((with_reducible refine at_sto ?_); refine wpList_store_fld rfl (ty := 3) (x := .tmp 81) rfl l 1 108 (.int .i64 ((L2.size : Int) + (b.length : Int))) [.int .i64 (L2.n : Int), .int .i64 (L2.size : Int), .int .i64 (L2.waiting : Int), .pointer (some ⟨d, 0, none⟩), .int .i64 L2.most] rfl rfl hlog2 (by simp) size134 rfl rfl ?_; intro W3 hV1 hV2 hV3; replace hV1 : W3.heap[l]? = some (.cells #[.int .i64 (L2.n : Int), .int .i64 ((L2.size : Int) + (b.length : Int)), .int .i64 (L2.waiting : Int), .pointer (some ⟨d, 0, none⟩), .int .i64 L2.most] 108 (0, 0)) := hV1; obtain ⟨z0, z1, z2, z3, z4⟩ := cells5 hV1)
                | ((with_reducible refine at_sto ?_); refine wpList_store_fld rfl (ty := 3) (x := .tmp 90) rfl l 2 108 (.int .i64 ((L2.waiting : Int) + 1)) [.int .i64 (L2.n : Int), .int .i64 ((L2.size : Int) + (b.length : Int)), .int .i64 (L2.waiting : Int), .pointer (some ⟨d, 0, none⟩), .int .i64 L2.most] rfl rfl hV1 (by simp) size134 rfl rfl ?_; intro W4 hU1 hU2 hU3; replace hU1 : W4.heap[l]? = some (.cells #[.int .i64 (L2.n : Int), .int .i64 ((L2.size : Int) + (b.length : Int)), .int .i64 ((L2.waiting : Int) + 1), .pointer (some ⟨d, 0, none⟩), .int .i64 L2.most] 108 (0, 0)) := hU1))
              go_ret
              have hfin := HPO W4 ⟨L2.size + b.length, L2.waiting + 1, by rw [hU1]; norm_cast, hV2.trans hU2 (fun _ _ h => h), HAPP.out⟩
              rw [HCZ.out] at hfin
              have hres := hP 0 W4 (by rw [hpR]; exact hfin.trans hFw hGw)
              exact ⟨0, rfl, hres.out⟩
            · have hcb : (R.2 != 0) = true := by simpa using hcz
              have hfin := hpost W2 ⟨L2.size, L2.waiting, hlog2, Fr.refl _ _, by rw [hapA, if_pos hcz]⟩
              clear hpost hapA
              go_wp2
              go_ret
              have hres := hP R.2 W2 (by rw [hpR]; exact hfin.trans hFw hGw)
              exact ⟨R.2, rfl, hres.out⟩
          · rw [if_pos hrc] at hpR
            have hcb : ((rotA L).2 != 0) = true := by simpa using hrc
            have hres := hP (rotA L).2 WQ (by rw [hpR]; exact LogPost.trans ⟨S2, rfl, hL, Fr.refl _ _, fun _ _ h => h⟩ hFw hGw)
            generalize (rotA L).2 = rc at *
            clear hP hself hrt hpR hG hFr hFw hGw hL
            go_wp2
            go_ret
            exact ⟨rc, rfl, hres.out⟩
        · have hpR := hpA hrot
          clear hpA okr hTl0 hTS0 hD0
          by_cases hs0 : 0 < L.size
          · have ir1 : (0 : Int) < (L.size : Int) := by omega
            have ir2 : ¬ L.most < (L.size : Int) + (b.length : Int) := fun h => hrot ⟨hs0, h⟩
            have hwrap : IntKind.i64.wrap ((L.size : Int) + (b.length : Int)) = (L.size : Int) + (b.length : Int) := IntWalk.i64_in _ (by have := ok1.size; omega)
            clear hrot
            go_wp2
            go_quiet (fail)
            clear hwrap
            have hBq : Below W0.heap.size W0 (W0.drewN nq) := below_drewN' (Below.refl _ _) nq
            have hBwq : Below w.heap.size w (W0.drewN nq) := hB0.trans (hBq.mono hB0.size)
            have hL := hLB.below hBq
            have hbv : SlB S (W0.drewN nq) (.slice ab b.length capb) b := hbS.below hBq
            generalize W0.drewN nq = WQ at *
            have hFw : Fr S w WQ := Fr.of_below hBwq
            have hGw : ∀ k, k < w.heap.size → S k → S k := fun _ _ h => h
            clear y0 y1 y2 y3 y4 hlog0 hLB hbS hBq
            have hq0 := ok1.p0
            have hq1 := ok1.p1
            have hqu := ok1.used
            have hn1' := ok1.n1
            have hn' := ok1.n2
            have hqs := ok1.size
            have hqw := ok1.wait
            go_wp2_with fail
            obtain ⟨T, hlog, hD, hTl, hSl, hTS, hSlt⟩ := hL
            obtain ⟨y0, y1, y2, y3, y4⟩ := cells5 hlog
            have hll := (Array.getElem?_eq_some_iff.1 hlog).1
            have hbT : SlB T WQ (.slice ab b.length capb) b := hbv.mono (fun k _ hk => hTS k hk)
            have hSS : ∀ W, Below WQ.heap.size WQ W → (W.cell? ⟨l, 3, none⟩ = some (.pointer (some ⟨d, 0, none⟩)) ∧ W.cell? ⟨l, 0, none⟩ = some (.int .i64 (L.n : Int))) := fun W hW => ⟨(hW.cell (p := ⟨l, 3, none⟩) hll).trans y3, (hW.cell (p := ⟨l, 0, none⟩) hll).trans y0⟩
            have hSF : ∀ W, Fr T WQ W → (W.cell? ⟨l, 3, none⟩ = some (.pointer (some ⟨d, 0, none⟩)) ∧ W.cell? ⟨l, 0, none⟩ = some (.int .i64 (L.n : Int))) := fun W hW => by
              have a2 := (hW.block l hll hTl).trans hlog
              exact ⟨(cells5 a2).2.2.2.1, (cells5 a2).1⟩
            have hS0 := hSS WQ.drew (Below.refl _ _).drew
            have hap := fun W (hW : Below WQ.heap.size WQ W) => append_any L.D d W (hD.below hW) (nameB L.n) (by rw [nameB_length]; omega) hq0 hq1 hqu (.slice ab b.length capb) b (hbT.below hW) hbl
            have hnm := fun W (hW : W.cell? ⟨l, 0, none⟩ = some (.int .i64 (L.n : Int))) => walname_any l L.n W hW hn1' hn'
            obtain ⟨R, hR⟩ : ∃ R, doA L.D (.append b) (nameB L.n) = R := ⟨_, rfl⟩
            have HRR : Hid (doA L.D (.append b) (nameB L.n) = R) := hR
            rw [hR] at hap
            clear hR
            obtain ⟨nb, hnb⟩ : ∃ nb, nameB L.n = nb := ⟨_, rfl⟩
            have HNB : Hid (nameB L.n = nb) := hnb
            rw [hnb] at hap hnm HRR
            clear hnb
            go_region_held3 (fun W => W.cell? ⟨l, 3, none⟩ = some (.pointer (some ⟨d, 0, none⟩)) ∧ W.cell? ⟨l, 0, none⟩ = some (.int .i64 (L.n : Int))) (first | assumption)
              (first
                | (go_at_call 65; refine (hnm _ hS0.2).mono ?_; rintro e W1 ⟨rfl, hb⟩; have hB1 : Below WQ.heap.size WQ W1 := (Below.refl _ _).drew.trans hb; have hS1 := hSS W1 hB1)
                | (go_at_call 64; refine (hap _ hB1).mono ?_; intro e W2 hP; replace hP := hP.trans (Fr.of_below hB1); obtain ⟨T', rfl, hP2, hP3, hP4⟩ := hP; have hS := hSF W2 hP3))
            have hlog2 := (hP3.block l hll hTl).trans hlog
            have hTl2 : ¬ T' l := fun ht => hTl (hP4 l hll ht)
            have hpost : ∀ W3, (∃ sz wt : Nat, W3.heap[l]? = some (.cells #[.int .i64 (L.n : Int), .int .i64 (sz : Int), .int .i64 (wt : Int), .pointer (some ⟨d, 0, none⟩), .int .i64 L.most] 108 (0, 0)) ∧ Fr (fun k => k = l) W2 W3 ∧ ((⟨⟨R.1, L.most, L.n, sz, wt⟩, R.2⟩ : LogA × Int) = appA L b)) → LogPost S WQ l d (appA L b) R.2 W3 := fun W3 h => by
              obtain ⟨sz, wt, h1, h2, h3⟩ := h
              rw [← h3]
              refine ⟨fun k => S k ∨ T' k, rfl, ⟨T', h1, hP2.fr h2 (fun k hk e => hTl2 (by rw [← e]; exact hk)), hTl2, .inl hSl, fun k hk => .inr hk, fun k hk => ?_⟩, ?_, fun k hk hs => ?_⟩
              · rcases hk with hk | hk
                · exact Nat.lt_of_lt_of_le (hSlt k hk) (Nat.le_trans hP3.size h2.size)
                · exact Nat.lt_of_lt_of_le (hP2.lt k hk) h2.size
              · exact (hP3.mono (fun k _ hk => hTS k hk)).trans h2 (fun k _ e => by rw [e]; exact hSl)
              · rcases hs with hs | hs
                · exact hs
                · exact hTS k (hP4 k hk hs)
            have hapA : appA L b = if R.2 ≠ 0 then ({ L with D := R.1 }, R.2) else (⟨R.1, L.most, L.n, L.size + b.length, L.waiting + 1⟩, 0) := by
              show (if (doA L.D (.append b) (nameB L.n)).2 ≠ 0 then _ else _) = _
              rw [HNB.out, HRR.out]
            clear hSS hSF hS0 hap hnm hS1 hS y0 y1 y2 y3 y4
            by_cases hcz : R.2 = 0
            · have hapA2 : (⟨⟨R.1, L.most, L.n, L.size + b.length, L.waiting + 1⟩, R.2⟩ : LogA × Int) = appA L b := by rw [hapA, if_neg (by rw [hcz]; decide), hcz]
              have HPO := hpost
              have HAPP : Hid ((⟨⟨R.1, L.most, L.n, L.size + b.length, L.waiting + 1⟩, R.2⟩ : LogA × Int) = appA L b) := hapA2
              have HCZ : Hid (R.2 = 0) := hcz
              rw [hcz]
              clear hpost hapA2 hapA hcz
              obtain ⟨y0, y1, y2, y3, y4⟩ := cells5 hlog2
              go_wp2_with (first
                | ((with_reducible refine at_sto ?_); refine wpList_store_fld rfl (ty := 3) (x := .tmp 81) rfl l 1 108 (.int .i64 ((L.size : Int) + (b.length : Int))) [.int .i64 (L.n : Int), .int .i64 (L.size : Int), .int .i64 (L.waiting : Int), .pointer (some ⟨d, 0, none⟩), .int .i64 L.most] rfl rfl hlog2 (by simp) size134 rfl rfl ?_; intro W3 hV1 hV2 hV3; replace hV1 : W3.heap[l]? = some (.cells #[.int .i64 (L.n : Int), .int .i64 ((L.size : Int) + (b.length : Int)), .int .i64 (L.waiting : Int), .pointer (some ⟨d, 0, none⟩), .int .i64 L.most] 108 (0, 0)) := hV1; obtain ⟨z0, z1, z2, z3, z4⟩ := cells5 hV1)
                | ((with_reducible refine at_sto ?_); refine wpList_store_fld rfl (ty := 3) (x := .tmp 90) rfl l 2 108 (.int .i64 ((L.waiting : Int) + 1)) [.int .i64 (L.n : Int), .int .i64 ((L.size : Int) + (b.length : Int)), .int .i64 (L.waiting : Int), .pointer (some ⟨d, 0, none⟩), .int .i64 L.most] rfl rfl hV1 (by simp) size134 rfl rfl ?_; intro W4 hU1 hU2 hU3; replace hU1 : W4.heap[l]? = some (.cells #[.int .i64 (L.n : Int), .int .i64 ((L.size : Int) + (b.length : Int)), .int .i64 ((L.waiting : Int) + 1), .pointer (some ⟨d, 0, none⟩), .int .i64 L.most] 108 (0, 0)) := hU1))
              go_ret
              have hfin := HPO W4 ⟨L.size + b.length, L.waiting + 1, by rw [hU1]; norm_cast, hV2.trans hU2 (fun _ _ h => h), HAPP.out⟩
              rw [HCZ.out] at hfin
              have hres := hP 0 W4 (by rw [hpR]; exact hfin.trans hFw hGw)
              exact ⟨0, rfl, hres.out⟩
            · have hcb : (R.2 != 0) = true := by simpa using hcz
              have hfin := hpost W2 ⟨L.size, L.waiting, hlog2, Fr.refl _ _, by rw [hapA, if_pos hcz]⟩
              clear hpost hapA
              go_wp2
              go_ret
              have hres := hP R.2 W2 (by rw [hpR]; exact hfin.trans hFw hGw)
              exact ⟨R.2, rfl, hres.out⟩
          · have ir1 : ¬ (0 : Int) < (L.size : Int) := by omega
            clear hrot
            go_wp2
            go_quiet (fail)
            have hBq : Below W0.heap.size W0 (W0.drewN nq) := below_drewN' (Below.refl _ _) nq
            have hBwq : Below w.heap.size w (W0.drewN nq) := hB0.trans (hBq.mono hB0.size)
            have hL := hLB.below hBq
            have hbv : SlB S (W0.drewN nq) (.slice ab b.length capb) b := hbS.below hBq
            generalize W0.drewN nq = WQ at *
            have hFw : Fr S w WQ := Fr.of_below hBwq
            have hGw : ∀ k, k < w.heap.size → S k → S k := fun _ _ h => h
            clear y0 y1 y2 y3 y4 hlog0 hLB hbS hBq
            have hq0 := ok1.p0
            have hq1 := ok1.p1
            have hqu := ok1.used
            have hn1' := ok1.n1
            have hn' := ok1.n2
            have hqs := ok1.size
            have hqw := ok1.wait
            go_wp2_with fail
            obtain ⟨T, hlog, hD, hTl, hSl, hTS, hSlt⟩ := hL
            obtain ⟨y0, y1, y2, y3, y4⟩ := cells5 hlog
            have hll := (Array.getElem?_eq_some_iff.1 hlog).1
            have hbT : SlB T WQ (.slice ab b.length capb) b := hbv.mono (fun k _ hk => hTS k hk)
            have hSS : ∀ W, Below WQ.heap.size WQ W → (W.cell? ⟨l, 3, none⟩ = some (.pointer (some ⟨d, 0, none⟩)) ∧ W.cell? ⟨l, 0, none⟩ = some (.int .i64 (L.n : Int))) := fun W hW => ⟨(hW.cell (p := ⟨l, 3, none⟩) hll).trans y3, (hW.cell (p := ⟨l, 0, none⟩) hll).trans y0⟩
            have hSF : ∀ W, Fr T WQ W → (W.cell? ⟨l, 3, none⟩ = some (.pointer (some ⟨d, 0, none⟩)) ∧ W.cell? ⟨l, 0, none⟩ = some (.int .i64 (L.n : Int))) := fun W hW => by
              have a2 := (hW.block l hll hTl).trans hlog
              exact ⟨(cells5 a2).2.2.2.1, (cells5 a2).1⟩
            have hS0 := hSS WQ.drew (Below.refl _ _).drew
            have hap := fun W (hW : Below WQ.heap.size WQ W) => append_any L.D d W (hD.below hW) (nameB L.n) (by rw [nameB_length]; omega) hq0 hq1 hqu (.slice ab b.length capb) b (hbT.below hW) hbl
            have hnm := fun W (hW : W.cell? ⟨l, 0, none⟩ = some (.int .i64 (L.n : Int))) => walname_any l L.n W hW hn1' hn'
            obtain ⟨R, hR⟩ : ∃ R, doA L.D (.append b) (nameB L.n) = R := ⟨_, rfl⟩
            have HRR : Hid (doA L.D (.append b) (nameB L.n) = R) := hR
            rw [hR] at hap
            clear hR
            obtain ⟨nb, hnb⟩ : ∃ nb, nameB L.n = nb := ⟨_, rfl⟩
            have HNB : Hid (nameB L.n = nb) := hnb
            rw [hnb] at hap hnm HRR
            clear hnb
            go_region_held3 (fun W => W.cell? ⟨l, 3, none⟩ = some (.pointer (some ⟨d, 0, none⟩)) ∧ W.cell? ⟨l, 0, none⟩ = some (.int .i64 (L.n : Int))) (first | assumption)
              (first
                | (go_at_call 65; refine (hnm _ hS0.2).mono ?_; rintro e W1 ⟨rfl, hb⟩; have hB1 : Below WQ.heap.size WQ W1 := (Below.refl _ _).drew.trans hb; have hS1 := hSS W1 hB1)
                | (go_at_call 64; refine (hap _ hB1).mono ?_; intro e W2 hP; replace hP := hP.trans (Fr.of_below hB1); obtain ⟨T', rfl, hP2, hP3, hP4⟩ := hP; have hS := hSF W2 hP3))
            have hlog2 := (hP3.block l hll hTl).trans hlog
            have hTl2 : ¬ T' l := fun ht => hTl (hP4 l hll ht)
            have hpost : ∀ W3, (∃ sz wt : Nat, W3.heap[l]? = some (.cells #[.int .i64 (L.n : Int), .int .i64 (sz : Int), .int .i64 (wt : Int), .pointer (some ⟨d, 0, none⟩), .int .i64 L.most] 108 (0, 0)) ∧ Fr (fun k => k = l) W2 W3 ∧ ((⟨⟨R.1, L.most, L.n, sz, wt⟩, R.2⟩ : LogA × Int) = appA L b)) → LogPost S WQ l d (appA L b) R.2 W3 := fun W3 h => by
              obtain ⟨sz, wt, h1, h2, h3⟩ := h
              rw [← h3]
              refine ⟨fun k => S k ∨ T' k, rfl, ⟨T', h1, hP2.fr h2 (fun k hk e => hTl2 (by rw [← e]; exact hk)), hTl2, .inl hSl, fun k hk => .inr hk, fun k hk => ?_⟩, ?_, fun k hk hs => ?_⟩
              · rcases hk with hk | hk
                · exact Nat.lt_of_lt_of_le (hSlt k hk) (Nat.le_trans hP3.size h2.size)
                · exact Nat.lt_of_lt_of_le (hP2.lt k hk) h2.size
              · exact (hP3.mono (fun k _ hk => hTS k hk)).trans h2 (fun k _ e => by rw [e]; exact hSl)
              · rcases hs with hs | hs
                · exact hs
                · exact hTS k (hP4 k hk hs)
            have hapA : appA L b = if R.2 ≠ 0 then ({ L with D := R.1 }, R.2) else (⟨R.1, L.most, L.n, L.size + b.length, L.waiting + 1⟩, 0) := by
              show (if (doA L.D (.append b) (nameB L.n)).2 ≠ 0 then _ else _) = _
              rw [HNB.out, HRR.out]
            clear hSS hSF hS0 hap hnm hS1 hS y0 y1 y2 y3 y4
            by_cases hcz : R.2 = 0
            · have hapA2 : (⟨⟨R.1, L.most, L.n, L.size + b.length, L.waiting + 1⟩, R.2⟩ : LogA × Int) = appA L b := by rw [hapA, if_neg (by rw [hcz]; decide), hcz]
              have HPO := hpost
              have HAPP : Hid ((⟨⟨R.1, L.most, L.n, L.size + b.length, L.waiting + 1⟩, R.2⟩ : LogA × Int) = appA L b) := hapA2
              have HCZ : Hid (R.2 = 0) := hcz
              rw [hcz]
              clear hpost hapA2 hapA hcz
              obtain ⟨y0, y1, y2, y3, y4⟩ := cells5 hlog2
              go_wp2_with (first
                | ((with_reducible refine at_sto ?_); refine wpList_store_fld rfl (ty := 3) (x := .tmp 81) rfl l 1 108 (.int .i64 ((L.size : Int) + (b.length : Int))) [.int .i64 (L.n : Int), .int .i64 (L.size : Int), .int .i64 (L.waiting : Int), .pointer (some ⟨d, 0, none⟩), .int .i64 L.most] rfl rfl hlog2 (by simp) size134 rfl rfl ?_; intro W3 hV1 hV2 hV3; replace hV1 : W3.heap[l]? = some (.cells #[.int .i64 (L.n : Int), .int .i64 ((L.size : Int) + (b.length : Int)), .int .i64 (L.waiting : Int), .pointer (some ⟨d, 0, none⟩), .int .i64 L.most] 108 (0, 0)) := hV1; obtain ⟨z0, z1, z2, z3, z4⟩ := cells5 hV1)
                | ((with_reducible refine at_sto ?_); refine wpList_store_fld rfl (ty := 3) (x := .tmp 90) rfl l 2 108 (.int .i64 ((L.waiting : Int) + 1)) [.int .i64 (L.n : Int), .int .i64 ((L.size : Int) + (b.length : Int)), .int .i64 (L.waiting : Int), .pointer (some ⟨d, 0, none⟩), .int .i64 L.most] rfl rfl hV1 (by simp) size134 rfl rfl ?_; intro W4 hU1 hU2 hU3; replace hU1 : W4.heap[l]? = some (.cells #[.int .i64 (L.n : Int), .int .i64 ((L.size : Int) + (b.length : Int)), .int .i64 ((L.waiting : Int) + 1), .pointer (some ⟨d, 0, none⟩), .int .i64 L.most] 108 (0, 0)) := hU1))
              go_ret
              have hfin := HPO W4 ⟨L.size + b.length, L.waiting + 1, by rw [hU1]; norm_cast, hV2.trans hU2 (fun _ _ h => h), HAPP.out⟩
              rw [HCZ.out] at hfin
              have hres := hP 0 W4 (by rw [hpR]; exact hfin.trans hFw hGw)
              exact ⟨0, rfl, hres.out⟩
            · have hcb : (R.2 != 0) = true := by simpa using hcz
              have hfin := hpost W2 ⟨L.size, L.waiting, hlog2, Fr.refl _ _, by rw [hapA, if_pos hcz]⟩
              clear hpost hapA
              go_wp2
              go_ret
              have hres := hP R.2 W2 (by rw [hpR]; exact hfin.trans hFw hGw)
              exact ⟨R.2, rfl, hres.out⟩

end Go.Proofs.YtepceidajmedeaaGreatDoor

namespace Go.Proofs.YtepceidajmedeaaGreatDoor
open Go.RowKit CW

def startL (room most : Int) : LogA := ⟨(doA (newA room) .create (nameB 1)).1, most, 1, 0, 0⟩
def z5 : Bytes := [0, 0, 0, 0, 0]
def numsL (L : LogA) : Nat × Nat × Nat × Int × Nat × Nat := (L.n, L.size, L.waiting, L.D.plan, L.D.files.length, usedF L.D.files)

theorem start_nums : numsL (startL 1000 20) = (1, 0, 0, 0, 1, 0) := by kernel_rfl
theorem put1_nums : numsL (putA (startL 1000 20) z5).1 = (1, 13, 1, 0, 1, 13) ∧ (putA (startL 1000 20) z5).2 = 0 := ⟨by kernel_rfl, by kernel_rfl⟩
theorem sync_nums : numsL ⟨(doA (putA (startL 1000 20) z5).1.D .sync (nameB (putA (startL 1000 20) z5).1.n)).1, 20, 1, 0, 0⟩ = (1, 0, 0, 0, 1, 13) := by kernel_rfl
theorem rot_nums : numsL (rotA (putA (startL 1000 20) z5).1).1 = (2, 0, 0, 0, 2, 13) := by kernel_rfl
theorem put2_nums : numsL (putA (putA (startL 1000 20) z5).1 z5).1 = (2, 13, 1, 0, 2, 26) ∧ (putA (putA (startL 1000 20) z5).1 z5).2 = 0 := ⟨by kernel_rfl, by kernel_rfl⟩

theorem OkL.of_nums {L : LogA} {n sz wt f u : Nat} {p : Int} (h : numsL L = (n, sz, wt, p, f, u)) (h1 : 1 ≤ n) (h2 : n < 100) (h3 : 0 ≤ p) (h4 : p ≤ 4611686018427387904) (h5 : f < 1048576) (h6 : u ≤ 1099511627776) (h7 : sz ≤ 1099511627776) (h8 : wt ≤ 1099511627776) : OkL L := by
  unfold numsL at h
  simp only [Prod.mk.injEq] at h
  obtain ⟨rfl, rfl, rfl, rfl, rfl, rfl⟩ := h
  exact ⟨h1, h2, h3, h4, h5, h6, h7, h8⟩

theorem seg_any (l d : Nat) (L : LogA) (w : World) (h : w.heap[l]? = some (.cells (logC L d) 108 (0, 0))) :
    Calls Tryz.prog 38 #[.pointer (some ⟨l, 0, none⟩)] w fun e w' => e = .returned (.int .i64 (L.n : Int)) ∧ w' = w := by
  obtain ⟨y0, y1, y2, y3, y4⟩ := cells5 h
  go_enter Tryz.func38, Tryz.ntmps38
  go_wp2
  go_ret
  exact ⟨rfl, rfl⟩
theorem size_any (l d : Nat) (L : LogA) (w : World) (h : w.heap[l]? = some (.cells (logC L d) 108 (0, 0))) :
    Calls Tryz.prog 39 #[.pointer (some ⟨l, 0, none⟩)] w fun e w' => e = .returned (.int .i64 (L.size : Int)) ∧ w' = w := by
  obtain ⟨y0, y1, y2, y3, y4⟩ := cells5 h
  go_enter Tryz.func39, Tryz.ntmps39
  go_wp2
  go_ret
  exact ⟨rfl, rfl⟩
theorem wait_any (l d : Nat) (L : LogA) (w : World) (h : w.heap[l]? = some (.cells (logC L d) 108 (0, 0))) :
    Calls Tryz.prog 53 #[.pointer (some ⟨l, 0, none⟩)] w fun e w' => e = .returned (.int .i64 (L.waiting : Int)) ∧ w' = w := by
  obtain ⟨y0, y1, y2, y3, y4⟩ := cells5 h
  go_enter Tryz.func53, Tryz.ntmps53
  go_wp2
  go_ret
  exact ⟨rfl, rfl⟩

theorem walnew_any (d : Nat) (most : Int) (n sz : Nat) (w : World) :
    Calls Tryz.prog 61 #[.pointer (some ⟨d, 0, none⟩), .int .i64 most, .int .i64 (n : Int), .int .i64 (sz : Int)] w fun e w' => e = .returned (.pointer (some ⟨w.heap.size, 0, none⟩)) ∧ w' = w.alloc (.cells #[.int .i64 (n : Int), .int .i64 (sz : Int), .int .i64 0, .pointer (some ⟨d, 0, none⟩), .int .i64 most] 108) := by
  go_enter Tryz.func61, Tryz.ntmps61
  go_wp2
  go_ret
  exact ⟨rfl, rfl⟩

theorem newA_ok (room : Int) : (newA room).plan = 0 ∧ (newA room).files.length = 0 := ⟨rfl, rfl⟩

set_option maxHeartbeats 1000000 in
theorem start_any (room most : Int) (w : World) :
    Calls Tryz.prog 16 #[.int .i64 room, .int .i64 most] w fun e w' => ∃ S d l, e = .returned (.tuple #[.pointer (some ⟨d, 0, none⟩), .pointer (some ⟨l, 0, none⟩)]) ∧ LogAt S w' l d (startL room most) ∧ Below w.heap.size w w' ∧ (∀ k, S k → w.heap.size ≤ k) := by
  have hn := new_any room w
  go_enter Tryz.func16, Tryz.ntmps16
  go_wp2_with (go_at_call 40; refine hn.mono ?_; rintro e w1 ⟨T0, d, rfl, hD, hB1, hT0⟩)
  have hc := create_any (newA room) d w1 hD (nameB 1) (by rw [nameB_length]; omega) (by rw [(newA_ok room).1]; omega) (by rw [(newA_ok room).1]; omega) (by rw [(newA_ok room).2]; omega)
  have hnb : (nameB 1).toArray = #[108, 111, 103, 45, 48, 48, 48, 48, 48, 48, 48, 49] := by kernel_rfl
  rw [hnb] at hc
  have HR : Hid ((startL room most).D = (doA (newA room) .create (nameB 1)).1) := rfl
  obtain ⟨R, hR⟩ : ∃ R, doA (newA room) .create (nameB 1) = R := ⟨_, rfl⟩
  rw [hR] at hc HR
  clear hR
  go_wp2_with fail
  refine hc.mono ?_
  intro e w2 hP
  obtain ⟨T, rfl, hD2, hF2, hG2⟩ := hP
  have hwn := walnew_any d most 1 0 w2
  have hlt := hD2.lt
  have hBz := hB1.size
  have hFz := hF2.size
  go_wp2_with (go_at_call 61; refine hwn.mono ?_; rintro e w3 ⟨rfl, rfl⟩)
  go_ret2
  have hA := boxF w2 (.cells #[.int .i64 ((1 : Nat) : Int), .int .i64 ((0 : Nat) : Int), .int .i64 0, .pointer (some ⟨d, 0, none⟩), .int .i64 most] 108)
  have hge : ∀ k, T k → w.heap.size ≤ k := fun k hk => by
    rcases Nat.lt_or_ge k w1.heap.size with h | h
    · exact hT0 k (hG2 k h hk)
    · omega
  refine ⟨fun k => T k ∨ k = w2.heap.size, d, w2.heap.size, rfl, ⟨T, hA.2.2, ?_, fun ht => by have := hlt _ ht; omega, .inr rfl, fun k hk => .inl hk, fun k hk => ?_⟩, ?_, fun k hk => ?_⟩
  · rw [HR.out]; exact hD2.below hA.1
  · have hsz : ∀ C, (w2.alloc C).heap.size = w2.heap.size + 1 := fun C => by simp
    have hk2 : k ≤ w2.heap.size := by
      rcases hk with hk | hk
      · exact Nat.le_of_lt (hlt k hk)
      · exact Nat.le_of_eq hk
    exact Nat.lt_of_lt_of_le (Nat.lt_succ_of_le hk2) (Nat.le_of_eq (hsz _).symm)
  · exact ((hB1.trans (hF2.below hBz (fun k hk ht => by have := hT0 k ht; omega)))).trans (hA.1.mono (by omega))
  · rcases hk with hk | hk
    · exact hge k hk
    · omega

end Go.Proofs.YtepceidajmedeaaGreatDoor

namespace Go.Proofs.YtepceidajmedeaaGreatDoor
open Go.RowKit CW

def O5 : Obj := .cells ((z5.map encB).toArray) 5
theorem mk5 (W : World) : (Instr.makeSlice 30 (.int .i64 5) (.int .i64 5)).run Tryz.prog W = .ok (.slice (some ⟨W.heap.size, 0, none⟩) 5 5) (W.alloc O5) := by
  obtain ⟨i, hi, hz, hsz, hby⟩ := tyB.info
  have h := run_makeSlice (w := W) 30 5 i (.int .u8 0) tyB.ht hi hz .i64 .i64 5 5 (by decide) (by decide) (by rw [hsz]; decide) (by rw [hby]; decide) (by decide)
  rw [hsz] at h
  have e : madeCells (Value.int .u8 0).cells (Int.toNat 5 * 1) = (z5.map encB).toArray := by kernel_rfl
  rw [e] at h
  exact h
theorem row5 (W : World) : SlB (fun _ => False) (W.alloc O5) (.slice (some ⟨W.heap.size, 0, none⟩) 5 5) z5 :=
  Row.mono (M := fun k => k < W.heap.size) (Row.lit (size := 1) (Nat.le_refl _) (by decide) rfl rfl) (fun _ _ h => h.elim)

set_option maxHeartbeats 2000000 in
set_option maxRecDepth 100000 in
theorem alive_any (w : World) : Calls Tryz.prog 15 #[] w fun e w' => e = .returned (.bool true) ∧ Below w.heap.size w w' := by
  have hst := start_any 1000 20 w
  go_enter Tryz.func15, Tryz.ntmps15
  go_wp2_with (go_at_call 16; refine hst.mono ?_; rintro e w1 ⟨S, d, l, rfl, hL, hB, hS⟩)
  have hSlt : ∀ k, S k → k < w1.heap.size := by obtain ⟨_, _, _, _, _, _, h6⟩ := hL; exact h6
  have hmk := mk5
  have hA1 : Below w1.heap.size w1 (w1.alloc O5).drew := ((Below.refl _ _).alloc (Nat.le_refl _) _).drew
  have hz1 : (w1.alloc O5).heap.size = w1.heap.size + 1 := by simp
  have hA2 : Below w1.heap.size w1 ((w1.alloc O5).alloc O5).drew := (((Below.refl _ _).alloc (Nat.le_refl _) _).alloc (by omega) _).drew
  have r1 : SlB S (w1.alloc O5).drew (.slice (some ⟨w1.heap.size, 0, none⟩) 5 5) z5 := (Row.lit (base := w1.heap.size) (size := 1) (Nat.le_refl _) (by decide) rfl rfl : Row _ (w1.alloc O5) _ 5 (z5.map encB)).mono (fun k _ hk => hSlt k hk)
  have r2 : SlB S ((w1.alloc O5).alloc O5).drew (.slice (some ⟨w1.heap.size, 0, none⟩) 5 5) z5 := Row.below (w := w1.alloc O5) (w' := (w1.alloc O5).alloc O5) r1 ((Below.refl _ (w1.alloc O5)).alloc (Nat.le_refl _) O5)
  have r3 : SlB S ((w1.alloc O5).alloc O5).drew (.slice (some ⟨w1.heap.size + 1, 0, none⟩) 5 5) z5 := by
    have h : Row (fun k => k < w1.heap.size) ((w1.alloc O5).alloc O5) (.slice (some ⟨(w1.alloc O5).heap.size, 0, none⟩) 5 5) 5 (z5.map encB) := Row.lit (base := w1.heap.size) (size := 1) (by omega) (by decide) rfl rfl
    rw [hz1] at h
    exact Row.mono (w := (w1.alloc O5).alloc O5) h (fun k _ hk => hSlt k hk)
  have ok0 : OkL (startL 1000 20) := OkL.of_nums start_nums (by omega) (by omega) (by omega) (by omega) (by omega) (by omega) (by omega) (by omega)
  have ok1 : OkL (putA (startL 1000 20) z5).1 := OkL.of_nums put1_nums.1 (by omega) (by omega) (by omega) (by omega) (by omega) (by omega) (by omega) (by omega)
  have okr : OkL (rotA (putA (startL 1000 20) z5).1).1 := OkL.of_nums rot_nums (by omega) (by omega) (by omega) (by omega) (by omega) (by omega) (by omega) (by omega)
  have oks : OkL ⟨(doA (putA (startL 1000 20) z5).1.D .sync (nameB (putA (startL 1000 20) z5).1.n)).1, 20, 1, 0, 0⟩ := OkL.of_nums sync_nums (by omega) (by omega) (by omega) (by omega) (by omega) (by omega) (by omega) (by omega)
  have hsz0 : (startL 1000 20).size = 0 := rfl
  have hn1 : (putA (startL 1000 20) z5).1.n = 1 := by kernel_rfl
  have hpt1 := fun W (hW : LogAt S W l d (startL 1000 20)) v (hv : SlB (fun _ => False) W v z5) => put_any (startL 1000 20) l d W hW v z5 hv (by decide) ok0 (fun h => by rw [hsz0] at h; omega)
  have hpt2 := fun S2 W (hW : LogAt S2 W l d (putA (startL 1000 20) z5).1) v (hv : SlB (fun _ => False) W v z5) => put_any (putA (startL 1000 20) z5).1 l d W hW v z5 hv (by decide) ok1 (fun h => ⟨by rw [hn1]; omega, oks.p0, oks.p1, oks.files, okr⟩)
  have hc1 := put1_nums.2
  have hc2 := put2_nums.2
  have hnn := put2_nums.1
  generalize (putA (putA (startL 1000 20) z5).1 z5) = R2 at *
  generalize (putA (startL 1000 20) z5) = R1 at *
  clear ok0 ok1 okr oks hsz0 hn1
  have hstep : ∀ W W2, Below w1.heap.size w1 W → Fr S W W2 → Below w.heap.size w W2 := fun W W2 h k => (hB.trans (h.mono hB.size)).trans (k.below (Nat.le_trans hB.size h.size) (fun q h1 h2 => by have := hS q h2; omega))
  have hstep2 : ∀ S2 W W2 W' W3, Below w1.heap.size w1 W → Fr S W W2 → (∀ k, k < W.heap.size → S2 k → S k) → Below W2.heap.size W2 W' → Fr S2 W' W3 → Below w.heap.size w W3 := fun S2 W W2 W' W3 h k g h' k' =>
    have hb := hstep W W2 h k
    (hb.trans (h'.mono hb.size)).trans (k'.below (Nat.le_trans hb.size h'.size) (fun q h1 h2 => by
      have h3 := Nat.le_trans hB.size h.size
      have := hS q (g q (by omega) h2)
      omega))
  go_wp2_with fail
  go_region_held3 (fun W => Below w.heap.size w W) (first | assumption | exact hB.drew | exact Below.alloc (by assumption) (Below.size (by assumption)) _ | exact (Below.alloc hB hB.size _).drew | exact ((Below.alloc hB hB.size _).alloc (by have := hB.size; omega) _).drew)
    (first
      | (go_at_call 17; refine (hpt1 _ (hL.below (by first | exact hA1 | exact hA2)) _ (SlB.any (M := S) (by first | exact r1 | exact r2 | exact r3))).mono ?_; rintro e W2 ⟨c, rfl, hP1⟩; obtain ⟨S2, rfl, hL1, hF1, hG1⟩ := hP1; have hB2 := hstep _ _ (by first | exact hA1 | exact hA2) hF1)
      | (go_at_call 17; refine (hpt2 S2 _ (by first | exact hL1 | exact hL1.below ((Below.refl _ _).alloc (Nat.le_refl _) _)) _ (by first | exact row5 _ | exact (SlB.fr (M' := S2) r2 hF1 (fun _ h => h) hG1).any | exact (SlB.fr (M' := S2) r3 hF1 (fun _ h => h) hG1).any)).mono ?_; rintro e W3 ⟨c, rfl, hP2⟩; obtain ⟨S3, rfl, hL2, hF2, hG2⟩ := hP2; have hB3 := hstep2 S2 _ _ _ _ (by first | exact hA1 | exact hA2) hF1 hG1 (by first | exact Below.refl _ _ | exact (Below.refl _ _).alloc (Nat.le_refl _) _) hF2))
  all_goals
    obtain ⟨_, hlog, _, _, _, _, _⟩ := hL2
    have hsg := seg_any l d _ _ hlog
    have hsi := size_any l d _ _ hlog
    have hwa := wait_any l d _ _ hlog
    unfold numsL at hnn
    simp only [Prod.mk.injEq] at hnn
    rw [hnn.1] at hsg
    rw [hnn.2.1] at hsi
    rw [hnn.2.2.1] at hwa
    clear hpt1 hpt2 hstep hstep2 r1 r2 r3 hA1 hA2 hmk
    go_wp2_with (first
      | (go_at_call 38; refine hsg.mono ?_; rintro e w4 ⟨rfl, rfl⟩)
      | (go_at_call 39; refine hsi.mono ?_; rintro e w4 ⟨rfl, rfl⟩)
      | (go_at_call 53; refine hwa.mono ?_; rintro e w4 ⟨rfl, rfl⟩))
    go_ret
    exact ⟨rfl, hB3⟩

end Go.Proofs.YtepceidajmedeaaGreatDoor

namespace Go.Proofs
open Go.RowKit Go.Maps Go.Sort Go.Shelf

theorem Tryz.sortsA (m : Nat) : AnyZ.SortsIn Tryz.prog Tryz.sortedA_ren Fence.wide m :=
  ⟨fun blk off cap ss W hH hblk hsz => callsIn_wide.2 (AnyM.slices_Sort_string Tryz.sortA blk off cap ss W hH hblk hsz),
   fun p cap W => callsIn_wide.2 (AnyM.slices_Sort_string_none Tryz.sortA p cap W)⟩

end Go.Proofs
namespace Go.Proofs.YtepceidajmedeaaGreatDoor
open Go.RowKit CW Go.Sort Go.Shelf

theorem ltB_le : ∀ a b : Bytes, ltB a b = true → a ≤ b
  | [], _, _ => List.nil_le _
  | _ :: _, [], h => by cases h
  | a :: x, b :: y, h => by
    have h : (decide (a < b) || (a == b && bytesBefore x y)) = true := h
    simp only [Bool.or_eq_true, decide_eq_true_eq, Bool.and_eq_true, beq_iff_eq] at h
    rcases h with h1 | ⟨rfl, h2⟩
    · exact List.le_of_lt (List.cons_lt_cons_iff.2 (.inl h1))
    · have := ltB_le x y h2
      rw [List.cons_le_cons_iff]
      exact .inr ⟨rfl, this⟩

theorem names_sorted (qs : List Ent) (hs : SortedK nq qs) (ss : List (List UInt8)) (hp : ss.Perm (strKeys (mapQ qs))) : ss.mergeSort (fun x y => decide (x ≤ y)) = qs.map nq := by
  have h1 : strKeys (mapQ qs) = qs.map nq := by
    show List.map _ (List.map _ qs) = _
    rw [List.map_map]
    rfl
  rw [h1] at hp
  have h2 := mergeSort_of_perm hp
  rw [show ss.mergeSort (fun x y => decide (x ≤ y)) = ss.mergeSort leB from rfl, h2]
  refine List.mergeSort_of_pairwise ?_
  rw [List.pairwise_map]
  exact hs.imp (fun h => decide_eq_true (ltB_le _ _ h))

set_option maxHeartbeats 1000000 in
theorem disklist_any {S : Nat → Prop} {D : DiskA} {d : Nat} (w : World) (h : DiskAt S w d D) (hl : D.files.length ≤ 1048576) :
    Calls Tryz.prog 25 #[.pointer (some ⟨d, 0, none⟩)] w fun e w' => ∃ v, e = .returned v ∧ w'.ownsRow w.heap.size 9 1 v D.files.length (D.files.map (fun f => stV f.name)) ∧ Below w.heap.size w w' := by
  obtain ⟨mb, qs, h⟩ := h
  have hql : qs.length = D.files.length := by rw [← h.files, List.length_map]
  have HN : Hid (D.files.map (fun f => stV f.name) = (qs.map nq).map encStr) := by show _ = _; rw [← h.files, List.map_map, List.map_map]; rfl
  have HS : ∀ ss : List (List UInt8), ss.Perm (strKeys (mapQ qs)) → ss.mergeSort (fun x y => decide (x ≤ y)) = qs.map nq := fun ss hp => names_sorted qs h.sorted ss hp
  have hbl := h.lt mb h.inM
  have hown := h.map
  obtain ⟨c0, c1, c2, c3⟩ := cells4 h.blk
  have hmax : Maps.size (mapQ qs) ≤ maxLen := by rw [mapK_size]; unfold maxLen; omega
  have hbytes : Maps.size (mapQ qs) * 16 ≤ 140737488355328 := by rw [mapK_size]; omega
  clear h
  refine (callsIn_wide (n := 6)).1 ?_
  have hseq : SeqGives Fence.wide 2 Tryz.prog 142 #[.pointer (some ⟨w.heap.size, 0, none⟩)] encStr (fun ss => ss.Perm (strKeys (mapQ qs))) (Maps.size (mapQ qs)) (w.alloc (.cells #[.map (some mb)] 131)) :=
    AnyZ.keys_gives (ρ := Tryz.keysA_ren) { Tryz.keysA with } Fence.wide _ trivial rfl (by omega) w.heap.size mb qs.length (mapQ qs) _ (by simp) (by simp) (by
      obtain ⟨es, clock, hb, Ft, hs, hD⟩ := hown
      exact ⟨es, clock, (Below.heap_alloc _ _ mb hbl).trans hb, Ft, hs, hD⟩)
  have cK : ∀ mb W, CallsIn Fence.wide 5 Tryz.prog 81 #[.map mb] W fun e w' => e = .returned (.func (.func 142) #[] #[.pointer (some ⟨W.heap.size, 0, none⟩)]) ∧ w' = W.alloc (.cells #[.map mb] 131) := fun mb W => AnyZ.keys_in Tryz.keysA Fence.wide 5 trivial rfl mb W
  have cS := AnyZ.sorted_in Tryz.sortedA Fence.wide 5 trivial trivial trivial trivial rfl (by omega) (Tryz.sortsA _) (enters_of Tryz.func141 (by kernel_rfl) rfl) 142 #[.pointer (some ⟨w.heap.size, 0, none⟩)] trivial (enters_of Tryz.func142 (by kernel_rfl) rfl) _ _ hmax hbytes _ hseq
  change CallsIn _ _ Tryz.prog 80 _ _ _ at cS
  have hfK : Fence.wide.fn 81 := trivial
  have hfS : Fence.wide.fn 80 := trivial
  refine callsIn_of_wp Tryz.func25 rfl trivial ?_ rfl
  simp only [Tryz.ntmps25, List.size_toArray, List.length_cons, List.length_nil, Nat.reduceAdd, Nat.reduceSub, Array.replicate_succ, Array.replicate_zero, List.push_toArray, List.append_toArray, List.nil_append, List.cons_append]
  gi_wp2_with (first
    | (gi_at_call 81; refine (cK _ _).mono ?_; rintro e w' ⟨rfl, rfl⟩)
    | (gi_at_call 80; refine cS.mono ?_; rintro e w' ⟨v, ss, rfl, hS, hrow, hnil, hb⟩))
  go_ret
  have hr := ownsRow_base_a hrow (show w.heap.size ≤ _ by simp)
  rw [HS ss hS, ← HN.out] at hr
  have hlen : ss.length = D.files.length := by
    have h1 := congrArg List.length (HS ss hS)
    rw [List.length_mergeSort, List.length_map] at h1
    omega
  rw [hlen] at hr
  exact ⟨v, rfl, hr, ((Below.refl _ w).alloc (Nat.le_refl _) _).trans (hb.mono (by simp))⟩

end Go.Proofs.YtepceidajmedeaaGreatDoor

namespace Go.Proofs.YtepceidajmedeaaGreatDoor
open Go.RowKit CW
attribute [local go_sem] Oper.semAt_some

theorem below_fr {n : Nat} {w w' : World} (h : Below n w w') : Fr (fun k => ¬ k < n) w w' := ⟨h.os, h.tape, h.output, h.size, fun k _ hn => h.block k (Decidable.not_not.1 hn)⟩

set_option maxHeartbeats 1000000 in
set_option maxRecDepth 100000 in
theorem all1_in (n l Bx n₀ : Nat) (hn1 : 1 ≤ n) (bv : Value) (bs : Bytes) (J : List (Bytes × Nat) → World → Prop) (hlen : bs.length ≤ 70368744177660)
    (hJ : ∀ pre W0 W1, J pre W0 → Below W0.heap.size W0 W1 → J pre W1)
    (hY : ∀ pre x e u W0 W1, J pre W0 → Below W0.heap.size W0 W1 → SlB (fun k => k < W0.heap.size) W1 u x → pre.length < (endsB 0 bs).length → YieldAt Fence.wide (n - 1) Tryz.prog l #[.int .i64 (e : Nat), u] W1 fun e' W' =>
      e' = .returned (.bool true) ∧ J (pre ++ [(x, e)]) W' ∧ Below n₀ W1 W' ∧ W'.cell? ⟨Bx, 0, none⟩ = W1.cell? ⟨Bx, 0, none⟩)
    (W : World) (hBx : W.cell? ⟨Bx, 0, none⟩ = some bv) (hbv : SlB (fun k => ¬ k < n₀) W bv bs) (hn₀ : n₀ ≤ W.heap.size) (h0 : J [] W) :
    CallsIn Fence.wide n Tryz.prog 164 #[.func (.yield l) #[] #[], .pointer (some ⟨Bx, 0, none⟩)] W fun e W' => (∃ v, e = .returned v) ∧ J (endsB 0 bs) W' := by
  obtain ⟨a, cap, rfl, hn, hcap⟩ := hbv.shape
  have hnx : ∀ (v : Value) (xs : Bytes) (w : World), SlB (fun _ => False) w v xs → xs.length ≤ 70368744177660 → CallsIn Fence.wide (n - 1) Tryz.prog 165 #[v] w fun e w' => ∃ v' n, e = .returned (.tuple #[v', .int .i64 (n : Nat)]) ∧ Below w.heap.size w w' ∧
      (nextB xs = none ∧ v' = .slice none 0 0 ∧ n = 0 ∨ ∃ x, nextB xs = some (x, n) ∧ SlB (fun k => k < w.heap.size) w' v' x) := fun v xs w h1 h2 => callsIn_wide.2 (next_any v xs w h1 h2)
  have hf1 : Fence.wide.fn 165 := trivial
  refine callsIn_of_wp Tryz.func164 rfl trivial ?_ rfl
  simp only [Tryz.ntmps164, List.size_toArray, List.length_cons, List.length_nil, Nat.reduceAdd, Nat.reduceSub, Array.replicate_succ, Array.replicate_zero, List.push_toArray, List.append_toArray, List.nil_append, List.cons_append]
  gi_wp2_with (first | (gi_at_call 165; refine (hnx _ _ _ hbv.any hlen).mono ?_; rintro e w1 ⟨v1, n1, rfl, hb1, hres⟩))
  gi_loopw [3, 4, 5] (fun e x m wr => ∃ (pre : List (Bytes × Nat)) (at_ nn : Nat) (Wp : World), e = .int .i64 at_ ∧ m = .int .i64 nn ∧ J pre Wp ∧ Below Wp.heap.size Wp wr ∧ at_ ≤ bs.length ∧ endsB 0 bs = pre ++ endsB at_ (bs.drop at_) ∧
      wr.cell? ⟨Bx, 0, none⟩ = some (.slice a bs.length cap) ∧ Below n₀ W wr ∧ (nextB (bs.drop at_) = none ∧ nn = 0 ∨ ∃ r, nextB (bs.drop at_) = some (r, nn) ∧ SlB (fun k => k < Wp.heap.size) wr x r))
    (fun e _ _ _ => bs.length + 1 - (intOf e).toNat)
  case atStart =>
    refine ⟨[], 0, n1, W, rfl, rfl, h0, hb1, by omega, rfl, (hb1.cell (p := ⟨Bx, 0, none⟩) (block_lt_of_cell hBx)).trans hBx, hb1.mono hn₀, ?_⟩
    rcases hres with ⟨h1, _, rfl⟩ | h
    · exact .inl ⟨h1, rfl⟩
    · exact .inr h
  case round =>
    obtain ⟨pre, at_, nn, Wp, rfl, rfl, hJp, hbp, hat, hends, hbx, hbW, hres⟩ := hrel
    rcases hres with ⟨hno, rfl⟩ | ⟨r, hso, hsr⟩
    · have hfin := hJ _ _ _ hJp hbp
      rw [endsB_none hno, List.append_nil] at hends
      clear hY hJ hnx
      gi_wp2
      go_end0
      exact ⟨⟨_, rfl⟩, by rw [hends]; exact hfin⟩
    · have hpos := nextB_pos hso
      have hdl : (bs.drop at_).length = bs.length - at_ := List.length_drop
      rw [hdl] at hpos
      obtain ⟨b, off, capb, hbe, _, _, hbl, hbM, _⟩ := hbv.open (by omega)
      cases hbe
      obtain ⟨a', cap', hxe, _, _⟩ := hsr.shape
      subst hxe
      have hyy := hY pre r (at_ + nn) _ Wp wr hJp hbp hsr (by rw [hends, endsB_some hso]; simp)
      rw [Int.natCast_add] at hyy
      have hE2 : Hid (endsB 0 bs = (pre ++ [(r, at_ + nn)]) ++ endsB (at_ + nn) (bs.drop (at_ + nn))) := by
        show endsB 0 bs = _
        rw [hends, endsB_some hso, List.drop_drop]
        simp
      have i1 : 0 < nn := by omega
      have i2 : at_ + nn ≤ bs.length := by omega
      clear hY hends hso hpos hdl
      obtain ⟨fn, tmps, assign, body, hy, hR⟩ := hyy
      gi_wp2
      refine hR.mono ?_
      rintro e W3 ⟨rfl, hJ3, hk3, hc3⟩
      have hbx3 := hc3.trans hbx
      have hW3 := hbW.trans hk3
      have hbv3 : SlB (fun k => ¬ k < n₀) W3 (.slice (some ⟨b, off, none⟩) bs.length cap) bs := hbv.fr (below_fr hW3) (fun _ h => h) (fun _ _ h => h)
      have hl3 : (bs.drop (at_ + nn)).length ≤ 70368744177660 := by rw [List.length_drop]; omega
      have g1 : (at_ : Int) + (nn : Int) ≤ (bs.length : Int) := by omega
      have g2 : ((at_ : Int) + (nn : Int)).toNat = at_ + nn := by omega
      clear hR hy hc3
      by_cases hcc : cap = at_ + nn
      · subst hcc
        have hd3 := hbv3.dropCap (at_ + nn) i2 rfl
        rw [Nat.sub_self, show bs.length - (at_ + nn) = 0 by omega] at hd3
        gi_wp2_with (first | (gi_at_call 165; refine (hnx _ _ _ hd3.any hl3).mono ?_; rintro e w4 ⟨v4, n4, rfl, hb4, hres4⟩))
        have hres5 : nextB (bs.drop (at_ + nn)) = none ∧ n4 = 0 ∨ ∃ r, nextB (bs.drop (at_ + nn)) = some (r, n4) ∧ SlB (fun k => k < W3.heap.size) w4 v4 r := by
          rcases hres4 with ⟨h1, _, h⟩ | h
          · exact .inl ⟨h1, h⟩
          · exact .inr h
        go_roundw
        case rel => exact ⟨pre ++ [(r, at_ + nn)], at_ + nn, n4, W3, by go_num, rfl, hJ3, hb4, i2, hE2.out, (hb4.cell (p := ⟨Bx, 0, none⟩) (block_lt_of_cell hbx3)).trans hbx3, hW3.trans (hb4.mono (Nat.le_trans hn₀ hW3.size)), hres5⟩
        case measure => simp [intOf]; omega
      · have hd3 := hbv3.drop (at_ + nn) i2
        gi_wp2_with (first | (gi_at_call 165; refine (hnx _ _ _ hd3.any hl3).mono ?_; rintro e w4 ⟨v4, n4, rfl, hb4, hres4⟩))
        have hres5 : nextB (bs.drop (at_ + nn)) = none ∧ n4 = 0 ∨ ∃ r, nextB (bs.drop (at_ + nn)) = some (r, n4) ∧ SlB (fun k => k < W3.heap.size) w4 v4 r := by
          rcases hres4 with ⟨h1, _, h⟩ | h
          · exact .inl ⟨h1, h⟩
          · exact .inr h
        go_roundw
        case rel => exact ⟨pre ++ [(r, at_ + nn)], at_ + nn, n4, W3, by go_num, rfl, hJ3, hb4, i2, hE2.out, (hb4.cell (p := ⟨Bx, 0, none⟩) (block_lt_of_cell hbx3)).trans hbx3, hW3.trans (hb4.mono (Nat.le_trans hn₀ hW3.size)), hres5⟩
        case measure => simp [intOf]; omega

theorem all_any (a : Option Addr) (n cap : Nat) (w : World) :
    Calls Tryz.prog 134 #[.slice a n cap] w fun e w' => e = .returned (.func (.func 164) #[] #[.pointer (some ⟨w.heap.size, 0, none⟩)]) ∧ w.alloc (.cells #[.slice a n cap] 30) = w' := by
  go_enter Tryz.func134, Tryz.ntmps134
  go_wp2
  go_ret
  exact ⟨rfl, rfl⟩

theorem owns_succ {w : World} {base e size k : Nat} {v : Value} {cs : List Value} (h : w.ownsRow base e size v (k + 1) cs) : ∃ g cap, v = .slice (some ⟨g, 0, none⟩) (k + 1) cap := by
  rcases h.2 with ⟨_, h⟩ | ⟨g, cap, _, h, _⟩
  · omega
  · exact ⟨g, cap, h⟩

theorem heap_lt {W : World} {k : Nat} {o : Obj} (h : W.heap[k]? = some o) : k < W.heap.size := (Array.getElem?_eq_some_iff.1 h).1

theorem cell_putObj {W : World} {k : Nat} {o o' : Obj} (hk : W.heap[k]? = some o') (ho : o'.isCells = false) {a : Addr} {v : Value} (h : W.cell? a = some v) : (W.putObj k o).cell? a = some v := by
  by_cases e : a.block = k
  · subst e
    unfold World.cell? at h
    rw [hk] at h
    cases o' <;> simp_all [Obj.isCells]
  · rw [World.cell?_of_block (w := W) (World.putObj_heap_other e)]; exact h

theorem row_putObj {M : Nat → Prop} {W : World} {v : Value} {n : Nat} {cs : List Value} (h : Row M W v n cs) {k : Nat} {o o' : Obj} (hk : W.heap[k]? = some o') (ho : o'.isCells = false) : Row M (W.putObj k o) v n cs := by
  rcases h with h | ⟨b, off, cap, hv, hn, hc, hb, hm, hcell⟩
  · exact .inl h
  · exact .inr ⟨b, off, cap, hv, hn, hc, by simpa using hb, hm, fun j u hu => cell_putObj hk ho (hcell j u hu)⟩
theorem slB_putObj {M : Nat → Prop} {W : World} {v : Value} {bs : Bytes} (h : SlB M W v bs) {k : Nat} {o o' : Obj} (hk : W.heap[k]? = some o') (ho : o'.isCells = false) : SlB M (W.putObj k o) v bs := row_putObj h hk ho

theorem slBB_putObj {M : Nat → Prop} {W : World} {v : Value} {rs : List Bytes} (h : SlBB M W v rs) {k : Nat} {o o' : Obj} (hk : W.heap[k]? = some o') (ho : o'.isCells = false) : SlBB M (W.putObj k o) v rs := by
  obtain ⟨vs, hl, hr, he⟩ := h
  exact ⟨vs, hl, row_putObj hr hk ho, fun i u bs a b => slB_putObj (he i u bs a b) hk ho⟩

theorem owns_putObj {W : World} {base e size n : Nat} {v : Value} {cs : List Value} (h : W.ownsRow base e size v n cs) {k : Nat} {o o' : Obj} (hk : W.heap[k]? = some o') (ho : o'.isCells = false) : (W.putObj k o).ownsRow base e size v n cs := by
  refine ⟨h.1, ?_⟩
  rcases h.2 with h | ⟨g, cap, cur, hv, hg, hh, r⟩
  · exact .inl h
  · refine .inr ⟨g, cap, cur, hv, hg, ?_, r⟩
    rw [World.putObj_heap_other (fun e => by subst e; rw [hk] at hh; cases hh; simp [Obj.isCells] at ho)]
    exact hh

/-- What holds between two rounds of Split's loop: the two boxes, the slices that have come. -/
def SplitJ (B : Nat) (w : World) (pre : List (Bytes × Nat)) (W : World) : Prop :=
  ∃ v vs, W.heap[B]? = some (.cells #[v] 23 (0, 0)) ∧ W.heap[B + 1]? = some (.cells #[.int .i64 (lastEnd 0 pre : Nat)] 3 (0, 0)) ∧ vs.length = pre.length ∧
    W.ownsRow (B + 3) 30 1 v pre.length vs ∧ (∀ (i : Nat) (u : Value) (p : Bytes × Nat), vs[i]? = some u → pre[i]? = some p → SlB (fun k => k < B + 3 ∨ some k = v.ownBlock) W u p.1) ∧ Below B w W ∧ B + 3 ≤ W.heap.size

theorem SplitJ.below {B : Nat} {w : World} {pre : List (Bytes × Nat)} {W0 W1 : World} (h : SplitJ B w pre W0) (hb : Below W0.heap.size W0 W1) : SplitJ B w pre W1 := by
  obtain ⟨v, vs, h1, h2, h3, h4, h5, h8, h9⟩ := h
  exact ⟨v, vs, (hb.block _ (heap_lt h1)).trans h1, (hb.block _ (heap_lt h2)).trans h2, h3, owns_below h4 hb, fun i u p a b => (h5 i u p a b).below hb, h8.trans (hb.mono (Nat.le_of_lt (heap_lt h1))), Nat.le_trans h9 hb.size⟩

theorem SplitJ.put {B : Nat} {w : World} {pre : List (Bytes × Nat)} {W : World} (h : SplitJ B w pre W) {k : Nat} {o : Obj} (hB : B + 3 ≤ k) (hk : ∃ o', W.heap[k]? = some o' ∧ o'.isCells = false) : SplitJ B w pre (W.putObj k o) := by
  obtain ⟨v, vs, h1, h2, h3, h4, h5, h8, h9⟩ := h
  obtain ⟨o', hk, ho⟩ := hk
  exact ⟨v, vs, (World.putObj_heap_other (by omega)).trans h1, (World.putObj_heap_other (by omega)).trans h2, h3, owns_putObj h4 hk ho, fun i u p a b => slB_putObj (h5 i u p a b) hk ho,
    h8.trans ⟨rfl, rfl, rfl, by simp, fun i hi => World.putObj_heap_other (by omega)⟩, by simpa using h9⟩

theorem splitJ_start (w : World) (a : Option Addr) (n cap : Nat) :
    SplitJ w.heap.size w [] (((w.alloc (.cells #[.slice none 0 0] 23)).alloc (.cells #[.int .i64 0] 3)).alloc (.cells #[.slice a n cap] 30)) := by
  have g : ∀ (W : World) (o : Obj), (W.alloc o).heap = W.heap.push o := fun _ _ => rfl
  refine ⟨.slice none 0 0, [], ?_, ?_, rfl, World.ownsRow_nil _ _ _ _, fun i u p h => by simp at h, ?_, by simp⟩
  · simp only [g, Array.getElem?_push, Array.size_push]
    rw [if_neg (by omega), if_neg (by omega), if_pos trivial]
  · simp only [g, Array.getElem?_push, Array.size_push]
    rw [if_neg (by omega), if_pos trivial]
    rfl
  · exact (((Below.refl _ w).alloc (Nat.le_refl _) _).alloc (by simp) _).alloc (by simp; omega) _


/-- The statement of a range over a function, for an iterator whose contract is told over whatever invariant of the caller's: the law of this text alone, over the kit's 'wpIn_rangeFunc'. No round leaves the loop. -/
theorem wpIn_range_x {P : Program} {n : Nat} {g : Operand} {ps : Array Tmp} {assign body : Code} {Q : Exit → Act → World → Prop} {a : Act} {w : World} (h2 : 2 ≤ n)
    {gf : Nat} {lb : Array Value} (hg : a.eval g = .func (.func gf) #[] lb) (eg : ∀ args w, (callFunc gf args).run P w = .ok (.enter gf args) w)
    {β : Type} (b0 b1 : β) (Step : β → β → Array Value → World → World → Prop) (Kp : World → World → Prop)
    (I : β → World → Prop)
    (hit : ∀ (l : Nat) (J : β → World → Prop) (W1 : World), Below w.heap.size w W1 → (∀ b W0 W1, J b W0 → Below W0.heap.size W0 W1 → J b W1) →
      (∀ b b' vals W0 W1, J b W0 → Below W0.heap.size W0 W1 → Step b b' vals W0 W1 → YieldAt Fence.wide (n - 1 - 1) P l vals W1 fun e' W' => e' = .returned (.bool true) ∧ J b' W' ∧ Kp W1 W') →
      J b0 W1 → CallsIn Fence.wide (n - 1) P gf (#[.func (.yield l) #[] #[]] ++ lb) W1 fun e W' => (∃ v, e = .returned v) ∧ J b1 W')
    (hsz : ∀ b b' vals W0 W1, Step b b' vals W0 W1 → vals.size = ps.size)
    (hI : ∀ b W0 W1, I b W0 → Below W0.heap.size W0 W1 → I b W1) (hIput : ∀ b W k o, w.heap.size ≤ k → (∃ o', W.heap[k]? = some o' ∧ o'.isCells = false) → I b W → I b (W.putObj k o))
    (hKt : ∀ {A B C : World}, Kp A B → Kp B C → Kp A C) (hKput : ∀ W k o, w.heap.size ≤ k → Kp W (W.putObj k o))
    (h0 : I b0 w)
    (hbody : ∀ (l : Nat) b b' vals W0 W1 o, I b W0 → Below W0.heap.size W0 W1 → Step b b' vals W0 W1 → w.heap.size ≤ l → (∃ o', W1.heap[l]? = some o' ∧ o'.isCells = false) →
      assign.wpIn (Fence.wide.inRound l) (n - 1 - 1) P (Exit.then (fun a₁ w₁ => w₁ = W1 ∧ body.wpIn (Fence.wide.inRound l) (n - 1 - 1) P (fun
        | .normal, _, W' => I b' W' ∧ Kp (W1.putObj l o) W' ∧ (∀ k o', w.heap.size ≤ k → (W1.putObj l o).heap[k]? = some o' → o'.isCells = false → W'.heap[k]? = some o')
        | _, _, _ => False) a₁ (W1.putObj l o)) (fun _ _ _ => False))
        { tmps := (ps.zip vals).foldl (fun t (p, v) => t.setIfInBounds p v) a.tmps, defers := [] } W1)
    (hdone : ∀ (D : Nat) (W : World), w.heap.size ≤ D → I b1 W → W.heap[D]? = some (.deferred (some [])) → Q .normal { a with defers := { target := .collected D, args := #[] } :: a.defers } W) :
    (Code.rangeFunc g ps assign body).wpIn Fence.wide n P Q a w := by
  refine wpIn_rangeFunc ?_
  intro fn _
  obtain ⟨rec, hrec⟩ : ∃ rec : LoopState → Option Code → Loop, rec = fun st pe => { state := st, pending := pe, fn, tmps := a.tmps, params := ps, assign, body, defers := w.heap.size } := ⟨_, rfl⟩
  obtain ⟨W1, hW1⟩ : ∃ W1, (w.alloc (.deferred (some []))).alloc (.loop (rec .ready none)) = W1 := ⟨_, rfl⟩
  have hb1 : Below w.heap.size w W1 := by rw [← hW1]; exact ((Below.refl _ w).alloc (Nat.le_refl _) _).alloc (by simp) _
  have hL1 : W1.heap[w.heap.size + 1]? = some (.loop (rec .ready none)) := by
    rw [← hW1]; have := heap_alloc_new (w.alloc (.deferred (some []))) (.loop (rec .ready none)); rwa [World.size_alloc] at this
  have hK1 : W1.heap[w.heap.size]? = some (.deferred (some [])) := by
    rw [← hW1]; exact (Below.heap_alloc _ _ _ (by simp)).trans (heap_alloc_new w _)
  have hI1 : I b0 W1 := hI _ _ _ h0 hb1
  refine ⟨w.heap.size + 1, [{ target := .collected w.heap.size, args := #[] }], W1, { target := .fn (.func gf) lb, args := #[.func (.yield (w.heap.size + 1)) #[] #[]] }, W1, gf,
    #[.func (.yield (w.heap.size + 1)) #[] #[]] ++ lb, W1, ?_, ?_, fun _ _ => trivial, ?_, fun _ => by omega, ?_⟩
  · rw [← hW1, hrec]; exact run_enterLoop_outer _ _ _ _ _
  · simp only [resolve, hg]
    simp [go_sem]
  · simp [invoke, go_sem, eg]
  · refine (hit (w.heap.size + 1) (fun b W => I b W ∧ W.heap[w.heap.size + 1]? = some (.loop (rec .ready none)) ∧ W.heap[w.heap.size]? = some (.deferred (some []))) W1 hb1
      (fun b A B hs hb => ⟨hI b A B hs.1 hb, (hb.block _ (heap_lt hs.2.1)).trans hs.2.1, (hb.block _ (heap_lt hs.2.2)).trans hs.2.2⟩) ?_ ⟨hI1, hL1, hK1⟩).mono ?_
    · rintro b b' vals A B ⟨hi, hl, hk⟩ hb hs
      have hlB : B.heap[w.heap.size + 1]? = some (.loop (rec .ready none)) := (hb.block _ (heap_lt hl)).trans hl
      have hkB : B.heap[w.heap.size]? = some (.deferred (some [])) := (hb.block _ (heap_lt hk)).trans hk
      have hy := run_yield (P := P) (args := vals) hlB (by rw [hrec]; exact hsz _ _ _ _ _ hs)
      rw [hrec] at hy
      have hlt := heap_lt hlB
      refine ⟨fn, _, assign, body, hy, roundIn_of_wpIn trivial ?_⟩
      refine wpIn_mono (hbody (w.heap.size + 1) b b' vals A B (.loop { rec .ready none with state := .busy }) hi hb hs (by omega) ⟨_, hlB, rfl⟩) ?_
      rintro e a₁ w₁ hp
      cases e with
      | normal =>
        obtain ⟨rfl, hp⟩ := hp
        refine ⟨_, run_beginRound hlB (by rw [hrec]), ?_⟩
        have hl2 : (w₁.putObj (w.heap.size + 1) (.loop { rec .ready none with state := .busy })).heap[w.heap.size + 1]? = some (.loop { rec .ready none with state := .busy }) := World.putObj_heap_same hlt
        have hk2 : (w₁.putObj (w.heap.size + 1) (.loop { rec .ready none with state := .busy })).heap[w.heap.size]? = some (.deferred (some [])) := (World.putObj_heap_other (by omega)).trans hkB
        refine wpIn_mono hp ?_
        rintro e a3 W3 hq
        cases e with
        | normal =>
          obtain ⟨hi3, hk3, hkeep⟩ := hq
          have hl3 := hkeep _ _ (by omega) hl2 rfl
          have hk4 := hkeep _ _ (Nat.le_refl _) hk2 rfl
          refine ⟨.bool true, W3.putObj (w.heap.size + 1) (.loop (rec .ready none)), ?_, rfl, ⟨hIput _ _ _ _ (by omega) ⟨_, hl3, rfl⟩ hi3, World.putObj_heap_same (heap_lt hl3), (World.putObj_heap_other (by omega)).trans hk4⟩, hKt (hKt (hKput _ _ _ (by omega)) hk3) (hKput _ _ _ (by omega))⟩
          have := run_endRound (P := P) none hl3
          rw [hrec] at this ⊢
          exact this
        | ret => exact hq.elim
        | exit id => exact hq.elim
        | goto t => exact hq.elim
        | panic c => exact hq.elim
        | outgrown => exact hq.elim
      | ret => exact hp.elim
      | exit id => exact hp.elim
      | goto t => exact hp.elim
      | panic c => exact hp.elim
      | outgrown => exact hp.elim
    · rintro e W2 ⟨⟨v, rfl⟩, hi, hl, hk⟩
      exact ⟨none, _, by have := run_endLoop (P := P) hl (by rw [hrec]; simp); rw [hrec] at this; exact this, hdone _ _ (Nat.le_refl _) (hIput _ _ _ _ (by omega) ⟨_, hl, rfl⟩ hi) ((World.putObj_heap_other (by omega)).trans hk)⟩

theorem iBB : (Tryz.prog.info? 30).map (fun i => (i.zero, i.size, i.bytes)) = some (some (.slice none 0 0), 1, 24) := by kernel_rfl

def SplitStep (N : Nat) (pre pre' : List (Bytes × Nat)) (vals : Array Value) (W0 W1 : World) : Prop :=
  ∃ (x : Bytes) (e : Nat) (u : Value), pre' = pre ++ [(x, e)] ∧ vals = #[.int .i64 (e : Nat), u] ∧ SlB (fun k => k < W0.heap.size) W1 u x ∧ pre.length < N
def SplitK (B : Nat) (W W' : World) : Prop := Below B W W' ∧ W'.heap[B + 2]? = W.heap[B + 2]?

set_option maxHeartbeats 1000000 in
set_option maxRecDepth 100000 in
theorem split_any (v : Value) (bs : Bytes) (w : World) (hv : SlB (fun _ => False) w v bs) (hlen : bs.length ≤ 35184372088832) :
    Calls Tryz.prog 70 #[v] w fun e w' => ∃ v', e = .returned (.tuple #[v', .int .i64 ((splitB bs).2 : Nat)]) ∧ SlBB (fun k => k < w.heap.size) w' v' (splitB bs).1 ∧ Below w.heap.size w w' := by
  obtain ⟨a, cap, rfl, hn, hcap⟩ := hv.shape
  refine (callsIn_wide (n := 4)).1 ?_
  have hf1 : Fence.wide.fn 134 := trivial
  have hc1 : ∀ w, CallsIn Fence.wide 3 Tryz.prog 134 #[.slice a bs.length cap] w fun e w' => e = .returned (.func (.func 164) #[] #[.pointer (some ⟨w.heap.size, 0, none⟩)]) ∧ w.alloc (.cells #[.slice a bs.length cap] 30) = w' := fun w => callsIn_wide.2 (all_any a bs.length cap w)
  refine callsIn_of_wp_marks Tryz.func70 rfl trivial ?_ rfl
  simp only [Tryz.ntmps70, List.size_toArray, List.length_cons, List.length_nil, Nat.reduceAdd, Nat.reduceSub, Array.replicate_succ, Array.replicate_zero, List.push_toArray, List.append_toArray, List.nil_append, List.cons_append]
  gi_wp2_with (first | (gi_at_call 134; refine (hc1 _).mono ?_; rintro e w1 ⟨rfl, rfl⟩))
  have hst := splitJ_start w a bs.length cap
  have hX := heap_alloc_new ((w.alloc (.cells #[.slice none 0 0] 23)).alloc (.cells #[.int .i64 0] 3)) (.cells #[.slice a bs.length cap] 30)
  have hsz : (((w.alloc (.cells #[.slice none 0 0] 23)).alloc (.cells #[.int .i64 0] 3)).alloc (.cells #[.slice a bs.length cap] 30)).heap.size = w.heap.size + 3 := by simp
  rw [show ((w.alloc (.cells #[.slice none 0 0] 23)).alloc (.cells #[.int .i64 0] 3)).heap.size = w.heap.size + 2 by simp] at hX
  generalize ((w.alloc (.cells #[.slice none 0 0] 23)).alloc (.cells #[.int .i64 0] 3)).alloc (.cells #[.slice a bs.length cap] 30) = W0 at hst hX hsz ⊢
  have hbW : Below w.heap.size w W0 := by obtain ⟨_, _, _, _, _, _, _, h, _⟩ := hst; exact h
  refine wpIn_range_x (by decide) (gf := 164) (lb := #[.pointer (some ⟨w.heap.size + 2, 0, none⟩)]) rfl (enters_of Tryz.func164 (by kernel_rfl) rfl) ([] : List (Bytes × Nat)) (endsB 0 bs) (SplitStep (endsB 0 bs).length) (SplitK w.heap.size) (SplitJ w.heap.size w) ?hit ?hsz (fun b A B => SplitJ.below) (fun b W k o hk h hi => SplitJ.put hi (by omega) h) ?hKt ?hKput hst ?body ?done
  case hsz =>
    rintro b b' vals A B ⟨x, e, u, _, rfl, _⟩
    rfl
  case hKt => exact fun h k => ⟨h.1.trans k.1, k.2.trans h.2⟩
  case hKput => exact fun W k o hk => ⟨⟨rfl, rfl, rfl, by simp, fun i hi => World.putObj_heap_other (by omega)⟩, World.putObj_heap_other (by omega)⟩
  case hit =>
    intro l J W1 hb1 hJs hY hJ0
    have hX1 := (hb1.block _ (heap_lt hX)).trans hX
    have hb2 := hbW.trans (hb1.mono (by omega))
    refine all1_in 3 l (w.heap.size + 2) w.heap.size (by decide) (.slice a bs.length cap) bs J (by omega) hJs (fun pre x e u A B hj hb hs hpl => ?_) W1 (cell_of_one hX1) ((hv.mono (M' := fun k => ¬ k < w.heap.size) (fun k hk hn => hn hk)).below hb2) hb2.size hJ0
    obtain ⟨fn, tmps, ac, bd, h1, h2⟩ := hY pre (pre ++ [(x, e)]) #[.int .i64 (e : Nat), u] A B hj hb ⟨x, e, u, rfl, rfl, hs, hpl⟩
    refine ⟨fn, tmps, ac, bd, h1, h2.mono ?_⟩
    rintro e' W' ⟨he, hj', hk⟩
    exact ⟨he, hj', hk.1, World.cell?_of_block hk.2⟩
  case body =>
    rintro l pre pre' vals A B o hi hb ⟨x, e, u, rfl, rfl, hs, hpl⟩ hl hlo
    have hiW := SplitJ.put (hi.below hb) (k := l) (o := o) (by omega) hlo
    obtain ⟨v0, vs0, p1, _, _, p4, _, _, p9⟩ := hi
    have q1 := (hb.block _ (heap_lt p1)).trans p1
    have hvlt : ∀ k, v0.ownBlock = some k → k < A.heap.size := fun k hk => (p4.lt k hk).2
    have hBA := heap_lt p1
    obtain ⟨v, vs, h1, h2, h3, h4, h5, h8, _⟩ := hiW
    obtain rfl : v0 = v := by
      rw [World.putObj_heap_other (by omega)] at h1
      have := q1.symm.trans h1
      simpa using this
    obtain ⟨o', hlo, ho'⟩ := hlo
    have hsW : SlB (fun k => k < w.heap.size + 3 ∨ some k = v0.ownBlock) (B.putObj l o) u x := slB_putObj (hs.mono (fun k _ hk => by
      rcases hk with hk | hk
      · omega
      · exact hvlt k hk.symm)) hlo ho'
    have hkeep : ∀ k o', w.heap.size ≤ k → (B.putObj l o).heap[k]? = some o' → o'.isCells = false → (B.putObj l o).heap[k]? = some o' := fun k o' _ h _ => h
    have hWs : w.heap.size + 3 ≤ (B.putObj l o).heap.size := by rw [World.putObj_size]; have := heap_lt hlo; omega
    generalize B.putObj l o = W at h1 h2 h4 h5 h8 hsW hkeep hWs ⊢
    obtain ⟨au, cu, rfl, _, _⟩ := hsW.shape
    have hcnt := endsB_count bs 0
    have hpl2 : pre.length + 1 ≤ 4398046511105 := by omega
    have c1 := cell_of_one h1
    have f1 := free_of_one h1
    have c2 := cell_of_one h2
    have f2 := free_of_one h2
    have hszl : w.heap.size + 3 ≤ W0.heap.size := by omega
    clear hcnt hs hb q1 p1 p4 p9 hvlt hbW hst hsz hX hv
    gi_wp2
    refine ⟨trivial, ?_⟩
    gi_wp2_with (gi_at_builtin; refine wpListIn_app_at tyBB rfl (s := .tmp 12) (x := .tmp 14) rfl (v := v0) rfl rfl (h4.alloc _) (Row.lit1 W (.slice au x.length cu) 30) rfl ?c2 ?c3 ?c4 ?c5 ?_)
    case c2 => intro u hu; simp at hu; subst hu; rfl
    case c3 => unfold maxLen; omega
    case c4 => omega
    case c5 => simp; omega
    intro v' w1 ho1 hg1 hat1
    obtain ⟨g', cap', rfl⟩ := owns_succ ho1
    have hne : ∀ k, k < w.heap.size + 3 → some k ≠ v0.ownBlock := fun k hk e => by have := (h4.lt k e.symm).1; omega
    have r1 := (hg1.block w.heap.size (by simp; omega) (hne _ (by omega))).trans ((Below.heap_alloc W _ _ (by omega)).trans h1)
    have r2 := (hg1.block (w.heap.size + 1) (by simp; omega) (hne _ (by omega))).trans ((Below.heap_alloc W _ _ (by omega)).trans h2)
    have d1 := cell_of_one r1
    have g1 := free_of_one r1
    have d2 := cell_of_one r2
    have g2 := free_of_one r2
    gi_wp2
    have hsz1 : W.heap.size ≤ w1.heap.size := by have := hg1.size; simp at this; omega
    have hF : Fr (fun k => k = w.heap.size ∨ k = w.heap.size + 1 ∨ some k = v0.ownBlock) W ((w1.setCell ⟨w.heap.size, 0, none⟩ (.slice (some ⟨g', 0, none⟩) (pre.length + 1) cap')).setCell ⟨w.heap.size + 1, 0, none⟩ (.int .i64 (e : Nat))) := by
      refine ⟨hg1.os, hg1.tape, hg1.output, by simpa [World.setCell] using hsz1, fun k hk hn => ?_⟩
      rw [heap_setCell_other _ _ _ _ (fun h => hn (.inr (.inl h))), heap_setCell_other _ _ _ _ (fun h => hn (.inl h)), hg1.block k (by simp; omega) (fun h => hn (.inr (.inr h)))]
      exact Below.heap_alloc W _ _ hk
    have hgat : some g' = v0.ownBlock ∨ W.heap.size < g' := by
      rcases hat1 with h | h
      · exact .inl h
      · simp [Value.ownBlock] at h; right; omega
    have hnew : ∀ k, k < W.heap.size → (k < w.heap.size + 3 ∨ some k = some g') → k < w.heap.size + 3 ∨ some k = v0.ownBlock := fun k hk h => by
      rcases h with h | h
      · exact .inl h
      · rcases hgat with h' | h'
        · exact .inr (h.trans h')
        · cases h; omega
    have hFM : ∀ k, (k = w.heap.size ∨ k = w.heap.size + 1 ∨ some k = v0.ownBlock) → k < w.heap.size + 3 ∨ some k = v0.ownBlock := fun k h => by
      rcases h with h | h | h
      · left; omega
      · left; omega
      · exact .inr h
    refine ⟨⟨.slice (some ⟨g', 0, none⟩) (pre.length + 1) cap', vs ++ [.slice au x.length cu], ?_, ?_, by simp [h3], ?_, ?_, ?_, ?_⟩, ⟨?_, ?_⟩, ?_⟩
    · rw [heap_setCell_other _ _ _ _ (by simp)]; exact one_setCell r1
    · rw [lastEnd_snoc]
      exact one_setCell ((heap_setCell_other _ _ _ _ (by simp)).trans r2)
    · rw [List.length_append]
      exact ownsRow_setCell_below (ownsRow_setCell_below ho1 (by simp) _) (by simp) _
    · intro i u p hu hp
      by_cases hilt : i < vs.length
      · rw [List.getElem?_append_left hilt] at hu
        rw [List.getElem?_append_left (by omega)] at hp
        exact (h5 i u p hu hp).fr hF hFM hnew
      · rw [List.getElem?_append_right (by omega)] at hu
        rw [List.getElem?_append_right (by omega)] at hp
        match hi' : i - vs.length, hu with
        | 0, hu =>
          rw [show i - pre.length = 0 by omega] at hp
          simp at hu hp
          subst hu hp
          exact hsW.fr hF hFM hnew
        | i + 1, hu => simp at hu
    · exact h8.trans (hF.below (by omega) (fun k hk h => by
        rcases h with h | h | h
        · omega
        · omega
        · have := (h4.lt k h.symm).1; omega))
    · have := hF.size; omega
    · exact hF.below (by omega) (fun k hk h => by
        rcases h with h | h | h
        · omega
        · omega
        · have := (h4.lt k h.symm).1; omega)
    · exact hF.block _ (by omega) (fun h => by
        rcases h with h | h | h
        · omega
        · omega
        · have := (h4.lt _ h.symm).1; omega)
    · intro k o'' hk hko hoc
      rw [hF.block k (heap_lt hko) (fun h => ?_)]
      · exact hko
      · rcases h with h | h | h
        · omega
        · omega
        · rcases h4.2 with ⟨h', _⟩ | ⟨g, c, cur, h', _, hgg, _⟩
          · rw [h'] at h; simp [Value.ownBlock] at h
          · rw [h'] at h; simp [Value.ownBlock] at h
            subst h
            rw [hgg] at hko
            cases hko
            simp [Obj.isCells] at hoc
  case done =>
    intro D W hD hi hK
    obtain ⟨v, vs, h1, h2, h3, h4, h5, h8, h9⟩ := hi
    have c1 := cell_of_one h1
    have c2 := cell_of_one h2
    have hfst := endsB_fst bs.length bs 0 (Nat.le_refl _)
    have hlast := endsB_last bs.length bs 0 (Nat.le_refl _)
    rw [Nat.zero_add] at hlast
    have HL : Hid (lastEnd 0 (endsB 0 bs) = (splitB bs).2) := hlast
    have hres : SlBB (fun k => k < w.heap.size) W v (splitB bs).1 := by
      rw [← hfst]
      refine ⟨vs, by rw [List.length_map]; exact h3, ?_, fun i u p hu hp => ?_⟩
      · rw [List.length_map]
        exact (Row.of_owns h4).mono (fun k _ hk => by omega)
      · rw [List.getElem?_map] at hp
        obtain ⟨q, hq, rfl⟩ := Option.map_eq_some_iff.1 hp
        exact (h5 i u q hu hq).mono (fun k _ hk => .inl (by omega))
    generalize lastEnd 0 (endsB 0 bs) = N at c2 HL
    clear h1 h2 h4 h5 hfst hlast hv hst hX
    gi_wp2
    gi_region
    gi_wp2
    have hrd : SlBB (fun k => k < w.heap.size) W.drew v (splitB bs).1 := hres.below ⟨rfl, rfl, rfl, Nat.le_refl _, fun _ _ => rfl⟩
    refine ⟨by simp, .inl ⟨_, _, rfl, run_takeDeferred hK, ?_⟩⟩
    refine ⟨_, results_tmp2 rfl _ _ _, v, ?_, slBB_putObj hrd (o' := .deferred (some [])) hK rfl, h8.trans ⟨rfl, rfl, rfl, by simp, fun k hk => World.putObj_heap_other (by omega)⟩⟩
    show Ending.returned (.tuple #[v, .int .i64 (N : Nat)]) = _
    rw [HL.out]

end Go.Proofs.YtepceidajmedeaaGreatDoor

namespace Go.Proofs.YtepceidajmedeaaGreatDoor
open Go.RowKit CW

def recOf (D : DiskA) (z : Int) : List Bytes := (splitB (readA D (nameB z.toNat)).1).1
def recordsA (D : DiskA) : List Bytes := (segsB (D.files.map FileA.name)).flatMap (recOf D)

/-- A slice of slices of bytes, of the call's own. -/
def OwnBB (B : Nat) (w : World) (v : Value) (rs : List Bytes) : Prop :=
  ∃ vs : List Value, vs.length = rs.length ∧ w.ownsRow B 30 1 v rs.length vs ∧ ∀ (i : Nat) (u : Value) (bs : Bytes), vs[i]? = some u → rs[i]? = some bs → SlB (fun k => k < B ∨ some k = v.ownBlock) w u bs

theorem OwnBB.nil {B : Nat} {w : World} : OwnBB B w (.slice none 0 0) [] := ⟨[], rfl, World.ownsRow_nil _ _ _ _, fun i u bs h => by simp at h⟩
theorem OwnBB.below {B : Nat} {w w' : World} {v : Value} {rs : List Bytes} (h : OwnBB B w v rs) (hb : Below w.heap.size w w') : OwnBB B w' v rs := by
  obtain ⟨vs, h1, h2, h3⟩ := h
  exact ⟨vs, h1, owns_below h2 hb, fun i u bs hu hs => (h3 i u bs hu hs).below hb⟩
theorem OwnBB.sl {B : Nat} {M : Nat → Prop} {w : World} {v : Value} {rs : List Bytes} (h : OwnBB B w v rs) (hM : ∀ k, M k → k < B) : SlBB M w v rs := by
  obtain ⟨vs, h1, h2, h3⟩ := h
  exact ⟨vs, h1, (Row.of_owns h2).mono (fun k _ hk => hM k hk), fun i u bs hu hs => (h3 i u bs hu hs).mono (fun k _ hk => .inl (hM k hk))⟩

theorem one_of_slbb {M : Nat → Prop} {w : World} {rs : List Bytes} {vs : List Value} (hl : vs.length = rs.length) (h3 : ∀ (i : Nat) (u : Value) (bs : Bytes), vs[i]? = some u → rs[i]? = some bs → SlB M w u bs) : ∀ u ∈ vs, u.oneCell' = true := by
  intro u hu
  obtain ⟨i, hi, rfl⟩ := List.mem_iff_getElem.1 hu
  obtain ⟨a, cap, e, _⟩ := (h3 i vs[i] (rs[i]'(by omega)) (List.getElem?_eq_getElem hi) (List.getElem?_eq_getElem (by omega))).shape
  rw [e]
  rfl

theorem OwnBB.app {B : Nat} {w w' : World} {rs xs : List Bytes} {vs us : List Value} {v v' : Value} (hl : vs.length = rs.length) (h3 : ∀ (i : Nat) (u : Value) (bs : Bytes), vs[i]? = some u → rs[i]? = some bs → SlB (fun k => k < B ∨ some k = v.ownBlock) w u bs)
    (hl2 : us.length = xs.length) (h4 : ∀ (i : Nat) (u : Value) (bs : Bytes), us[i]? = some u → xs[i]? = some bs → SlB (fun k => k < B ∨ some k = v.ownBlock) w u bs)
    (ho : w'.ownsRow B 30 1 v' (rs.length + xs.length) (vs ++ us)) (hg : w.grownBy w' v.ownBlock) (hat : v'.ownBlock = v.ownBlock ∨ v'.ownBlock = some w.heap.size) : OwnBB B w' v' (rs ++ xs) := by
  have hf : Fr (fun k => some k = v.ownBlock) w w' := ⟨hg.os, hg.tape, hg.output, hg.size, fun k hk hn => hg.block k hk hn⟩
  have hsub : ∀ (u : Value) (bs : Bytes), SlB (fun k => k < B ∨ some k = v.ownBlock) w u bs → SlB (fun k => k < B ∨ some k = v'.ownBlock) w' u bs := fun u bs h => h.fr hf (fun k hk => .inr hk) (fun k hk hk' => by
    rcases hk' with hk' | hk'
    · exact .inl hk'
    · rcases hat with e | e
      · exact .inr (by rw [← e]; exact hk')
      · rw [e] at hk'
        have := Option.some.inj hk'
        omega)
  refine ⟨vs ++ us, by simp [hl, hl2], by rw [List.length_append]; exact ho, fun i u bs hu hs => ?_⟩
  rcases Nat.lt_or_ge i vs.length with hi | hi
  · rw [List.getElem?_append_left hi] at hu
    rw [List.getElem?_append_left (by omega)] at hs
    exact hsub _ _ (h3 i u bs hu hs)
  · rw [List.getElem?_append_right hi] at hu
    rw [List.getElem?_append_right (by omega)] at hs
    rw [← hl] at hs
    exact hsub _ _ (h4 _ u bs hu hs)

theorem flatMap_take_succ (D : DiskA) (zs : List Int) (k : Nat) (h : k < zs.length) : (zs.take (k + 1)).flatMap (recOf D) = (zs.take k).flatMap (recOf D) ++ recOf D zs[k] := by
  rw [List.take_succ_eq_append_getElem h, List.flatMap_append]
  simp
theorem flatMap_take_le (D : DiskA) (zs : List Int) (k : Nat) : ((zs.take k).flatMap (recOf D)).length ≤ (zs.flatMap (recOf D)).length := by
  conv => rhs; rw [← List.take_append_drop k zs, List.flatMap_append, List.length_append]
  omega

set_option maxHeartbeats 2000000 in
set_option maxRecDepth 100000 in
theorem records_any {S : Nat → Prop} (D : DiskA) (d : Nat) (w : World) (h : DiskAt S w d D) (hd : D.down = false) (hl : D.files.length ≤ 1048576) (hu : usedF D.files ≤ 1099511627776) (hz : ∀ z ∈ segsB (D.files.map FileA.name), 1 ≤ z ∧ z < 100) (hc : (recordsA D).length ≤ 1048576) :
    Calls Tryz.prog 20 #[.pointer (some ⟨d, 0, none⟩)] w fun e w' => ∃ v, e = .returned v ∧ OwnBB w.heap.size w' v (recordsA D) ∧ Below w.heap.size w w' := by
  have hls := disklist_any w h hl
  have hnm : D.files.map (fun f => stV f.name) = (D.files.map FileA.name).map stV := by rw [List.map_map]; rfl
  rw [hnm] at hls
  have hsg := fun (v : Value) (W : World) (hv : SlS (fun _ => False) W v (D.files.map FileA.name)) => seglist_any v (D.files.map FileA.name) W hv (by rw [List.length_map]; omega)
  have HLEN : Hid (D.files.length = (D.files.map FileA.name).length) := by show _ = _; rw [List.length_map]
  have hrd : ∀ z, ∀ W, Below w.heap.size w W → Calls Tryz.prog 56 #[.pointer (some ⟨d, 0, none⟩), .string ⟨(nameB z).toArray⟩] W fun e w' => ∃ v, e = .returned (.tuple #[v, .int .i64 (readA D (nameB z)).2]) ∧ Row (fun k => k < W.heap.size) w' v (readA D (nameB z)).1.length ((readA D (nameB z)).1.map encB) ∧ Below W.heap.size W w' := fun z W hW => read_any D d W (h.below hW) (nameB z) (by rw [nameB_length]; omega) hd hu
  have hrl : ∀ z, (readA D (nameB z)).1.length ≤ 1099511627776 := fun z => by
    unfold readA
    rcases hx : findF D.files (nameB z) with _ | i
    · simp
    · obtain ⟨hi, _⟩ := findK_some hx
      simp only [Option.bind_some, List.getElem?_eq_getElem hi]
      exact Nat.le_trans (usedF_mem (List.getElem_mem hi)) hu
  have hrA : recordsA D = (segsB (D.files.map FileA.name)).flatMap (recOf D) := rfl
  generalize segsB (D.files.map FileA.name) = zs at *
  generalize D.files.map FileA.name = ss at *
  clear hnm h hl hu hd
  go_enter Tryz.func20, Tryz.ntmps20
  go_wp2_with (first
    | (go_at_call 25; refine hls.mono ?_; rintro e w1 ⟨v1, rfl, ho1, hB1⟩; have hs1 := hsg v1 w1 (by have := (Row.of_owns ho1).mono (M' := fun _ => False) (fun _ _ h => h.elim); rw [HLEN.out] at this; exact this))
    | (go_at_call 24; refine hs1.mono ?_; rintro e w2 ⟨v2, rfl, ho2, hB2⟩; have hrz := (Row.of_owns ho2).open; obtain ⟨az, cz, rfl, hz1, hz2, hz3, hz4⟩ := hrz))
  have hB12 : Below w.heap.size w w2 := hB1.trans (hB2.mono hB1.size)
  go_loopw [3, 16] (fun out i wr => ∃ k : Nat, k ≤ zs.length ∧ i = .int .i64 k ∧ OwnBB w2.heap.size wr out ((zs.take k).flatMap (recOf D)) ∧ Hid (Below w2.heap.size w2 wr)) (fun _ i _ => zs.length - (intOf i).toNat)
  case atStart => exact ⟨0, by omega, rfl, OwnBB.nil, Below.refl _ _⟩
  case round =>
    obtain ⟨k, hk, rfl, hown, HB⟩ := hrel
    have hBr := HB.out
    have hBw : Below w.heap.size w wr := hB12.trans (hBr.mono hB12.size)
    by_cases hlt : k < zs.length
    · obtain ⟨bz, oz, rfl, hbz, _, hcz⟩ := hz4 (by omega)
      have c1 := (hBr.cell (p := ⟨bz, oz + k, none⟩) hbz).trans (hcz k (.int .i64 zs[k]) (by simp [ints, hlt]))
      have hzk := hz zs[k] (List.getElem_mem hlt)
      have HT : Hid ((zs.take (k + 1)).flatMap (recOf D) = (zs.take k).flatMap (recOf D) ++ recOf D zs[k]) := flatMap_take_succ D zs k hlt
      have hle := flatMap_take_le D zs (k + 1)
      rw [HT.out, List.length_append, ← hrA] at hle
      clear hcz hz4
      generalize (zs.take k).flatMap (recOf D) = rs at *
      obtain ⟨n, hn⟩ : ∃ n : Nat, zs[k] = (n : Int) := ⟨zs[k].toNat, by omega⟩
      rw [hn] at c1 hzk HT hle
      clear hn
      have hrec : recOf D (n : Int) = (splitB (readA D (nameB n)).1).1 := rfl
      rw [hrec] at HT hle
      have hn1 := name_any n wr (by omega) (by omega)
      have hrd1 := fun W hW => hrd n W hW
      have hrl1 := hrl n
      have i1 : (k : Int) < (zs.length : Int) := by omega
      clear hrd hrl hrec
      generalize nameB n = nb at *
      generalize readA D nb = RR at *
      obtain ⟨vs, hvl, hvo, hve⟩ := hown
      go_wp2_with (first
        | (go_at_call 55; refine hn1.mono ?_; rintro e w3 ⟨rfl, hB3⟩; have hBw3 := hBw.trans (hB3.mono hBw.size))
        | (go_at_call 56; refine (hrd1 _ hBw3).mono ?_; rintro e w4 ⟨v4, rfl, hr4, hB4⟩; have hsp := split_any v4 RR.1 w4 (Row.mono hr4 (fun _ _ h => h.elim)) (by omega))
        | (go_at_call 70; refine hsp.mono ?_; rintro e w5 ⟨v5, rfl, hs5, hB5⟩; obtain ⟨us, hul, hur, hue⟩ := hs5; have hB35 : Below wr.heap.size wr w5 := (hB3.trans (hB4.mono hB3.size)).trans (hB5.mono (Nat.le_trans hB3.size hB4.size)); have hvo5 := owns_below hvo hB35; have hBr5 := hBr.trans (hB35.mono hBr.size))
        | (at_builtin; refine wpList_app_at tyBB rfl rfl rfl rfl hvo5 hur (by simp; omega) (one_of_slbb hul hue) (by unfold maxLen; omega) (by omega) hBr5.size ?_; intro v6 w6 ho6 hg6 hat6))
      have hve5 : ∀ (i : Nat) (u : Value) (bs : Bytes), vs[i]? = some u → rs[i]? = some bs → SlB _ w5 u bs := fun i u bs h1 h2 => (hve i u bs h1 h2).below hB35
      have hfin := OwnBB.app hvl hve5 hul (fun i u bs h1 h2 => (hue i u bs h1 h2).mono (fun q hq hq' => by
        have hz4' := hB4.size
        have hz3' := hB3.size
        have hzr' := hBr.size
        rcases hq' with hq' | hq'
        · omega
        · rcases hvo.2 with ⟨hv, _⟩ | ⟨g, cap, cur, hv, _, hh, _⟩
          · rw [hv] at hq'; cases hq'
          · rw [hv] at hq'
            have e : q = g := Option.some.inj hq'
            have := (Array.getElem?_eq_some_iff.1 hh).1
            omega)) ho6 hg6 hat6
      have hB6 : Below w2.heap.size w2 w6 := hBr5.trans (below_grown hvo5 hg6 hBr5.size)
      go_roundw
      case rel => exact ⟨k + 1, by omega, by go_num, by rw [HT.out]; exact hfin, hB6⟩
      case measure => simp [intOf]; omega
    · have htk : zs.take k = zs := List.take_of_length_le (by omega)
      rw [htk, ← hrA] at hown
      go_wp2
      go_ret
      obtain ⟨vs, h1, h2, h3⟩ := hown
      exact ⟨_, rfl, ⟨vs, h1, owns_base h2 hB12.size, fun i u bs hu hs => (h3 i u bs hu hs).mono (fun q _ hq => hq.imp (fun h => Nat.lt_of_lt_of_le h hB12.size) id)⟩, hBw⟩

end Go.Proofs.YtepceidajmedeaaGreatDoor

namespace Go.Proofs.YtepceidajmedeaaGreatDoor
open CW Go

theorem pair_numsB (ss : List Bytes) (h : ss.Pairwise (fun a b => ltB a b = true)) : (numsB ss).Pairwise (· < ·) := by
  unfold numsB
  rw [List.pairwise_filterMap]
  refine h.imp ?_
  intro a b hab x hx y hy
  rw [Option.map_eq_some_iff] at hx hy
  obtain ⟨n, hn, rfl⟩ := hx
  obtain ⟨m, hm, rfl⟩ := hy
  have := numB_lt hn hm hab
  show (n : Int) < (m : Int)
  omega

theorem sort_pair (zs : List Int) (h : zs.Pairwise (· < ·)) : (zs.mergeSort fun x y => decide (x ≤ y)) = zs :=
  List.mergeSort_of_pairwise (h.imp fun hab => by simp; omega)

theorem compact_pair (zs : List Int) (h : zs.Pairwise (· < ·)) : Lib.compact zs = zs := by
  refine Lib.compact_all zs (fun j hj => ?_)
  unfold Lib.keeps
  rcases Nat.eq_zero_or_pos j with h0 | h0
  · simp [h0]
  · have h1 : zs[j - 1] < zs[j] := List.pairwise_iff_getElem.1 h (j - 1) j (by omega) hj (by omega)
    have e1 : zs.toArray[j]! = zs[j] := by rw [getElem!_pos zs.toArray j (by simpa using hj)]; simp
    have e2 : zs.toArray[j - 1]! = zs[j - 1] := by rw [getElem!_pos zs.toArray (j - 1) (by simp; omega)]; simp
    rw [e1, e2]
    simp only [decide_eq_true_eq]
    right
    omega

theorem segsB_sorted (ss : List Bytes) (h : ss.Pairwise (fun a b => ltB a b = true)) : segsB ss = numsB ss := by
  have hp := pair_numsB ss h
  unfold segsB
  rw [sort_pair _ hp, compact_pair _ hp]

theorem insU_end (zs : List Int) (n : Int) (h : ∀ z ∈ zs, z < n) : insU zs n = zs ++ [n] := by
  have hn : n ∉ zs := fun hm => by have := h n hm; omega
  unfold insU
  rw [if_neg hn, (takeWhile_all (fun z hz => by simpa using h z hz)).1, (takeWhile_all (fun z hz => by simpa using h z hz)).2]

theorem list7_sorted (ss : List Bytes) (h : ss.Pairwise (fun a b => ltB a b = true)) : list7 ss = numsB ss := by
  have hp := pair_numsB ss h
  suffices H : ∀ k, k ≤ ss.length → list7 (ss.take k) = numsB (ss.take k) by
    have := H ss.length (Nat.le_refl _)
    rwa [List.take_length] at this
  intro k
  induction k with
  | zero => intro _; rfl
  | succ k ih =>
    intro hk
    rw [list7_take ss k hk, numsB_take ss k hk, ih (by omega)]
    have hpt : (numsB (ss.take (k + 1))).Pairwise (· < ·) := pair_numsB _ (h.sublist (List.take_sublist _ _))
    rw [numsB_take ss k hk] at hpt
    generalize numB ss[k] = o at *
    cases o with
    | none => exact (List.append_nil _).symm
    | some n =>
      refine insU_end _ _ (fun z hz => ?_)
      exact (List.pairwise_append.1 hpt).2.2 z hz n (by simp)

theorem segs_list7 (ss : List Bytes) (h : ss.Pairwise (fun a b => ltB a b = true)) : list7 ss = segsB ss := (list7_sorted ss h).trans (segsB_sorted ss h).symm

/-- The numbers from k on. -/
def upI (k : Nat) : Nat → List Int
  | 0 => []
  | n + 1 => (k : Int) :: upI (k + 1) n
theorem upI_ge (n : Nat) : ∀ k, ∀ z ∈ upI k n, (k : Int) ≤ z ∧ z < (k : Int) + n := by
  induction n with
  | zero => intro k z hz; cases hz
  | succ n ih =>
    intro k z hz
    rcases List.mem_cons.1 hz with rfl | hz
    · omega
    · have := ih (k + 1) z hz; omega
theorem upI_len (n : Nat) : ∀ k, (upI k n).length = n := by
  induction n with
  | zero => intro k; rfl
  | succ n ih => intro k; show (upI (k + 1) n).length + 1 = _; rw [ih]
theorem upI_pair (n : Nat) : ∀ k, (upI k n).Pairwise (· < ·) := by
  induction n with
  | zero => intro k; exact .nil
  | succ n ih =>
    intro k
    refine List.pairwise_cons.2 ⟨fun z hz => ?_, ih (k + 1)⟩
    have := upI_ge n (k + 1) z hz
    omega
theorem gap_upI (n : Nat) : ∀ k, gapS (upI k n) = 0 := by
  induction n with
  | zero => intro k; rfl
  | succ n ih =>
    intro k
    match n, ih with
    | 0, _ => rfl
    | n + 1, ih =>
      show gapS ((k : Int) :: ((k + 1 : Nat) : Int) :: upI (k + 1 + 1) n) = 0
      rw [gapS, if_neg (by omega)]
      exact ih (k + 1)

theorem gapB_upI (k n : Nat) : gapB (upI k n) = 0 := by
  unfold gapB
  rw [sort_pair _ (upI_pair n k), gap_upI]

end Go.Proofs.YtepceidajmedeaaGreatDoor

namespace Go.Proofs.YtepceidajmedeaaGreatDoor
open CW Go

/-- Names and bytes of segments. -/
def segF (k : Nat) : List (List Bytes) → List (Bytes × Bytes)
  | [] => []
  | g :: gs => (nameB k, framesB g) :: segF (k + 1) gs
abbrev nbF (f : FileA) : Bytes × Bytes := (f.name, f.b)

theorem segF_append (gs hs : List (List Bytes)) : ∀ k, segF k (gs ++ hs) = segF k gs ++ segF (k + gs.length) hs := by
  induction gs with
  | nil => intro k; rfl
  | cons g gs ih =>
    intro k
    show _ :: segF (k + 1) (gs ++ hs) = _ :: (segF (k + 1) gs ++ _)
    rw [ih (k + 1), List.length_cons, show k + 1 + gs.length = k + (gs.length + 1) by omega]
theorem segF_len (gs : List (List Bytes)) : ∀ k, (segF k gs).length = gs.length := by
  induction gs with
  | nil => intro k; rfl
  | cons g gs ih => intro k; show (segF (k + 1) gs).length + 1 = _; rw [ih, List.length_cons]
theorem segF_mem (gs : List (List Bytes)) : ∀ k, ∀ p ∈ segF k gs, ∃ i, k ≤ i ∧ i < k + gs.length ∧ p.1 = nameB i := by
  induction gs with
  | nil => intro k p hp; cases hp
  | cons g gs ih =>
    intro k p hp
    rcases List.mem_cons.1 hp with rfl | hp
    · exact ⟨k, Nat.le_refl _, by simp, rfl⟩
    · obtain ⟨i, h1, h2, h3⟩ := ih (k + 1) p hp
      exact ⟨i, by omega, by rw [List.length_cons]; omega, h3⟩
theorem segF_pair (gs : List (List Bytes)) : ∀ k, k + gs.length ≤ 99999999 → (segF k gs).Pairwise (fun p q => ltB p.1 q.1 = true) := by
  induction gs with
  | nil => intro k _; exact .nil
  | cons g gs ih =>
    intro k hk
    rw [List.length_cons] at hk
    refine List.pairwise_cons.2 ⟨fun p hp => ?_, ih (k + 1) (by omega)⟩
    obtain ⟨i, h1, h2, h3⟩ := segF_mem gs (k + 1) p hp
    rw [h3]
    exact nameB_lt (by omega) (by omega)

theorem putK_end {α : Type} {key : α → Bytes} {l : List α} {x : α} (h : ∀ p ∈ l, ltB (key p) (key x) = true) : putK key l x = l ++ [x] := by
  rw [putK, withoutK_of_not (fun p hp => ltB_ne (h p hp)), insK, (takeWhile_all h).1, (takeWhile_all h).2]
theorem putK_last {α : Type} {key : α → Bytes} {l : List α} {y x : α} (h : ∀ p ∈ l, ltB (key p) (key y) = true) (e : key x = key y) : putK key (l ++ [y]) x = l ++ [x] := by
  have w1 : withoutK key (l ++ [y]) (key x) = l := by
    rw [withoutK, List.filter_append, show List.filter (fun p => !(key p == key x)) l = l from withoutK_of_not (fun p hp => by rw [e]; exact ltB_ne (h p hp))]
    simp [e]
  have ha : ∀ p ∈ l, ltB (key p) (key x) = true := fun p hp => by rw [e]; exact h p hp
  rw [putK, w1, insK, (takeWhile_all ha).1, (takeWhile_all ha).2]
theorem findK_last {α : Type} {key : α → Bytes} {l : List α} {y : α} (h : ∀ p ∈ l, ltB (key p) (key y) = true) : (findK key (l ++ [y]) (key y)).bind (fun i => (l ++ [y])[i]?) = some y := by
  have : findK key (l ++ [y]) (key y) = some l.length := by
    rw [findK, List.findIdx?_eq_some_iff_getElem]
    refine ⟨by simp, by simp, fun j hj => ?_⟩
    rw [List.getElem_append_left hj]
    have := ltB_ne (h l[j] (List.getElem_mem hj))
    simpa using this
  rw [this]
  simp
theorem findK_end {α : Type} {key : α → Bytes} {l : List α} {n : Bytes} (h : ∀ p ∈ l, ltB (key p) n = true) : (findK key l n).bind (fun i => l[i]?) = none := by
  rw [findK_none.2 (fun p hp => ltB_ne (h p hp))]
  rfl

/-- What a log holds: the records rs, in the groups gs and then g. -/
structure Holds (most : Int) (L : LogA) (rs : List Bytes) (gs : List (List Bytes)) (g : List Bytes) (fs : List FileA) (f : FileA) : Prop where
  files : L.D.files = fs ++ [f]
  front : fs.map nbF = segF 1 gs
  name : f.name = nameB L.n
  bytes : f.b = framesB g
  num : L.n = gs.length + 1
  all : gs.flatten ++ g = rs
  size : L.size = f.b.length
  plan : L.D.plan = 0
  down : L.D.down = false
  room : L.D.room = 100000
  mst : L.most = most
  full : ∀ x ∈ gs, x ≠ []
  wait : L.waiting ≤ rs.length
  small : ∀ r ∈ rs, r.length ≤ 1048576

theorem flatten_len_ge (gs : List (List Bytes)) (h : ∀ x ∈ gs, x ≠ []) : gs.length ≤ gs.flatten.length := by
  induction gs with
  | nil => simp
  | cons g gs ih =>
    have h1 := h g (by simp)
    have h2 := ih (fun x hx => h x (by simp [hx]))
    have h3 : 0 < g.length := List.length_pos_iff.2 h1
    rw [List.flatten_cons, List.length_append, List.length_cons]
    omega

theorem Holds.segs {most : Int} {L : LogA} {rs : List Bytes} {gs : List (List Bytes)} {g : List Bytes} {fs : List FileA} {f : FileA} (h : Holds most L rs gs g fs f) : L.D.files.map nbF = segF 1 (gs ++ [g]) := by
  rw [h.files, List.map_append, h.front, segF_append, Nat.add_comm 1 gs.length, ← h.num]
  show _ ++ [nbF f] = _ ++ [(nameB L.n, framesB g)]
  rw [← h.name, ← h.bytes]

theorem Holds.num_le {most : Int} {L : LogA} {rs : List Bytes} {gs : List (List Bytes)} {g : List Bytes} {fs : List FileA} {f : FileA} (h : Holds most L rs gs g fs f) : L.n ≤ rs.length + 1 := by
  have h1 := flatten_len_ge gs h.full
  have h2 := congrArg List.length h.all
  rw [List.length_append] at h2
  have := h.num
  omega

theorem Holds.before {most : Int} {L : LogA} {rs : List Bytes} {gs : List (List Bytes)} {g : List Bytes} {fs : List FileA} {f : FileA} (h : Holds most L rs gs g fs f) (hn : L.n ≤ 99999999) : ∀ p ∈ fs, ltB p.name f.name = true := by
  intro p hp
  have h1 : nbF p ∈ segF 1 gs := by rw [← h.front]; exact List.mem_map_of_mem hp
  obtain ⟨i, h2, h3, h4⟩ := segF_mem gs 1 _ h1
  have h5 : p.name = nameB i := h4
  have := h.num
  rw [h5, h.name]
  exact nameB_lt (by omega) hn

theorem usedF_append (a b : List FileA) : usedF (a ++ b) = usedF a + usedF b := by simp [usedF]
theorem segF_used (gs : List (List Bytes)) : ∀ k, ((segF k gs).map (fun p => p.2.length)).sum = (gs.flatten.map (fun r => r.length + 8)).sum := by
  induction gs with
  | nil => intro k; rfl
  | cons g gs ih =>
    intro k
    show (framesB g).length + ((segF (k + 1) gs).map (fun p => p.2.length)).sum = _
    rw [ih, framesB_len, List.flatten_cons, List.map_append, List.sum_append]
theorem usedF_nb (fs : List FileA) : usedF fs = ((fs.map nbF).map (fun p => p.2.length)).sum := by rw [usedF, List.map_map]; rfl

def costB (rs : List Bytes) : Nat := (rs.map (fun r => r.length + 8)).sum
theorem Holds.used {most : Int} {L : LogA} {rs : List Bytes} {gs : List (List Bytes)} {g : List Bytes} {fs : List FileA} {f : FileA} (h : Holds most L rs gs g fs f) : usedF L.D.files = costB rs := by
  rw [usedF_nb, h.segs, segF_used, costB, List.flatten_append, ← h.all]
  simp

theorem Holds.len {most : Int} {L : LogA} {rs : List Bytes} {gs : List (List Bytes)} {g : List Bytes} {fs : List FileA} {f : FileA} (h : Holds most L rs gs g fs f) : L.D.files.length = L.n := by
  have := congrArg List.length h.segs
  rw [List.length_map, segF_len, List.length_append] at this
  rw [this, h.num]
  rfl

theorem Holds.size_le {most : Int} {L : LogA} {rs : List Bytes} {gs : List (List Bytes)} {g : List Bytes} {fs : List FileA} {f : FileA} (h : Holds most L rs gs g fs f) : L.size ≤ costB rs := by
  have h1 := h.used
  rw [h.files, usedF_append] at h1
  have h2 : usedF [f] = f.b.length := by simp [usedF]
  have := h.size
  omega

theorem Holds.ok {most : Int} {L : LogA} {rs : List Bytes} {gs : List (List Bytes)} {g : List Bytes} {fs : List FileA} {f : FileA} (h : Holds most L rs gs g fs f) (h1 : rs.length ≤ 90) (h2 : costB rs ≤ 100000) : OkL L := by
  have a1 := h.num_le
  have a2 := h.num
  have a3 := h.used
  have a4 := h.len
  have a5 := h.size_le
  have a6 := h.wait
  exact ⟨by omega, by omega, by rw [h.plan]; omega, by rw [h.plan]; omega, by omega, by omega, by omega, by omega⟩

theorem holds_start (most : Int) : Holds most (startL 100000 most) [] [] [] [] ⟨nameB 1, [], 0⟩ := by
  have e : startL 100000 most = ⟨⟨100000, [⟨nameB 1, [], 0⟩], 0, false⟩, most, 1, 0, 0⟩ := by
    unfold startL
    rw [show doA (newA 100000) .create (nameB 1) = (⟨100000, [⟨nameB 1, [], 0⟩], 0, false⟩, 0) by kernel_rfl]
  rw [e]
  exact ⟨rfl, rfl, rfl, rfl, rfl, rfl, rfl, rfl, rfl, rfl, rfl, (fun x hx => by cases hx), Nat.le_refl _, (fun r hr => by cases hr)⟩

theorem doA_calm {D : DiskA} (h1 : D.down = false) (h2 : D.plan = 0) (o : OpA) (n : Bytes) : doA D o n = bodyA D o n := by
  have e : ({ D with plan := planA D.plan } : DiskA) = D := by
    obtain ⟨r, fs, p, d⟩ := D
    simp only at h2
    subst h2
    rfl
  unfold doA
  rw [if_neg (by rw [h1]; decide), if_neg (by rw [h2]; decide), e]

/-- A file that lies last, made durable. -/
theorem do_sync_last {D : DiskA} {fs : List FileA} {f : FileA} {n : Nat} (h1 : D.down = false) (h2 : D.plan = 0) (hf : D.files = fs ++ [f]) (hn : f.name = nameB n) (hb : ∀ p ∈ fs, ltB p.name f.name = true) :
    doA D .sync (nameB n) = ({ D with files := fs ++ [⟨f.name, f.b, f.b.length⟩] }, 0) := by
  rw [doA_calm h1 h2]
  unfold bodyA
  rw [if_neg (by rw [nameB_named]; decide), hf, ← hn, findK_last hb]
  simp only
  rw [show putF (fs ++ [f]) ⟨f.name, f.b, f.b.length⟩ = fs ++ [⟨f.name, f.b, f.b.length⟩] from putK_last hb rfl]

theorem do_app_last {D : DiskA} {fs : List FileA} {f : FileA} {n : Nat} (b : Bytes) (h1 : D.down = false) (h2 : D.plan = 0) (hf : D.files = fs ++ [f]) (hn : f.name = nameB n) (hb : ∀ p ∈ fs, ltB p.name f.name = true) (hr : ((usedF D.files + b.length : Nat) : Int) ≤ D.room) :
    doA D (.append b) (nameB n) = ({ D with files := fs ++ [⟨f.name, f.b ++ b, f.dur⟩] }, 0) := by
  rw [doA_calm h1 h2]
  unfold bodyA
  rw [if_neg (by rw [nameB_named]; decide)]
  have hf' := hf
  rw [hf] at hr
  rw [hf, ← hn, findK_last hb]
  simp only
  rw [if_neg (by omega), show putF (fs ++ [f]) ⟨f.name, f.b ++ b, f.dur⟩ = fs ++ [⟨f.name, f.b ++ b, f.dur⟩] from putK_last hb rfl]

theorem do_create_end {D : DiskA} {n : Nat} (h1 : D.down = false) (h2 : D.plan = 0) (hb : ∀ p ∈ D.files, ltB p.name (nameB n) = true) :
    doA D .create (nameB n) = ({ D with files := D.files ++ [⟨nameB n, [], 0⟩] }, 0) := by
  rw [doA_calm h1 h2]
  unfold bodyA
  rw [if_neg (by rw [nameB_named]; decide), findK_end hb]
  simp only
  rw [show putF D.files ⟨nameB n, [], 0⟩ = D.files ++ [⟨nameB n, [], 0⟩] from putK_end hb]

theorem Holds.sync {most : Int} {L : LogA} {rs : List Bytes} {gs : List (List Bytes)} {g : List Bytes} {fs : List FileA} {f : FileA} (h : Holds most L rs gs g fs f) (hn : L.n ≤ 99999998) :
    doA L.D .sync (nameB L.n) = ({ L.D with files := fs ++ [⟨f.name, f.b, f.b.length⟩] }, 0) := do_sync_last h.down h.plan h.files h.name (h.before (by omega))

theorem Holds.rot {most : Int} {L : LogA} {rs : List Bytes} {gs : List (List Bytes)} {g : List Bytes} {fs : List FileA} {f : FileA} (h : Holds most L rs gs g fs f) (hn : L.n ≤ 99999998) (hs : 0 < L.size) :
    (rotA L).2 = 0 ∧ Holds most (rotA L).1 rs (gs ++ [g]) [] (fs ++ [⟨f.name, f.b, f.b.length⟩]) ⟨nameB (L.n + 1), [], 0⟩ ∧ (rotA L).1.n = L.n + 1 := by
  have hsy := h.sync hn
  have hb := h.before (by omega)
  have hcr : doA { L.D with files := fs ++ [⟨f.name, f.b, f.b.length⟩] } .create (nameB (L.n + 1)) = ({ L.D with files := (fs ++ [⟨f.name, f.b, f.b.length⟩]) ++ [⟨nameB (L.n + 1), [], 0⟩] }, 0) := by
    refine do_create_end (D := { L.D with files := fs ++ [⟨f.name, f.b, f.b.length⟩] }) h.down h.plan (fun p hp => ?_)
    have hlast : ltB f.name (nameB (L.n + 1)) = true := by rw [h.name]; exact nameB_lt (by omega) (by omega)
    rcases List.mem_append.1 hp with hp | hp
    · exact ltB_trans (hb p hp) hlast
    · rw [List.mem_singleton.1 hp]; exact hlast
  have he : rotA L = (⟨{ L.D with files := (fs ++ [⟨f.name, f.b, f.b.length⟩]) ++ [⟨nameB (L.n + 1), [], 0⟩] }, L.most, L.n + 1, 0, 0⟩, 0) := by
    unfold rotA
    simp only [hsy, ne_eq, not_true_eq_false, if_false, hcr]
  rw [he]
  refine ⟨rfl, ⟨rfl, ?_, rfl, rfl, ?_, ?_, rfl, h.plan, h.down, h.room, h.mst, ?_, Nat.zero_le _, h.small⟩, rfl⟩
  · rw [List.map_append, h.front, segF_append, Nat.add_comm 1 gs.length, ← h.num]
    show _ ++ [(f.name, f.b)] = _ ++ [(nameB L.n, framesB g)]
    rw [h.name, h.bytes]
  · show L.n + 1 = _
    rw [List.length_append, h.num]
    rfl
  · rw [List.flatten_append, ← h.all]
    simp
  · intro x hx
    rcases List.mem_append.1 hx with hx | hx
    · exact h.full x hx
    · rw [List.mem_singleton.1 hx]
      rintro rfl
      have := h.size
      rw [h.bytes] at this
      have e : framesB [] = [] := rfl
      rw [e] at this
      simp at this
      omega

theorem Holds.app {most : Int} {L : LogA} {rs : List Bytes} {gs : List (List Bytes)} {g : List Bytes} {fs : List FileA} {f : FileA} (h : Holds most L rs gs g fs f) (hn : L.n ≤ 99999998) (x : Bytes) (hx : x.length ≤ 1048576) (hr : costB rs + (x.length + 8) ≤ 100000) :
    (appA L (frameB x)).2 = 0 ∧ Holds most (appA L (frameB x)).1 (rs ++ [x]) gs (g ++ [x]) fs ⟨f.name, f.b ++ frameB x, f.dur⟩ := by
  have hu := h.used
  have hap := do_app_last (D := L.D) (n := L.n) (frameB x) h.down h.plan h.files h.name (h.before (by omega)) (by rw [hu, frameB_length, h.room]; omega)
  have he : appA L (frameB x) = (⟨{ L.D with files := fs ++ [⟨f.name, f.b ++ frameB x, f.dur⟩] }, L.most, L.n, L.size + (frameB x).length, L.waiting + 1⟩, 0) := by
    unfold appA
    simp only [hap, ne_eq, not_true_eq_false, if_false]
  rw [he]
  refine ⟨rfl, ⟨rfl, h.front, h.name, ?_, h.num, ?_, ?_, h.plan, h.down, h.room, h.mst, h.full, ?_, ?_⟩⟩
  · show f.b ++ frameB x = _
    rw [framesB_append, framesB_one, h.bytes]
  · rw [← h.all, List.append_assoc]
  · show L.size + _ = (f.b ++ frameB x).length
    rw [h.size, List.length_append]
  · show L.waiting + 1 ≤ _
    have := h.wait
    rw [List.length_append, List.length_singleton]
    omega
  · intro r hr
    rcases List.mem_append.1 hr with hr | hr
    · exact h.small r hr
    · rw [List.mem_singleton.1 hr]; exact hx

/-- One record is put. -/
theorem Holds.put {most : Int} {L : LogA} {rs : List Bytes} {gs : List (List Bytes)} {g : List Bytes} {fs : List FileA} {f : FileA} (h : Holds most L rs gs g fs f) (hn : L.n ≤ 99999990) (x : Bytes) (hx : x.length ≤ 1048576) (hr : costB rs + (x.length + 8) ≤ 100000) :
    ∃ gs' g' fs' f', Holds most (putA L x).1 (if (putA L x).2 = 0 then rs ++ [x] else rs) gs' g' fs' f' := by
  unfold putA
  by_cases h0 : x.length = 0
  · rw [if_pos h0]
    exact ⟨gs, g, fs, f, h⟩
  · rw [if_neg h0]
    have hmk : makeB x = some (frameB x) := by unfold makeB; rw [if_pos hx]
    rw [hmk]
    simp only
    by_cases hm : L.most < ((frameB x).length : Int)
    · rw [if_pos hm]
      exact ⟨gs, g, fs, f, h⟩
    · rw [if_neg hm]
      by_cases hq : 0 < L.size ∧ L.most < (L.size : Int) + ((frameB x).length : Int)
      · rw [if_pos hq]
        obtain ⟨h1, h2, h3⟩ := h.rot (by omega) hq.1
        rw [if_neg (by rw [h1]; decide)]
        obtain ⟨h4, h5⟩ := h2.app (by rw [h3]; omega) x hx hr
        rw [h4, if_pos rfl]
        exact ⟨_, _, _, _, h5⟩
      · rw [if_neg hq]
        obtain ⟨h4, h5⟩ := h.app (by omega) x hx hr
        rw [h4, if_pos rfl]
        exact ⟨_, _, _, _, h5⟩

theorem numsB_segF (gs : List (List Bytes)) : ∀ k, 1 ≤ k → k + gs.length ≤ 99999999 → numsB ((segF k gs).map (·.1)) = upI k gs.length := by
  induction gs with
  | nil => intro k _ _; rfl
  | cons g gs ih =>
    intro k h1 h2
    rw [List.length_cons] at h2
    show numsB (nameB k :: (segF (k + 1) gs).map (·.1)) = (k : Int) :: upI (k + 1) gs.length
    rw [← ih (k + 1) (by omega) (by omega)]
    unfold numsB
    rw [List.filterMap_cons, numB_nameB k h1 (by omega)]
    rfl

theorem find_sorted (fs : List FileA) (h : (fs.map nbF).Pairwise (fun p q => ltB p.1 q.1 = true)) (f : FileA) (hf : f ∈ fs) : (findF fs f.name).bind (fun i => fs[i]?) = some f := by
  induction fs with
  | nil => cases hf
  | cons a fs ih =>
    rw [List.map_cons, List.pairwise_cons] at h
    rcases List.mem_cons.1 hf with rfl | hf
    · have : findF (f :: fs) f.name = some 0 := by show List.findIdx? _ _ = _; simp [List.findIdx?_cons]
      rw [this]; rfl
    · have hlt : ltB a.name f.name = true := h.1 (nbF f) (List.mem_map_of_mem hf)
      have hne : (a.name == f.name) = false := beq_eq_false_iff_ne.2 (ltB_ne hlt)
      have hi := ih h.2 hf
      have : findF (a :: fs) f.name = (findF fs f.name).map (· + 1) := by
        show List.findIdx? _ _ = _
        rw [List.findIdx?_cons]
        simp only [hne]
        rfl
      rw [this]
      rcases hq : findF fs f.name with _ | i
      · rw [hq] at hi; cases hi
      · rw [hq] at hi; exact hi

theorem recOf_all (D : DiskA) (gs : List (List Bytes)) (h : D.files.map nbF = segF 1 gs) (hl : gs.length ≤ 99999990) (hs : ∀ g ∈ gs, ∀ r ∈ g, r.length ≤ 1048576) : ∀ (hs' : List (List Bytes)) (k : Nat), (∃ pre, segF 1 gs = pre ++ segF k hs') → (∀ g ∈ hs', g ∈ gs) → (upI k hs'.length).flatMap (recOf D) = hs'.flatten := by
  have hpw : (D.files.map nbF).Pairwise (fun p q => ltB p.1 q.1 = true) := by rw [h]; exact segF_pair gs 1 (by omega)
  intro hs'
  induction hs' with
  | nil => intro k _ _; rfl
  | cons g hs' ih =>
    intro k hp hm
    obtain ⟨pre, hp⟩ := hp
    have h1 : (nameB k, framesB g) ∈ D.files.map nbF := by rw [h, hp]; simp [segF]
    obtain ⟨f, hf, he⟩ := List.mem_map.1 h1
    have he1 : f.name = nameB k := congrArg Prod.fst he
    have he2 : f.b = framesB g := congrArg Prod.snd he
    have hrd : (readA D (nameB k)).1 = framesB g := by
      have := find_sorted D.files hpw f hf
      unfold readA
      rw [he1] at this
      rw [this]
      exact he2
    have hrec : recOf D (k : Int) = g := by
      unfold recOf
      rw [Int.toNat_natCast, hrd, splitB_frames g (hs g (hm g (by simp)))]
    show recOf D (k : Int) ++ (upI (k + 1) hs'.length).flatMap (recOf D) = g ++ hs'.flatten
    rw [hrec, ih (k + 1) ⟨pre ++ [(nameB k, framesB g)], by rw [hp]; simp [segF]⟩ (fun q hq => hm q (by simp [hq]))]

theorem Holds.names {most : Int} {L : LogA} {rs : List Bytes} {gs : List (List Bytes)} {g : List Bytes} {fs : List FileA} {f : FileA} (h : Holds most L rs gs g fs f) (hn : L.n ≤ 99999990) :
    (L.D.files.map FileA.name).Pairwise (fun a b => ltB a b = true) ∧ numsB (L.D.files.map FileA.name) = upI 1 L.n := by
  have hs := h.segs
  have hl : gs.length + 1 = L.n := h.num.symm
  have hnm : L.D.files.map FileA.name = (segF 1 (gs ++ [g])).map (·.1) := by rw [← hs, List.map_map]; rfl
  have hlen : (gs ++ [g]).length = L.n := by rw [List.length_append, ← hl]; rfl
  rw [hnm]
  refine ⟨?_, ?_⟩
  · rw [List.pairwise_map]
    exact segF_pair _ 1 (by omega)
  · rw [numsB_segF _ 1 (Nat.le_refl _) (by omega), hlen]

theorem Holds.records {most : Int} {L : LogA} {rs : List Bytes} {gs : List (List Bytes)} {g : List Bytes} {fs : List FileA} {f : FileA} (h : Holds most L rs gs g fs f) (hn : L.n ≤ 99999980) :
    recordsA L.D = rs ∧ segsB (L.D.files.map FileA.name) = upI 1 L.n ∧ list7 (L.D.files.map FileA.name) = upI 1 L.n := by
  obtain ⟨h1, h2⟩ := h.names (by omega)
  have h3 : segsB (L.D.files.map FileA.name) = upI 1 L.n := (segsB_sorted _ h1).trans h2
  have hlen : (gs ++ [g]).length = L.n := by rw [List.length_append, h.num]; rfl
  refine ⟨?_, h3, (list7_sorted _ h1).trans h2⟩
  unfold recordsA
  rw [h3, ← hlen]
  rw [recOf_all L.D (gs ++ [g]) h.segs (by omega) (fun q hq r hr => h.small r (by
    rw [← h.all]
    have : r ∈ (gs ++ [g]).flatten := List.mem_flatten.2 ⟨q, hq, hr⟩
    simpa using this)) (gs ++ [g]) 1 ⟨[], rfl⟩ (fun _ h => h)]
  rw [← h.all]
  simp

end Go.Proofs.YtepceidajmedeaaGreatDoor

namespace Go.Proofs.YtepceidajmedeaaGreatDoor
open Go.RowKit CW

set_option maxHeartbeats 400000 in
theorem make6_any (v : Value) (r : Bytes) (w : World) (hv : SlB (fun _ => False) w v r) (hl : r.length ≤ 9223372036854775807) :
    Calls Tryz.prog 67 #[v] w fun e w' => ∃ v' ok, e = .returned (.tuple #[v', .bool ok]) ∧ Below w.heap.size w w' ∧
      (makeB r = none ∧ v' = .slice none 0 0 ∧ ok = false ∨ makeB r = some (frameB r) ∧ ok = true ∧ SlB (fun k => k < w.heap.size) w' v' (frameB r)) := by
  obtain ⟨a, cap, rfl, hn, hcap⟩ := hv.shape
  by_cases hlong : 1048576 < r.length
  · have hm : makeB r = none := by unfold makeB; rw [if_neg (by omega)]
    have hd : (1048576 : Int) < (r.length : Int) := by omega
    go_enter Tryz.func67, Tryz.ntmps67
    go_wp2
    go_ret2
    exact ⟨_, _, rfl, Below.refl _ _, .inl ⟨hm, rfl, rfl⟩⟩
  · have hm : makeB r = some (frameB r) := by unfold makeB; rw [if_pos (by omega)]
    have hd : ¬ (1048576 : Int) < (r.length : Int) := by omega
    have hd' : r.length ≤ 1048576 := by omega
    clear hlong
    go_enter Tryz.func67, Tryz.ntmps67
    go_wp2_with (first
      | (go_at_call 133; refine (little_any _ _ (by omega)).mono ?_; rintro e w1 ⟨v1, rfl, ho1, hb1⟩)
      | (at_builtin; refine wpList_app tyB rfl rfl rfl rfl ho1 (hv.below hb1) (by simp) (bytes_one _) (by unfold maxLen; simp [le4]; omega) (by simp [le4]; omega) hb1.size ?_; intro v2 w2 ho2 hg2; have hb2 := hb1.trans (below_grown ho1 hg2 hb1.size); have hs2 : SlB (fun k => k < w.heap.size) w2 v2 (le4 r.length ++ r) := SlB.of_owns (by rw [List.length_append, List.map_append]; exact ho2))
      | (go_at_call 132; refine (seal1_any _ _ _ hs2.any (by rw [List.length_append]; simp [le4]; omega)).mono ?_; rintro e w3 ⟨v3, rfl, hs3, hb3⟩))
    go_ret2
    exact ⟨_, _, rfl, hb2.trans (hb3.mono hb2.size), .inr ⟨hm, rfl, hs3.mono (fun k _ hk => Nat.lt_of_lt_of_le hk hb2.size)⟩⟩

set_option maxHeartbeats 1000000 in
set_option maxRecDepth 100000 in
theorem next6_any (M : Nat → Prop) (v : Value) (bs : Bytes) (w : World) (hv : SlB M w v bs) (hl : bs.length ≤ 70368744177660) :
    Calls Tryz.prog 136 #[v] w fun e w' => ∃ v' n, e = .returned (.tuple #[v', .int .i64 (n : Nat)]) ∧ Below w.heap.size w w' ∧
      (nextB bs = none ∧ v' = .slice none 0 0 ∧ n = 0 ∨ ∃ x, nextB bs = some (x, n) ∧ SlB M w' v' x) := by
  obtain ⟨a, cap, rfl, hn, hcap⟩ := hv.shape
  by_cases h8 : bs.length < 8
  · have hno : nextB bs = none := by unfold nextB; rw [if_pos h8]
    have hd : (bs.length : Int) < 8 := by omega
    go_enter Tryz.func136, Tryz.ntmps136
    go_wp2
    go_ret2
    exact ⟨_, 0, rfl, Below.refl _ _, .inl ⟨hno, rfl, rfl⟩⟩
  · obtain ⟨b, off, cap', h, _, _, hb, _, hcell⟩ := hv.open (by omega)
    cases h
    have c0 := hcell 0 (by omega)
    have c1 := hcell 1 (by omega)
    have c2 := hcell 2 (by omega)
    have c3 := hcell 3 (by omega)
    have hnum : num4 bs = bs[0].toNat + 256 * bs[1].toNat + 65536 * bs[2].toNat + 16777216 * bs[3].toNat := by
      unfold num4
      simp [List.getD, show 0 < bs.length by omega, show 1 < bs.length by omega, show 2 < bs.length by omega, show 3 < bs.length by omega]
    have l0 := bs[0].toNat_lt
    have l1 := bs[1].toNat_lt
    have l2 := bs[2].toNat_lt
    have l3 := bs[3].toNat_lt
    generalize bs[0].toNat = b0 at *
    generalize bs[1].toNat = b1 at *
    generalize bs[2].toNat = b2 at *
    generalize bs[3].toNat = b3 at *
    rw [Nat.add_zero] at c0
    have HN : Hid (((num4 bs : Nat) : Int) = (b0 : Int) + (b1 : Int) * 256 + (b2 : Int) * 65536 + (b3 : Int) * 16777216) := by show ((num4 bs : Nat) : Int) = _; omega
    have hnb : nextB bs = if 1048576 < num4 bs ∨ bs.length < num4 bs + 8 then none else (openB (bs.take (num4 bs + 8))).map (fun x => (x.drop 4, num4 bs + 8)) := by
      rw [nextB, if_neg h8]
    have HX : Hid (nextB bs = if 1048576 < num4 bs ∨ bs.length < num4 bs + 8 then none else (openB (bs.take (num4 bs + 8))).map (fun x => (x.drop 4, num4 bs + 8))) := hnb
    clear hnb hcell hnum
    generalize num4 bs = N at HN HX
    have hd : ¬ (bs.length : Int) < 8 := by omega
    have i0 : (0 : Int) < (bs.length : Int) := by omega
    have i1 : (1 : Int) < (bs.length : Int) := by omega
    have i2 : (2 : Int) < (bs.length : Int) := by omega
    have i3 : (3 : Int) < (bs.length : Int) := by omega
    go_enter Tryz.func136, Tryz.ntmps136
    go_wp2
    go_quiet (fail)
    rw [← HN.out]
    have hb0 : Below w.heap.size w (w.drewN nq) := below_drewN' (Below.refl _ _) _
    have hv0 := hv.below hb0
    generalize w.drewN nq = w0 at hb0 hv0 ⊢
    have hN0 : (0 : Int) ≤ (N : Int) := by omega
    clear c0 c1 c2 c3 HN
    by_cases hA : 1048576 < N
    · have hA' : (1048576 : Int) < (N : Int) := by omega
      go_wp2
      go_ret2
      exact ⟨_, 0, rfl, hb0, .inl ⟨by rw [HX.out, if_pos (.inl hA)], rfl, rfl⟩⟩
    · have hA' : ¬ (1048576 : Int) < (N : Int) := by omega
      by_cases hB : bs.length < N + 8
      · have hB' : (bs.length : Int) - 8 < (N : Int) := by omega
        go_wp2
        go_ret2
        exact ⟨_, 0, rfl, hb0, .inl ⟨by rw [HX.out, if_pos (.inr hB)], rfl, rfl⟩⟩
      · have hB' : ¬ (bs.length : Int) - 8 < (N : Int) := by omega
        have HO : Hid (nextB bs = (openB (bs.take (N + 8))).map (fun x => (x.drop 4, N + 8))) := by
          show nextB bs = _
          rw [HX.out, if_neg (by omega)]
        have htk := hv0.take (N + 8) (by omega)
        have HLK : Hid ((bs.take (N + 8)).length = N + 8) := by show (bs.take (N + 8)).length = N + 8; rw [List.length_take]; omega
        have g1 : ((N + 8 : Nat) : Int) ≤ (cap : Int) := by omega
        have g2 : ((N : Int) + 8).toNat = N + 8 := by omega
        clear HX hA hB hv hv0
        generalize bs.take (N + 8) = T at *
        go_wp2_with (go_at_call 166; refine (open1_any M _ T _ htk).mono ?_; rintro e w2 ⟨v2, ok, rfl, hb2, hres⟩; have hb3 := hb0.trans (hb2.mono hb0.size); clear hb2; rcases hres with ⟨ho, rfl, rfl⟩ | ⟨x, ho, rfl, hs2⟩; all_goals (have HOO : Hid (openB T = _) := ho); all_goals (try (have hxl := openB_length ho; rw [HLK.out] at hxl; obtain ⟨b2, off2, cap2, rfl, hn2, hc2, _, _, _⟩ := hs2.open (by omega); have hx4 : ((4 : Nat) : Int) ≤ (x.length : Int) := by omega)); all_goals clear ho)
        · go_ret2
          exact ⟨_, 0, rfl, hb3, .inl ⟨by rw [HO.out, HOO.out]; rfl, rfl, rfl⟩⟩
        · obtain rfl : cap2 = 4 := by assumption
          go_ret2
          exact ⟨_, N + 8, rfl, hb3, .inr ⟨x.drop 4, by rw [HO.out, HOO.out]; rfl, hs2.dropCap 4 (by omega) rfl⟩⟩
        · go_ret2
          exact ⟨_, N + 8, rfl, hb3, .inr ⟨x.drop 4, by rw [HO.out, HOO.out]; rfl, hs2.drop 4 (by omega)⟩⟩

set_option maxHeartbeats 1000000 in
set_option maxRecDepth 100000 in
theorem split6_any (M : Nat → Prop) (v : Value) (bs : Bytes) (w : World) (hM : ∀ k, M k → k < w.heap.size) (hv : SlB M w v bs) (hl : bs.length ≤ 35184372088832) :
    Calls Tryz.prog 74 #[v] w fun e w' => ∃ v', e = .returned (.tuple #[v', .int .i64 ((splitB bs).2 : Nat)]) ∧ SlBB M w' v' (splitB bs).1 ∧ Below w.heap.size w w' := by
  obtain ⟨a, cap, rfl, hn, hcap⟩ := hv.shape
  have hv' : SlB (fun k => M k ∨ w.heap.size ≤ k) w (.slice a bs.length cap) bs := hv.mono (fun k hk h => h.elim id (fun h => by omega))
  have hcnt := endsB_count bs 0
  go_enter Tryz.func74, Tryz.ntmps74
  go_wp2
  go_loopw [4, 5] (fun s i wr => ∃ (pre : List (Bytes × Nat)) (at_ : Nat) (vs : List Value), i = .int .i64 at_ ∧ at_ ≤ bs.length ∧ at_ = lastEnd 0 pre ∧ endsB 0 bs = pre ++ endsB at_ (bs.drop at_) ∧ vs.length = pre.length ∧
      wr.ownsRow w.heap.size 30 1 s pre.length vs ∧ (∀ (i : Nat) (u : Value) (p : Bytes × Nat), vs[i]? = some u → pre[i]? = some p → SlB (fun k => M k ∨ w.heap.size ≤ k) wr u p.1) ∧ Below w.heap.size w wr) (fun _ i _ => bs.length - (intOf i).toNat)
  case atStart => exact ⟨[], 0, [], rfl, by omega, rfl, rfl, rfl, World.ownsRow_nil _ _ _ _, fun i u p h => by simp at h, Below.refl _ _⟩
  case round =>
    obtain ⟨pre, at_, vs, rfl, hat, hlast, hends, hvs, hown, hel, hb⟩ := hrel
    have HLA : Hid (at_ = lastEnd 0 pre) := hlast
    have HEN : Hid (endsB 0 bs = pre ++ endsB at_ (bs.drop at_)) := hends
    have HVS : Hid (vs.length = pre.length) := hvs
    clear hlast hends hvs
    have hvr := hv'.below hb
    have hld : (bs.drop at_).length ≤ 70368744177660 := by rw [List.length_drop]; omega
    obtain ⟨a', c', hsl, hd⟩ := run_from_any Tryz.underlying30 (by kernel_rfl) hvr at_ hat
    go_wp2_with (first | (refine wpList_from rfl (x := .tmp 9) (lo := .tmp 10) rfl rfl rfl hsl ?_) | (go_at_call 136; refine (next6_any _ _ _ _ hd hld).mono ?_; rintro e w1 ⟨v1, n1, rfl, hb1, hres⟩; rcases hres with ⟨hno, rfl, rfl⟩ | ⟨x, hso, hsx⟩; all_goals (try (have HNO : Hid (nextB (bs.drop at_) = none) := hno; clear hno)); all_goals (try (have hpos := nextB_pos hso; have HSO : Hid (nextB (bs.drop at_) = some (x, n1)) := hso; clear hso; rw [List.length_drop] at hpos; obtain ⟨hp1, hp2, _⟩ := hpos; have hnz : ((n1 : Int) == 0) = false := (by simp; omega); have hpl2 : pre.length + 1 ≤ 4398046511105 := (by have h1 := hcnt; rw [HEN.out, endsB_some HSO.out, List.length_append, List.length_cons] at h1; omega); obtain ⟨ax, cx, rfl, _, _⟩ := hsx.shape))) | (at_builtin; refine wpList_app_at tyBB rfl rfl rfl rfl ((owns_below hown hb1).alloc _) (Row.lit1 w1 (.slice ax x.length cx) 30) rfl (by intro u hu; simp at hu; subst hu; rfl) (by unfold maxLen; omega) (by omega) (by simp; have := hb.size; have := hb1.size; omega) ?_; intro v2 w2 ho2 hg2 hp2))
    · go_ret2
      have hb2 := hb.trans (hb1.mono hb.size)
      have hE := HEN.out
      rw [endsB_none HNO.out, List.append_nil] at hE
      have hn2 : (splitB bs).2 = at_ := by
        have hl2 := endsB_last bs.length bs 0 (Nat.le_refl _)
        rw [hE, Nat.zero_add] at hl2
        rw [← hl2, ← HLA.out]
      rw [hn2]
      refine ⟨_, rfl, ?_, hb2⟩
      rw [← endsB_fst bs.length bs 0 (Nat.le_refl _), hE]
      refine ⟨vs, by rw [List.length_map]; exact HVS.out, ?_, fun i u p hu hp => ?_⟩
      · rw [List.length_map]
        exact (Row.of_owns (owns_below hown hb1)).mono (fun k _ hk => hM k hk)
      · rw [List.getElem?_map] at hp
        obtain ⟨q, hq, rfl⟩ := Option.map_eq_some_iff.1 hp
        exact ((hel i u q hu hq).below hb1).mono (fun k _ hk => .inl hk)
    · have hA1 : at_ + n1 ≤ bs.length := by omega
      have hF : Fr (fun k => some k = u4.ownBlock) wr w2 := (Fr.of_below (F := fun k => some k = u4.ownBlock) hb1).trans (G := fun k => some k = u4.ownBlock) ⟨hg2.os, hg2.tape, hg2.output, by have := hg2.size; simp at this; omega, fun k hk hn => (hg2.block k (by simp; omega) hn).trans (Below.heap_alloc w1 _ _ hk)⟩ (fun _ _ h => h)
      have hlt : ∀ k, some k = u4.ownBlock → w.heap.size ≤ k := fun k hk => (hown.lt k hk.symm).1
      have hel2 : ∀ (i : Nat) (u : Value) (p : Bytes × Nat), (vs ++ [.slice ax x.length cx])[i]? = some u → (pre ++ [(x, at_ + n1)])[i]? = some p → SlB (fun k => M k ∨ w.heap.size ≤ k) w2 u p.1 := by
        intro i u p hu hp
        have hvl := HVS.out
        by_cases hilt : i < vs.length
        · rw [List.getElem?_append_left hilt] at hu
          rw [List.getElem?_append_left (by omega)] at hp
          exact (hel i u p hu hp).fr hF (fun k hk => .inr (hlt k hk)) (fun k _ h => h)
        · rw [List.getElem?_append_right (by omega)] at hu
          rw [List.getElem?_append_right (by omega)] at hp
          match hi' : i - vs.length, hu with
          | 0, hu =>
            rw [show i - pre.length = 0 by omega] at hp
            simp at hu hp
            subst hu hp
            exact hsx.fr (F := fun k => some k = u4.ownBlock) ⟨hg2.os, hg2.tape, hg2.output, by have := hg2.size; simp at this; omega, fun k hk hn => (hg2.block k (by simp; omega) hn).trans (Below.heap_alloc w1 _ _ hk)⟩ (fun k hk => .inr (hlt k hk)) (fun k _ h => h)
          | i + 1, hu => simp at hu
      have HX : Hid (at_ + n1 = lastEnd 0 (pre ++ [(x, at_ + n1)]) ∧ endsB 0 bs = (pre ++ [(x, at_ + n1)]) ++ endsB (at_ + n1) (bs.drop (at_ + n1)) ∧ (vs ++ [Value.slice ax x.length cx]).length = (pre ++ [(x, at_ + n1)]).length) := by
        refine ⟨(lastEnd_snoc 0 pre (x, at_ + n1)).symm, ?_, by have := HVS.out; simp; omega⟩
        rw [HEN.out, endsB_some HSO.out, List.drop_drop]
        simp
      have hbs := hb.size
      have hbE : Below w.heap.size w w2 := hF.below (by omega) (fun k hk h => by have := hlt k h; omega) |> fun h => (hb.trans h)
      go_roundw
      case rel => exact ⟨pre ++ [(x, at_ + n1)], at_ + n1, vs ++ [.slice ax x.length cx], by go_num, hA1, HX.out.1, HX.out.2.1, HX.out.2.2, by rw [List.length_append]; exact ho2, hel2, hbE⟩
      case measure => simp [intOf]; omega

end Go.Proofs.YtepceidajmedeaaGreatDoor

namespace Go.Proofs.YtepceidajmedeaaGreatDoor
open Go.RowKit CW

theorem same1_quiet (v v' : Value) (bs bs' : Bytes) (w : World) (hv : SlB (fun _ => False) w v bs) (hv' : SlB (fun _ => False) w v' bs') :
    Calls Tryz.prog 71 #[v, v'] w fun e w' => e = .returned (.bool (bs == bs')) ∧ ∃ n, w' = w.drewN n := by
  refine (same1_any v v' bs bs' w hv hv').mono ?_
  rintro e w' ⟨rfl, rfl⟩
  exact ⟨rfl, 0, rfl⟩

set_option maxHeartbeats 400000 in
set_option maxRecDepth 100000 in
theorem same6_any (v v' : Value) (rs rs' : List Bytes) (w : World) (hv : SlBB (fun _ => False) w v rs) (hv' : SlBB (fun _ => False) w v' rs') :
    Calls Tryz.prog 21 #[v, v'] w fun e w' => e = .returned (.bool (rs == rs')) ∧ Below w.heap.size w w' := by
  obtain ⟨a, cap, rfl, hn, hc, hnone, hcell⟩ := hv.open
  obtain ⟨a', cap', rfl, hn', hc', hnone', hcell'⟩ := hv'.open
  by_cases hl : rs.length = rs'.length
  · have hq : (((rs.length : Nat) : Int) != ((rs'.length : Nat) : Int)) = false := by simp; omega
    have HL : Hid (rs.length = rs'.length) := hl
    clear hl hv hv'
    go_enter Tryz.func21, Tryz.ntmps21
    go_wp2
    go_loopw [5] (fun i wr => ∃ k : Nat, k ≤ rs.length ∧ i = .int .i64 k ∧ rs.take k = rs'.take k ∧ Below w.heap.size w wr) (fun i _ => rs.length - (intOf i).toNat)
    case atStart => exact ⟨0, by omega, rfl, by simp, Below.refl _ _⟩
    case round =>
      obtain ⟨k, hk, rfl, htk, hb⟩ := hrel
      by_cases hlt : k < rs.length
      · have hlt' : k < rs'.length := by rw [← HL.out]; exact hlt
        obtain ⟨b, off, rfl, hbl, _, hc⟩ := hcell (by omega)
        obtain ⟨b', off', rfl, hbl', _, hc'⟩ := hcell' (by omega)
        obtain ⟨u, hu, hsu⟩ := hc k hlt
        obtain ⟨u', hu', hsu'⟩ := hc' k hlt'
        have h1 := (hb.cell (p := ⟨b, off + k, none⟩) hbl).trans hu
        have h2 := (hb.cell (p := ⟨b', off' + k, none⟩) hbl').trans hu'
        have HT : Hid (rs.take (k + 1) = rs.take k ++ [rs[k]]) := List.take_succ_eq_append_getElem hlt
        have HT' : Hid (rs'.take (k + 1) = rs'.take k ++ [rs'[k]]) := List.take_succ_eq_append_getElem hlt'
        have HK : Hid (rs.take k = rs'.take k) := htk
        have HX : Hid (rs[k]? = some rs[k]) := by show rs[k]? = _; simp [hlt]
        have HX' : Hid (rs'[k]? = some rs'[k]) := by show rs'[k]? = _; simp [hlt']
        generalize rs[k] = x at *
        generalize rs'[k] = x' at *
        have hs1 := hsu.below hb
        have hs2 := hsu'.below hb
        clear hc hc' hcell hcell' htk hu hu' hsu hsu'
        have i1 : (k : Int) < (rs.length : Int) := by omega
        have i2 : (k : Int) < (rs'.length : Int) := by omega
        go_wp2
        go_quiet ((go_at_call 71; refine Calls.quiet_of (same1_quiet _ _ x x' _ ?_ ?_); exact hs1.below ⟨rfl, rfl, rfl, Nat.le_refl _, fun _ _ => rfl⟩; exact hs2.below ⟨rfl, rfl, rfl, Nat.le_refl _, fun _ _ => rfl⟩))
        go_wp2
        · have hx : (!(x == x')) = true := by assumption
          go_ret
          have hne : ¬ rs = rs' := fun e => by
            subst e
            have := HX.out.symm.trans HX'.out
            simp at this
            subst this
            simp at hx
          exact ⟨by rw [beq_eq_false_iff_ne.2 hne]; rfl, below_drewN' hb _⟩
        · have hx : (!(x == x')) = false := by assumption
          have hxx : x = x' := by simpa using hx
          go_roundw
          case rel => exact ⟨k + 1, by omega, by go_num, by rw [HT.out, HT'.out, HK.out, hxx], below_drewN' hb _⟩
          case measure => simp [intOf]; omega
      · have he : rs = rs' := by
          have e1 := List.take_of_length_le (l := rs) (i := k) (by omega)
          have e2 := List.take_of_length_le (l := rs') (i := k) (by rw [← HL.out]; omega)
          rw [← e1, ← e2]; exact htk
        have HE : Hid ((rs == rs') = true) := by show (rs == rs') = true; simpa using he
        clear he htk
        go_wp2
        go_ret
        exact ⟨by rw [HE.out] <;> rfl, hb⟩
  · have hq : (((rs.length : Nat) : Int) != ((rs'.length : Nat) : Int)) = true := by simp; omega
    have HE : Hid ((rs == rs') = false) := by show (rs == rs') = false; exact beq_eq_false_iff_ne.2 (fun e => hl (by rw [e]))
    clear hl
    go_enter Tryz.func21, Tryz.ntmps21
    go_wp2
    go_ret
    exact ⟨by rw [HE.out] <;> rfl, Below.refl _ _⟩

def fewN (rs : List Bytes) : Nat := (rs.map (fun r => min r.length 2000)).sum
def fewB (rs : List Bytes) : Bool := decide (rs.length ≤ 60) && decide (fewN rs ≤ 1500)
theorem fewN_take (rs : List Bytes) (k : Nat) (h : k < rs.length) : fewN (rs.take (k + 1)) = fewN (rs.take k) + min rs[k].length 2000 := by
  unfold fewN
  rw [List.take_succ_eq_append_getElem h, List.map_append, List.sum_append]
  simp
theorem fewN_le (rs : List Bytes) : fewN rs ≤ 2000 * rs.length := by
  unfold fewN
  induction rs with
  | nil => simp
  | cons r l ih => simp only [List.map_cons, List.sum_cons, List.length_cons]; omega

set_option maxHeartbeats 400000 in
theorem few6_any (v : Value) (rs : List Bytes) (w : World) (hv : SlBB (fun _ => False) w v rs) (hl : rs.length ≤ 8796093022208) :
    Calls Tryz.prog 14 #[v] w fun e w' => e = .returned (.bool (fewB rs)) ∧ w = w' := by
  obtain ⟨a, cap, rfl, hn, hc, hnone, hcell⟩ := hv.open
  go_enter Tryz.func14, Tryz.ntmps14
  go_wp2
  go_loopw [3, 4] (fun s i wr => ∃ k : Nat, k ≤ rs.length ∧ i = .int .i64 k ∧ s = .int .i64 (fewN (rs.take k) : Nat) ∧ wr = w) (fun _ i _ => rs.length - (intOf i).toNat)
  case atStart => exact ⟨0, by omega, rfl, rfl, rfl⟩
  case round =>
    obtain ⟨k, hk, rfl, rfl, rfl⟩ := hrel
    by_cases hlt : k < rs.length
    · obtain ⟨b, off, rfl, hbl, _, hc⟩ := hcell (by omega)
      obtain ⟨u, hu, hsu⟩ := hc k hlt
      obtain ⟨au, cu, rfl, _, _⟩ := hsu.shape
      have HT : Hid (fewN (rs.take (k + 1)) = fewN (rs.take k) + min rs[k].length 2000) := fewN_take rs k hlt
      have hle := fewN_le (rs.take k)
      rw [List.length_take] at hle
      generalize rs[k] = x at *
      generalize fewN (rs.take k) = N at *
      have hN : N ≤ 17592186044416000 := by omega
      clear hc hcell hle hsu
      have i1 : (k : Int) < (rs.length : Int) := by omega
      go_wp2
      go_roundw
      case rel => exact ⟨k + 1, by omega, by go_num, by rw [HT.out]; go_num, trivial⟩
      case measure => simp [intOf]; omega
    · obtain rfl : k = rs.length := by omega
      have HE : Hid (fewB rs = (decide (rs.length ≤ 60) && decide (fewN (rs.take rs.length) ≤ 1500))) := by show fewB rs = _; rw [List.take_length]; rfl
      clear hcell hnone hv hk
      generalize fewN (rs.take rs.length) = N at *
      by_cases h1 : rs.length ≤ 60
      · have d1 : (rs.length : Int) ≤ 60 := by omega
        by_cases h2 : N ≤ 1500
        · have d2 : (N : Int) ≤ 1500 := by omega
          go_wp2
          go_ret
          exact ⟨by rw [HE.out, decide_eq_true h1, decide_eq_true h2] <;> rfl, rfl⟩
        · have d2 : ¬ (N : Int) ≤ 1500 := by omega
          go_wp2
          go_ret
          exact ⟨by rw [HE.out, decide_eq_false h2, Bool.and_false] <;> rfl, rfl⟩
      · have d1 : ¬ (rs.length : Int) ≤ 60 := by omega
        go_wp2
        go_ret
        exact ⟨by rw [HE.out, decide_eq_false h1, Bool.false_and] <;> rfl, rfl⟩

end Go.Proofs.YtepceidajmedeaaGreatDoor

namespace Go.Proofs.YtepceidajmedeaaGreatDoor
open CW Go

def putStep (s : LogA × List Bytes) (x : Bytes) : LogA × List Bytes := ((putA s.1 x).1, if (putA s.1 x).2 = 0 then s.2 ++ [x] else s.2)
def putsA (most : Int) (l : List Bytes) : LogA × List Bytes := l.foldl putStep (startL 100000 most, [])

theorem putsA_take (most : Int) (l : List Bytes) (k : Nat) (h : k < l.length) : putsA most (l.take (k + 1)) = putStep (putsA most (l.take k)) l[k] := by
  unfold putsA
  rw [List.take_succ_eq_append_getElem h, List.foldl_append]
  rfl

theorem le_sum_mem {l : List Nat} {n : Nat} (h : n ∈ l) : n ≤ l.sum := by
  induction l with
  | nil => cases h
  | cons a l ih =>
    rw [List.sum_cons]
    rcases List.mem_cons.1 h with rfl | h
    · omega
    · have := ih h; omega

theorem fewN_mem (l : List Bytes) (h : fewB l = true) : l.length ≤ 60 ∧ fewN l ≤ 1500 ∧ ∀ x ∈ l, x.length ≤ 1500 := by
  unfold fewB at h
  simp only [Bool.and_eq_true, decide_eq_true_eq] at h
  refine ⟨h.1, h.2, fun x hx => ?_⟩
  have h1 : min x.length 2000 ≤ fewN l := by
    have : min x.length 2000 ∈ l.map (fun r => min r.length 2000) := List.mem_map_of_mem (f := fun r : Bytes => min r.length 2000) hx
    exact le_sum_mem this
  omega
theorem fewN_take_le (l : List Bytes) (k : Nat) : fewN (l.take k) ≤ fewN l := by
  unfold fewN
  conv => rhs; rw [← List.take_append_drop k l, List.map_append, List.sum_append]
  omega

theorem costB_append (a b : List Bytes) : costB (a ++ b) = costB a + costB b := by simp [costB]

theorem putsA_holds (most : Int) (l : List Bytes) (hf : fewB l = true) : ∀ k, k ≤ l.length → (∃ gs g fs f, Holds most (putsA most (l.take k)).1 (putsA most (l.take k)).2 gs g fs f) ∧ (putsA most (l.take k)).2.length ≤ k ∧ costB (putsA most (l.take k)).2 ≤ fewN (l.take k) + 8 * k := by
  obtain ⟨f1, f2, f3⟩ := fewN_mem l hf
  intro k
  induction k with
  | zero => intro _; exact ⟨⟨[], [], [], ⟨nameB 1, [], 0⟩, holds_start most⟩, Nat.le_refl _, Nat.zero_le _⟩
  | succ k ih =>
    intro hk
    obtain ⟨⟨gs, g, fs, f, hh⟩, h1, h2⟩ := ih (by omega)
    have f4 := fewN_take l k hk
    have f5 := fewN_take_le l (k + 1)
    have f6 := f3 l[k] (List.getElem_mem hk)
    rw [putsA_take most l k hk]
    have hn := hh.num_le
    obtain ⟨gs', g', fs', f', hp⟩ := hh.put (by omega) l[k] (by omega) (by omega)
    refine ⟨⟨gs', g', fs', f', hp⟩, ?_, ?_⟩
    · show (if _ then _ else _ : List Bytes).length ≤ _
      split
      · rw [List.length_append, List.length_singleton]; omega
      · omega
    · show costB (if _ then _ else _ : List Bytes) ≤ _
      split
      · rw [costB_append]
        have : costB [l[k]] = l[k].length + 8 := by simp [costB]
        omega
      · omega

/-- What the calls ask along the way. -/
theorem putsA_ok (most : Int) (l : List Bytes) (hf : fewB l = true) (k : Nat) (hk : k ≤ l.length) :
    OkL (putsA most (l.take k)).1 ∧ (0 < (putsA most (l.take k)).1.size → (putsA most (l.take k)).1.n + 1 < 100 ∧ 0 ≤ (doA (putsA most (l.take k)).1.D .sync (nameB (putsA most (l.take k)).1.n)).1.plan ∧ (doA (putsA most (l.take k)).1.D .sync (nameB (putsA most (l.take k)).1.n)).1.plan ≤ 4611686018427387904 ∧ (doA (putsA most (l.take k)).1.D .sync (nameB (putsA most (l.take k)).1.n)).1.files.length < 1048576 ∧ usedF (doA (putsA most (l.take k)).1.D .sync (nameB (putsA most (l.take k)).1.n)).1.files ≤ 1099511627776 ∧ OkL (rotA (putsA most (l.take k)).1).1) := by
  obtain ⟨f1, f2, f3⟩ := fewN_mem l hf
  obtain ⟨⟨gs, g, fs, f, hh⟩, h1, h2⟩ := putsA_holds most l hf k hk
  have f5 := fewN_take_le l k
  have hn := hh.num_le
  have hok := hh.ok (by omega) (by omega)
  refine ⟨hok, fun hs => ?_⟩
  obtain ⟨r1, r2, r3⟩ := hh.rot (by omega) hs
  have hlen := hh.len
  have hus := hh.used
  rw [hh.files, usedF_append] at hus
  rw [hh.files, List.length_append] at hlen
  rw [hh.sync (by omega)]
  have hu1 : usedF [(⟨f.name, f.b, f.b.length⟩ : FileA)] = usedF [f] := by simp [usedF]
  refine ⟨by omega, by show (0 : Int) ≤ (putsA most (l.take k)).1.D.plan; rw [hh.plan]; omega, by show (putsA most (l.take k)).1.D.plan ≤ _; rw [hh.plan]; omega, ?_, ?_, r2.ok (by omega) (by omega)⟩
  · show (fs ++ [_]).length < _
    have h1 : (fs ++ [(⟨f.name, f.b, f.b.length⟩ : FileA)]).length = fs.length + 1 := by simp
    have h2 : [f].length = 1 := rfl
    rw [h1]
    omega
  · show usedF (fs ++ [_]) ≤ _
    rw [usedF_append, hu1]
    omega

/-- What is found behind all. -/
theorem putsA_end (most : Int) (l : List Bytes) (hf : fewB l = true) :
    let D := (putsA most l).1.D
    recordsA D = (putsA most l).2 ∧ gapB (segsB (D.files.map FileA.name)) = 0 ∧ list7 (D.files.map FileA.name) = segsB (D.files.map FileA.name) ∧ (∀ z ∈ segsB (D.files.map FileA.name), 1 ≤ z ∧ z < 100) ∧ (segsB (D.files.map FileA.name)).length ≤ 100 ∧ D.down = false ∧ D.files.length ≤ 100 ∧ usedF D.files ≤ 100000 ∧ (recordsA D).length ≤ 100 ∧ ∀ z ∈ segsB (D.files.map FileA.name), ∃ f ∈ D.files, f.name = nameB z.toNat := by
  obtain ⟨f1, f2, f3⟩ := fewN_mem l hf
  obtain ⟨⟨gs, g, fs, f, hh⟩, h1, h2⟩ := putsA_holds most l hf l.length (Nat.le_refl _)
  rw [List.take_length] at hh h1 h2
  have hn := hh.num_le
  obtain ⟨r1, r2, r3⟩ := hh.records (by omega)
  have hlen := hh.len
  have hus := hh.used
  have hnn := hh.num
  intro D
  refine ⟨r1, ?_, r3.trans r2.symm, ?_, by show (segsB ((putsA most l).1.D.files.map FileA.name)).length ≤ _; rw [r2, upI_len]; omega, hh.down, by show (putsA most l).1.D.files.length ≤ _; omega, by show usedF (putsA most l).1.D.files ≤ _; omega, by show (recordsA (putsA most l).1.D).length ≤ _; rw [r1]; omega, ?_⟩
  · show gapB (segsB ((putsA most l).1.D.files.map FileA.name)) = 0
    rw [r2, gapB_upI]
  · intro z hz
    have hz' : z ∈ segsB ((putsA most l).1.D.files.map FileA.name) := hz
    rw [r2] at hz'
    have := upI_ge _ _ z hz'
    omega
  · intro z hz
    have hz' : z ∈ segsB ((putsA most l).1.D.files.map FileA.name) := hz
    have hp := (hh.names (by omega)).1
    rw [segsB_sorted _ hp] at hz'
    unfold numsB at hz'
    rw [List.mem_filterMap] at hz'
    obtain ⟨s, hs, he⟩ := hz'
    rw [Option.map_eq_some_iff] at he
    obtain ⟨n, hn, rfl⟩ := he
    obtain ⟨_, _, rfl⟩ := numB_some hn
    obtain ⟨q, hq, hqn⟩ := List.mem_map.1 hs
    exact ⟨q, hq, hqn⟩

end Go.Proofs.YtepceidajmedeaaGreatDoor

namespace Go.Proofs.YtepceidajmedeaaGreatDoor
open Go.RowKit CW

theorem results_cell_row_tmp {P : Program} {fn : Func} {p u : Tmp} {ty : TypeId} (h : fn.results = #[.cell p ty, .tmp u]) (tmps : Array Value) (w : World) (g : Nat) (t : TypeId) (cs : Array Value) (fr : Nat × Nat) (d : TypeDesc)
    (hp : tmps.getD p undef = .pointer (some ⟨g, 0, none⟩)) (hg : w.heap[g]? = some (.cells cs t fr))
    (hu : P.underlying ty = some d) (hd : (match d with | .struct _ | .array _ _ => true | _ => false) = true) (hi : (P.info? ty).map (·.size) = some cs.size) :
    (results fn tmps).run P w = .ok (.tuple #[.agg cs, tmps.getD u undef]) w := by
  rw [results_cell_tmp h, hp]
  simp [asAddr, run_loadVar_row w g t ty cs fr d hg hu hd hi, Result.andThen]

/-- The cells of a file. -/
def cellF (p : FileA × Value) : List Value := [stV p.1.name, p.2, .int .i64 (p.1.dur : Int)]
def cellsF (ps : List (FileA × Value)) : List Value := ps.flatMap cellF

theorem cellsF_len (ps : List (FileA × Value)) : (cellsF ps).length = ps.length * 3 := by
  induction ps with
  | nil => rfl
  | cons p ps ih => rw [cellsF, List.flatMap_cons, List.length_append, ← cellsF, ih, List.length_cons]; simp [cellF]; omega

theorem cellsF_get (ps : List (FileA × Value)) (i c : Nat) (h : i < ps.length) (hc : c < 3) : (cellsF ps)[i * 3 + c]? = (cellF ps[i])[c]? := by
  induction ps generalizing i with
  | nil => simp at h
  | cons p ps ih =>
    rw [cellsF, List.flatMap_cons, ← cellsF]
    have hl : (cellF p).length = 3 := rfl
    cases i with
    | zero =>
      rw [List.getElem?_append_left (by omega)]
      simp
    | succ i =>
      rw [List.getElem?_append_right (by omega), hl, show (i + 1) * 3 + c - 3 = i * 3 + c by omega, ih i (by simpa using h)]
      simp

theorem cellsF_append (ps qs : List (FileA × Value)) : cellsF (ps ++ qs) = cellsF ps ++ cellsF qs := List.flatMap_append

theorem cellsF_take (ps : List (FileA × Value)) (k : Nat) (h : k ≤ ps.length) : (cellsF ps).take (k * 3) = cellsF (ps.take k) := by
  conv => lhs; rw [← List.take_append_drop k ps]
  rw [cellsF_append, List.take_append_of_le_length (by rw [cellsF_len, List.length_take]; omega), List.take_of_length_le (by rw [cellsF_len, List.length_take]; omega)]
theorem cellsF_drop (ps : List (FileA × Value)) (k : Nat) (h : k ≤ ps.length) : (cellsF ps).drop (k * 3) = cellsF (ps.drop k) := by
  conv => lhs; rw [← List.take_append_drop k ps]
  have : (cellsF (ps.take k)).length = k * 3 := by rw [cellsF_len, List.length_take]; omega
  rw [cellsF_append, ← this, List.drop_left]

theorem cellsF_one (ps : List (FileA × Value)) (h : ∀ p ∈ ps, p.2.oneCell' = true) : ∀ u ∈ cellsF ps, u.oneCell' = true := by
  intro u hu
  obtain ⟨p, hp, hu⟩ := List.mem_flatMap.1 hu
  simp only [cellF, List.mem_cons, List.not_mem_nil, or_false] at hu
  rcases hu with rfl | rfl | rfl
  · rfl
  · exact h p hp
  · rfl

/-- What the slices of some files show. -/
def ShowF (M : Nat → Prop) (w : World) (ps : List (FileA × Value)) : Prop := ∀ p ∈ ps, SlB M w p.2 p.1.b

theorem ShowF.one {M : Nat → Prop} {w : World} {ps : List (FileA × Value)} (h : ShowF M w ps) : ∀ p ∈ ps, p.2.oneCell' = true := by
  intro p hp
  obtain ⟨a, cap, e, _⟩ := (h p hp).shape
  rw [e]
  rfl
theorem ShowF.fr {M M' F : Nat → Prop} {w w' : World} {ps : List (FileA × Value)} (h : ShowF M w ps) (hf : Fr F w w') (hF : ∀ k, F k → M k) (hM : ∀ k, k < w.heap.size → M' k → M k) : ShowF M' w' ps := fun p hp => (h p hp).fr hf hF hM
theorem ShowF.below {M : Nat → Prop} {w w' : World} {ps : List (FileA × Value)} (h : ShowF M w ps) (hf : Below w.heap.size w w') : ShowF M w' ps := fun p hp => (h p hp).below hf
theorem ShowF.append {M : Nat → Prop} {w : World} {ps qs : List (FileA × Value)} (h : ShowF M w ps) (k : ShowF M w qs) : ShowF M w (ps ++ qs) := fun p hp => (List.mem_append.1 hp).elim (h p) (k p)
theorem ShowF.take {M : Nat → Prop} {w : World} {ps : List (FileA × Value)} (h : ShowF M w ps) (k : Nat) : ShowF M w (ps.take k) := fun p hp => h p (List.mem_of_mem_take hp)
theorem ShowF.drop {M : Nat → Prop} {w : World} {ps : List (FileA × Value)} (h : ShowF M w ps) (k : Nat) : ShowF M w (ps.drop k) := fun p hp => h p (List.mem_of_mem_drop hp)

/-- A slice of files: some files, whose slices of bytes are given. -/
def SlF (M : Nat → Prop) (w : World) (v : Value) (ps : List (FileA × Value)) : Prop := Row M w v ps.length (cellsF ps) ∧ ShowF M w ps
theorem SlF.fr {M M' F : Nat → Prop} {w w' : World} {v : Value} {ps : List (FileA × Value)} (h : SlF M w v ps) (hf : Fr F w w') (hF : ∀ k, F k → M k) (hM : ∀ k, k < w.heap.size → M' k → M k) : SlF M' w' v ps := ⟨h.1.fr hf hF hM, h.2.fr hf hF hM⟩
theorem SlF.below {M : Nat → Prop} {w w' : World} {v : Value} {ps : List (FileA × Value)} (h : SlF M w v ps) (hf : Below w.heap.size w w') : SlF M w' v ps := ⟨h.1.below hf, h.2.below hf⟩

theorem SlF.any {M : Nat → Prop} {w : World} {v : Value} {ps : List (FileA × Value)} (h : SlF M w v ps) : SlF (fun _ => False) w v ps := h.fr (F := fun _ => False) (Fr.refl _ _) (fun _ h => h.elim) (fun _ _ h => h.elim)

/-- A slice of files, opened. -/
theorem SlF.open {M : Nat → Prop} {w : World} {v : Value} {ps : List (FileA × Value)} (h : SlF M w v ps) :
    ∃ a cap, v = .slice a ps.length cap ∧ ps.length ≤ cap ∧ cap ≤ 9223372036854775807 ∧ (a = none → ps.length = 0 ∧ cap = 0) ∧
      (0 < ps.length → ∃ b off, a = some ⟨b, off, none⟩ ∧ b < w.heap.size ∧ ¬ M b ∧ ∀ i (hi : i < ps.length), w.cell? ⟨b, off + i * 3, none⟩ = some (stV ps[i].1.name) ∧ w.cell? ⟨b, off + (i * 3 + 1), none⟩ = some ps[i].2 ∧ w.cell? ⟨b, off + (i * 3 + 2), none⟩ = some (.int .i64 (ps[i].1.dur : Int))) := by
  obtain ⟨a, cap, rfl, hn, hc, hnone, hcell⟩ := h.1.open
  refine ⟨a, cap, rfl, hn, hc, hnone, fun hp => ?_⟩
  obtain ⟨b, off, rfl, hb, hm, hcell⟩ := hcell hp
  refine ⟨b, off, rfl, hb, hm, fun i hi => ⟨hcell (i * 3) _ ?_, hcell (i * 3 + 1) _ ?_, hcell (i * 3 + 2) _ ?_⟩⟩
  · have := cellsF_get ps i 0 hi (by omega); rw [Nat.add_zero] at this; rw [this]; rfl
  · rw [cellsF_get ps i 1 hi (by omega)]; rfl
  · rw [cellsF_get ps i 2 hi (by omega)]; rfl

end Go.Proofs.YtepceidajmedeaaGreatDoor
