/- Lemmas for a law of this seat, part 27: contracts of the functions that it reaches, and the plain law. No condition but those of each lemma. -/
import Derived.Test.YtepceidajmedeaaGreatDoorWal26
import Derived.BigQuiet

namespace Go.Proofs.YtepceidajmedeaaGreatDoor
open Go.RowKit CW

theorem box_facts (w : World) (C : Obj) : Below w.heap.size w (w.alloc C) ∧ (w.alloc C).heap.size = w.heap.size + 1 ∧ (w.alloc C).heap[w.heap.size]? = some C :=
  ⟨(Below.refl w.heap.size w).alloc (Nat.le_refl _) C, by simp, by show (w.heap.push C)[w.heap.size]? = _; simp⟩

theorem takeWhileK {α : Type} {key : α → Bytes} (zs : List α) (n : Bytes) (j : Nat) (hj : j ≤ zs.length) (h1 : (zs.take j).all (fun z => ltB (key z) n) = true) (h2 : ∀ (h : j < zs.length), ltB (key zs[j]) n = false) :
    zs.takeWhile (fun z => ltB (key z) n) = zs.take j ∧ zs.dropWhile (fun z => ltB (key z) n) = zs.drop j := by
  induction zs generalizing j with
  | nil => simp
  | cons z zs ih =>
    cases j with
    | zero =>
      have h3 := h2 (by simp)
      rw [List.getElem_cons_zero] at h3
      rw [List.takeWhile_cons, List.dropWhile_cons, h3]
      exact ⟨rfl, rfl⟩
    | succ j =>
      simp only [List.take_succ_cons, List.all_cons, Bool.and_eq_true] at h1
      obtain ⟨i1, i2⟩ := ih j (by simpa using hj) h1.2 (fun h => h2 (by simpa using h))
      rw [List.takeWhile_cons, List.dropWhile_cons, h1.1]
      simp [i1, i2]

set_option maxHeartbeats 2000000 in
set_option maxRecDepth 100000 in
theorem put5_any (v : Value) (ps : List (FileA × Value)) (q : FileA × Value) (w : World) (hv : SlF (fun _ => False) w v ps) (hq : SlB (fun _ => False) w q.2 q.1.b) (hl : ps.length ≤ 1048576) :
    Calls Tryz.prog 130 #[v, .agg #[stV q.1.name, q.2, .int .i64 (q.1.dur : Int)]] w fun e w' => ∃ v', e = .returned v' ∧ w'.ownsRow w.heap.size 121 3 v' (putK nm ps q).length (cellsF (putK nm ps q)) ∧ Below w.heap.size w w' := by
  unfold stV
  obtain ⟨a2, cap2, hsv, hs1, hs2⟩ := hq.shape
  rw [hsv]
  have hb0 := box_facts w (.cells #[.string ⟨q.1.name.toArray⟩, .slice a2 q.1.b.length cap2, .int .i64 (q.1.dur : Int)] 121)
  have hcw := without_any v ps q.1.name _ (hv.below hb0.1) hl
  have hzl := withoutK_len (key := nm) ps q.1.name
  have HP : Hid (putK nm ps q = insK nm (withoutK nm ps q.1.name) q) := rfl
  have hone0 : ∀ p ∈ withoutK nm ps q.1.name, p.2.oneCell' = true := fun p hp => hv.2.one p (List.mem_filter.1 hp).1
  generalize withoutK nm ps q.1.name = zs at *
  have hzl2 : zs.length ≤ 1048576 := by omega
  clear hzl
  unfold stV at hcw
  go_enter Tryz.func130, Tryz.ntmps130
  go_wp2_with (go_at_call 131; refine hcw.mono ?_; rintro e w2 ⟨v1, rfl, ho1, hb1⟩)
  generalize hW : w.alloc (.cells #[.string ⟨q.1.name.toArray⟩, .slice a2 q.1.b.length cap2, .int .i64 (q.1.dur : Int)] 121) = W1 at *
  have hx2 : w2.heap[w.heap.size]? = some (.cells #[.string ⟨q.1.name.toArray⟩, .slice a2 q.1.b.length cap2, .int .i64 (q.1.dur : Int)] 121 (0, 0)) := (hb1.block _ (by omega)).trans hb0.2.2
  have cq0 : w2.cell? ⟨w.heap.size, 0, none⟩ = some (.string ⟨q.1.name.toArray⟩) := by rw [Go.cell_of_row _ w.heap.size 0 _ _ _ hx2]; rfl
  have cq1 : w2.cell? ⟨w.heap.size, 1, none⟩ = some (.slice a2 q.1.b.length cap2) := by rw [Go.cell_of_row _ w.heap.size 1 _ _ _ hx2]; rfl
  have cq2 : w2.cell? ⟨w.heap.size, 2, none⟩ = some (.int .i64 (q.1.dur : Int)) := by rw [Go.cell_of_row _ w.heap.size 2 _ _ _ hx2]; rfl
  have hlt2 : w.heap.size < w2.heap.size := by have := hb1.size; omega
  have hbw : Below w.heap.size w w2 := hb0.1.trans (hb1.mono (by omega))
  clear hx2 hW
  have hrow := Row.of_owns ho1
  obtain ⟨az, cz, rfl, hz1, hz2, hz3, hz4⟩ := hrow.open
  go_loopw [5] (fun at_ W => ∃ j : Nat, j ≤ zs.length ∧ at_ = .int .i64 j ∧ Hid ((zs.take j).all (fun z => ltB (nm z) q.1.name) = true) ∧ Hid (Below w2.heap.size w2 W)) (fun at_ _ => zs.length - (intOf at_).toNat)
  case atStart => exact ⟨0, by omega, rfl, rfl, Below.refl _ _⟩
  case round =>
    obtain ⟨j, hj, rfl, HALL, HB⟩ := hrel
    have hBB := HB.out
    have cq0 := (hBB.cell (p := ⟨w.heap.size, 0, none⟩) hlt2).trans cq0
    have cq1 := (hBB.cell (p := ⟨w.heap.size, 1, none⟩) hlt2).trans cq1
    have cq2 := (hBB.cell (p := ⟨w.heap.size, 2, none⟩) hlt2).trans cq2
    by_cases hjl : j < zs.length ∧ ltB ((zs[j]?.map nm).getD []) q.1.name = true
    · obtain ⟨hj1, hj2⟩ := hjl
      obtain ⟨bz, oz, rfl, hbz, _, hcz⟩ := hz4 (by omega)
      have c1 := hcz (j * 3) (stV zs[j].1.name) (by have := cellsF_get zs j 0 hj1 (by omega); rw [Nat.add_zero] at this; rw [this]; rfl)
      have e1 : (zs[j]?.map nm).getD [] = zs[j].1.name := by simp [hj1]
      rw [e1] at hj2
      have HT3 : Hid (zs.take (j + 1) = zs.take j ++ [zs[j]]) := List.take_succ_eq_append_getElem hj1
      clear e1 hcz hz4
      have HA : Hid ((zs.take (j + 1)).all (fun z => ltB (nm z) q.1.name) = true) := by show _ = _; rw [HT3.out, List.all_append, HALL.out]; simpa [nm] using hj2
      generalize zs[j] = y at *
      unfold stV at c1
      clear HT3 HALL
      have i2 : (j : Int) < (zs.length : Int) := by omega
      have c1 := (hBB.cell (p := ⟨bz, oz + j * 3, none⟩) hbz).trans c1
      have hd : Op.bytesLess y.1.name q.1.name = true := by rw [bytesLess_eq]; exact hj2
      clear hj2
      go_wp2
      go_quiet (fail)
      go_wp2
      go_roundw
      case rel => exact ⟨j + 1, by omega, by go_num, HA.out, below_drewN' hBB _⟩
      case measure => simp [intOf]; omega
    · have htw := takeWhileK (key := nm) zs q.1.name j hj HALL.out (fun h => by
        cases hk : ltB (nm zs[j]) q.1.name with
        | false => rfl
        | true => exact absurd ⟨h, by rw [List.getElem?_eq_getElem h]; exact hk⟩ hjl)
      have HT3 : Hid (putK nm ps q = zs.take j ++ q :: zs.drop j) := by show _ = _; rw [HP.out, insK, htw.1, htw.2]
      clear htw HALL
      have i3 : (j : Int) ≤ (cz : Int) := by omega
      by_cases hj1 : j < zs.length
      · obtain ⟨bz, oz, rfl, hbz, _, hcz⟩ := hz4 (by omega)
        have c1 := hcz (j * 3) (stV zs[j].1.name) (by have := cellsF_get zs j 0 hj1 (by omega); rw [Nat.add_zero] at this; rw [this]; rfl)
        have hd : Op.bytesLess zs[j].1.name q.1.name = false := by
          rw [bytesLess_eq]
          cases hk : ltB zs[j].1.name q.1.name with
          | false => rfl
          | true => exact absurd ⟨hj1, by rw [List.getElem?_eq_getElem hj1]; exact hk⟩ hjl
        have c1 := (hBB.cell (p := ⟨bz, oz + j * 3, none⟩) hbz).trans c1
        clear hcz hz4 hjl
        generalize zs[j] = y at *
        unfold stV at c1
        have i2 : (j : Int) < (zs.length : Int) := by omega
        have i4 : ¬ cz = j := by omega
        go_wp2
        go_quiet (fail)
        go_wp2
        have hBq : Below w2.heap.size w2 (wr.drewN nq) := below_drewN' hBB _
        have cr0 := (below_drewN' (Below.refl wr.heap.size wr) nq)
        have cq0' : (wr.drewN nq).cell? ⟨w.heap.size, 0, none⟩ = some (.string ⟨q.1.name.toArray⟩) := cq0
        have cq1' : (wr.drewN nq).cell? ⟨w.heap.size, 1, none⟩ = some (.slice a2 q.1.b.length cap2) := cq1
        have cq2' : (wr.drewN nq).cell? ⟨w.heap.size, 2, none⟩ = some (.int .i64 (q.1.dur : Int)) := cq2
        have hlt3 : w.heap.size < (wr.drewN nq).heap.size := Nat.lt_of_lt_of_le hlt2 hBq.size
        clear cq0 cq1 cq2 cr0
        generalize wr.drewN nq = wq at *
        have hrw : Row (fun _ => False) wq (.slice (some ⟨bz, oz, none⟩) zs.length cz) zs.length (cellsF zs) := ((Row.of_owns ho1).below hBq).mono (fun _ _ h => h.elim)
        obtain ⟨hup, hrup⟩ := run_upto tyF hrw j hj (cellsF_len zs)
        obtain ⟨ad, cd, hdn, hrdn⟩ := run_after tyF hrw j hj (cellsF_len zs)
        rw [cellsF_take zs j hj] at hrup
        rw [cellsF_drop zs j hj] at hrdn
        have hSS : ∀ W, Below wq.heap.size wq W → (Below wq.heap.size wq W ∧ W.cell? ⟨w.heap.size, 0, none⟩ = some (.string ⟨q.1.name.toArray⟩) ∧ W.cell? ⟨w.heap.size, 1, none⟩ = some (.slice a2 q.1.b.length cap2) ∧ W.cell? ⟨w.heap.size, 2, none⟩ = some (.int .i64 (q.1.dur : Int))) := fun W h => ⟨h, (h.cell (p := ⟨w.heap.size, 0, none⟩) hlt3).trans cq0', (h.cell (p := ⟨w.heap.size, 1, none⟩) hlt3).trans cq1', (h.cell (p := ⟨w.heap.size, 2, none⟩) hlt3).trans cq2'⟩
        have hSA : ∀ W C, (Below wq.heap.size wq W ∧ W.cell? ⟨w.heap.size, 0, none⟩ = some (.string ⟨q.1.name.toArray⟩) ∧ W.cell? ⟨w.heap.size, 1, none⟩ = some (.slice a2 q.1.b.length cap2) ∧ W.cell? ⟨w.heap.size, 2, none⟩ = some (.int .i64 (q.1.dur : Int))) → Below wq.heap.size wq (W.alloc C) ∧ (W.alloc C).cell? ⟨w.heap.size, 0, none⟩ = some (.string ⟨q.1.name.toArray⟩) ∧ (W.alloc C).cell? ⟨w.heap.size, 1, none⟩ = some (.slice a2 q.1.b.length cap2) ∧ (W.alloc C).cell? ⟨w.heap.size, 2, none⟩ = some (.int .i64 (q.1.dur : Int)) := fun W C h => hSS _ (h.1.alloc h.1.size C)
        have hST : ∀ W W', (Below wq.heap.size wq W ∧ W.cell? ⟨w.heap.size, 0, none⟩ = some (.string ⟨q.1.name.toArray⟩) ∧ W.cell? ⟨w.heap.size, 1, none⟩ = some (.slice a2 q.1.b.length cap2) ∧ W.cell? ⟨w.heap.size, 2, none⟩ = some (.int .i64 (q.1.dur : Int))) → Below wq.heap.size W W' → Below wq.heap.size wq W' := fun W W' h k => h.1.trans k
        have hSz : ∀ W, (Below wq.heap.size wq W ∧ W.cell? ⟨w.heap.size, 0, none⟩ = some (.string ⟨q.1.name.toArray⟩) ∧ W.cell? ⟨w.heap.size, 1, none⟩ = some (.slice a2 q.1.b.length cap2) ∧ W.cell? ⟨w.heap.size, 2, none⟩ = some (.int .i64 (q.1.dur : Int))) → wq.heap.size ≤ W.heap.size := fun W h => h.1.size
        have hSR : ∀ W v n cs, (Below wq.heap.size wq W ∧ W.cell? ⟨w.heap.size, 0, none⟩ = some (.string ⟨q.1.name.toArray⟩) ∧ W.cell? ⟨w.heap.size, 1, none⟩ = some (.slice a2 q.1.b.length cap2) ∧ W.cell? ⟨w.heap.size, 2, none⟩ = some (.int .i64 (q.1.dur : Int))) → Row (fun _ => False) wq v n cs → Row (fun _ => False) W v n cs := fun W v n cs h k => k.below h.1
        have hS0 := hSS wq.drew (Below.refl _ _).drew
        have hone1 : ∀ u ∈ cellsF (zs.take j), u.oneCell' = true := cellsF_one _ (fun p hp => hone0 p (List.mem_of_mem_take hp))
        have hone2 : ∀ u ∈ cellsF (zs.drop j), u.oneCell' = true := cellsF_one _ (fun p hp => hone0 p (List.mem_of_mem_drop hp))
        have hl1 : (cellsF (zs.take j)).length = j * 3 := by rw [cellsF_len, List.length_take]; omega
        have hl2 : (cellsF (zs.drop j)).length = (zs.length - j) * 3 := by rw [cellsF_len, List.length_drop]
        have hx1 : ∀ u ∈ cellsF [q], u.oneCell' = true := cellsF_one _ (fun p hp => by simp at hp; subst hp; rw [hsv]; rfl)
        have hlq : (cellsF [q]).length = 1 * 3 := rfl
        have hz0 : wq.heap.size ≤ wq.heap.size := Nat.le_refl _
        have hlitF : ∀ W : World, Row (fun _ => False) (W.alloc (.cells #[.string ⟨q.1.name.toArray⟩, .slice a2 q.1.b.length cap2, .int .i64 (q.1.dur : Int)] 121)) (.slice (some ⟨W.heap.size, 0, none⟩) 1 1) 1 (cellsF [q]) := fun W => by have h := Row.litF W q 121; rwa [hsv] at h
        have hown3 : ((wq.alloc (.cells #[.string ⟨q.1.name.toArray⟩, .slice a2 q.1.b.length cap2, .int .i64 (q.1.dur : Int)] 121)).alloc (.cells #[] 121)).ownsRow wq.heap.size 121 3 (.slice (some ⟨wq.heap.size + 1, 0, none⟩) 0 0) 0 [] := by
          have h := World.ownsRow_made (base := wq.heap.size) (e := 121) (size := 3) (wq.alloc (.cells #[.string ⟨q.1.name.toArray⟩, .slice a2 q.1.b.length cap2, .int .i64 (q.1.dur : Int)] 121)) #[] 0 (by simp) (by decide) rfl
          rwa [show (wq.alloc (.cells #[.string ⟨q.1.name.toArray⟩, .slice a2 q.1.b.length cap2, .int .i64 (q.1.dur : Int)] 121)).heap.size = wq.heap.size + 1 from by simp] at h
        go_region_held3 (fun W => Below wq.heap.size wq W ∧ W.cell? ⟨w.heap.size, 0, none⟩ = some (.string ⟨q.1.name.toArray⟩) ∧ W.cell? ⟨w.heap.size, 1, none⟩ = some (.slice a2 q.1.b.length cap2) ∧ W.cell? ⟨w.heap.size, 2, none⟩ = some (.int .i64 (q.1.dur : Int))) (first | assumption | exact hSA _ _ (by assumption))
          (first
            | (refine wpH_appB (base := wq.heap.size) tyF rfl (s := .tmp 26) (x := .tmp 29) rfl rfl rfl (n := 0) (xs := []) (World.ownsRow_made wq #[] 0 hz0 (by decide) rfl) (hSR _ _ _ _ (by assumption) hrup) hl1 hone1 (by unfold maxLen; omega) (by omega) (hSz _ (by assumption)) ?_; intro v1 w1 ho1 hg1 hb1; have hS1 := hSS w1 (hST _ _ (by assumption) hb1))
            | (refine wpH_appB (base := wq.heap.size) tyF rfl (s := .tmp 26) (x := .tmp 29) rfl (v := .slice (some ⟨wq.heap.size, 0, none⟩) 0 0) rfl rfl (n := 0) (xs := []) ((World.ownsRow_made wq #[] 0 hz0 (by decide) rfl).alloc _) (hSR _ _ _ _ (by assumption) hrup) hl1 hone1 (by unfold maxLen; omega) (by omega) (hSz _ (by assumption)) ?_; intro v1 w1 ho1 hg1 hb1; have hS1 := hSS w1 (hST _ _ (by assumption) hb1); have hlit := Row.grown (hlitF (wq.alloc (.cells #[] 121))).drew hg1 (by simp [Value.ownBlock]); rw [show (wq.alloc (.cells #[] 121)).heap.size = wq.heap.size + 1 from (by simp)] at hlit)
            | (refine wpH_appB (base := wq.heap.size) tyF rfl (s := .tmp 26) (x := .tmp 29) rfl (v := .slice (some ⟨wq.heap.size + 1, 0, none⟩) 0 0) rfl rfl (n := 0) (xs := []) hown3 (hSR _ _ _ _ (by assumption) hrup) hl1 hone1 (by unfold maxLen; omega) (by omega) (hSz _ (by assumption)) ?_; intro v1 w1 ho1 hg1 hb1; have hS1 := hSS w1 (hST _ _ (by assumption) hb1); have hlit := Row.grown ((hlitF wq).below ((Below.refl _ _).alloc (Nat.le_refl _) (.cells #[] 121))).drew hg1 (by simp [Value.ownBlock]))
            | (refine wpH_appB (base := wq.heap.size) tyF rfl (s := .tmp 30) (x := .tmp 32) rfl rfl rfl (ho1.alloc _) (hlitF w1) hlq hx1 (by unfold maxLen; omega) (by omega) (hSz _ (by assumption)) ?_; intro v2 w2 ho2 hg2 hb2; have hS2 := hSS w2 (hST _ _ (by assumption) hb2))
            | (refine wpH_appB (base := wq.heap.size) tyF rfl (s := .tmp 30) (x := .tmp 32) rfl rfl rfl ho1 hlit hlq hx1 (by unfold maxLen; omega) (by omega) (hSz _ (by assumption)) ?_; intro v2 w2 ho2 hg2 hb2; have hS2 := hSS w2 (hST _ _ (by assumption) hb2))
            | (refine wpH_appB (base := wq.heap.size) tyF rfl (s := .tmp 33) (x := .tmp 36) rfl rfl rfl ho2 (hSR _ _ _ _ (by assumption) hrdn) hl2 hone2 (by unfold maxLen; omega) (by omega) (hSz _ (by assumption)) ?_; intro v3 w3 ho3 hg3 hb3; have hS3 := hSS w3 (hST _ _ (by assumption) hb3)))
        all_goals
          have hE := owns_base ho3 (show w.heap.size ≤ wq.heap.size from Nat.le_of_lt hlt3)
          rw [show 0 + j + 1 + (zs.length - j) = (zs.take j ++ q :: zs.drop j).length by simp; omega, show [] ++ cellsF (zs.take j) ++ cellsF [q] ++ cellsF (zs.drop j) = cellsF (zs.take j ++ q :: zs.drop j) by rw [List.nil_append, ← cellsF_append, ← cellsF_append, List.append_assoc]; rfl] at hE
          rw [← HT3.out] at hE
          have hbE := (hbw.trans (hBq.mono hbw.size)).trans (hS3.1.mono (Nat.le_of_lt hlt3))
          go_wp2
          go_ret
          exact ⟨_, rfl, hE, hbE⟩
      · have i2 : ¬ (j : Int) < (zs.length : Int) := by omega
        clear hjl hz4
        go_wp2
        go_quiet (fail)
        go_wp2
        have hBq : Below w2.heap.size w2 (wr.drewN nq) := below_drewN' hBB _
        have cr0 := (below_drewN' (Below.refl wr.heap.size wr) nq)
        have cq0' : (wr.drewN nq).cell? ⟨w.heap.size, 0, none⟩ = some (.string ⟨q.1.name.toArray⟩) := cq0
        have cq1' : (wr.drewN nq).cell? ⟨w.heap.size, 1, none⟩ = some (.slice a2 q.1.b.length cap2) := cq1
        have cq2' : (wr.drewN nq).cell? ⟨w.heap.size, 2, none⟩ = some (.int .i64 (q.1.dur : Int)) := cq2
        have hlt3 : w.heap.size < (wr.drewN nq).heap.size := Nat.lt_of_lt_of_le hlt2 hBq.size
        clear cq0 cq1 cq2 cr0
        generalize wr.drewN nq = wq at *
        have hrw : Row (fun _ => False) wq (.slice az zs.length cz) zs.length (cellsF zs) := ((Row.of_owns ho1).below hBq).mono (fun _ _ h => h.elim)
        obtain ⟨hup, hrup⟩ := run_upto tyF hrw j hj (cellsF_len zs)
        obtain ⟨ad, cd, hdn, hrdn⟩ := run_after tyF hrw j hj (cellsF_len zs)
        rw [cellsF_take zs j hj] at hrup
        rw [cellsF_drop zs j hj] at hrdn
        have hSS : ∀ W, Below wq.heap.size wq W → (Below wq.heap.size wq W ∧ W.cell? ⟨w.heap.size, 0, none⟩ = some (.string ⟨q.1.name.toArray⟩) ∧ W.cell? ⟨w.heap.size, 1, none⟩ = some (.slice a2 q.1.b.length cap2) ∧ W.cell? ⟨w.heap.size, 2, none⟩ = some (.int .i64 (q.1.dur : Int))) := fun W h => ⟨h, (h.cell (p := ⟨w.heap.size, 0, none⟩) hlt3).trans cq0', (h.cell (p := ⟨w.heap.size, 1, none⟩) hlt3).trans cq1', (h.cell (p := ⟨w.heap.size, 2, none⟩) hlt3).trans cq2'⟩
        have hSA : ∀ W C, (Below wq.heap.size wq W ∧ W.cell? ⟨w.heap.size, 0, none⟩ = some (.string ⟨q.1.name.toArray⟩) ∧ W.cell? ⟨w.heap.size, 1, none⟩ = some (.slice a2 q.1.b.length cap2) ∧ W.cell? ⟨w.heap.size, 2, none⟩ = some (.int .i64 (q.1.dur : Int))) → Below wq.heap.size wq (W.alloc C) ∧ (W.alloc C).cell? ⟨w.heap.size, 0, none⟩ = some (.string ⟨q.1.name.toArray⟩) ∧ (W.alloc C).cell? ⟨w.heap.size, 1, none⟩ = some (.slice a2 q.1.b.length cap2) ∧ (W.alloc C).cell? ⟨w.heap.size, 2, none⟩ = some (.int .i64 (q.1.dur : Int)) := fun W C h => hSS _ (h.1.alloc h.1.size C)
        have hST : ∀ W W', (Below wq.heap.size wq W ∧ W.cell? ⟨w.heap.size, 0, none⟩ = some (.string ⟨q.1.name.toArray⟩) ∧ W.cell? ⟨w.heap.size, 1, none⟩ = some (.slice a2 q.1.b.length cap2) ∧ W.cell? ⟨w.heap.size, 2, none⟩ = some (.int .i64 (q.1.dur : Int))) → Below wq.heap.size W W' → Below wq.heap.size wq W' := fun W W' h k => h.1.trans k
        have hSz : ∀ W, (Below wq.heap.size wq W ∧ W.cell? ⟨w.heap.size, 0, none⟩ = some (.string ⟨q.1.name.toArray⟩) ∧ W.cell? ⟨w.heap.size, 1, none⟩ = some (.slice a2 q.1.b.length cap2) ∧ W.cell? ⟨w.heap.size, 2, none⟩ = some (.int .i64 (q.1.dur : Int))) → wq.heap.size ≤ W.heap.size := fun W h => h.1.size
        have hSR : ∀ W v n cs, (Below wq.heap.size wq W ∧ W.cell? ⟨w.heap.size, 0, none⟩ = some (.string ⟨q.1.name.toArray⟩) ∧ W.cell? ⟨w.heap.size, 1, none⟩ = some (.slice a2 q.1.b.length cap2) ∧ W.cell? ⟨w.heap.size, 2, none⟩ = some (.int .i64 (q.1.dur : Int))) → Row (fun _ => False) wq v n cs → Row (fun _ => False) W v n cs := fun W v n cs h k => k.below h.1
        have hS0 := hSS wq.drew (Below.refl _ _).drew
        have hone1 : ∀ u ∈ cellsF (zs.take j), u.oneCell' = true := cellsF_one _ (fun p hp => hone0 p (List.mem_of_mem_take hp))
        have hone2 : ∀ u ∈ cellsF (zs.drop j), u.oneCell' = true := cellsF_one _ (fun p hp => hone0 p (List.mem_of_mem_drop hp))
        have hl1 : (cellsF (zs.take j)).length = j * 3 := by rw [cellsF_len, List.length_take]; omega
        have hl2 : (cellsF (zs.drop j)).length = (zs.length - j) * 3 := by rw [cellsF_len, List.length_drop]
        have hx1 : ∀ u ∈ cellsF [q], u.oneCell' = true := cellsF_one _ (fun p hp => by simp at hp; subst hp; rw [hsv]; rfl)
        have hlq : (cellsF [q]).length = 1 * 3 := rfl
        have hz0 : wq.heap.size ≤ wq.heap.size := Nat.le_refl _
        have hlitF : ∀ W : World, Row (fun _ => False) (W.alloc (.cells #[.string ⟨q.1.name.toArray⟩, .slice a2 q.1.b.length cap2, .int .i64 (q.1.dur : Int)] 121)) (.slice (some ⟨W.heap.size, 0, none⟩) 1 1) 1 (cellsF [q]) := fun W => by have h := Row.litF W q 121; rwa [hsv] at h
        have hown3 : ((wq.alloc (.cells #[.string ⟨q.1.name.toArray⟩, .slice a2 q.1.b.length cap2, .int .i64 (q.1.dur : Int)] 121)).alloc (.cells #[] 121)).ownsRow wq.heap.size 121 3 (.slice (some ⟨wq.heap.size + 1, 0, none⟩) 0 0) 0 [] := by
          have h := World.ownsRow_made (base := wq.heap.size) (e := 121) (size := 3) (wq.alloc (.cells #[.string ⟨q.1.name.toArray⟩, .slice a2 q.1.b.length cap2, .int .i64 (q.1.dur : Int)] 121)) #[] 0 (by simp) (by decide) rfl
          rwa [show (wq.alloc (.cells #[.string ⟨q.1.name.toArray⟩, .slice a2 q.1.b.length cap2, .int .i64 (q.1.dur : Int)] 121)).heap.size = wq.heap.size + 1 from by simp] at h
        go_region_held3 (fun W => Below wq.heap.size wq W ∧ W.cell? ⟨w.heap.size, 0, none⟩ = some (.string ⟨q.1.name.toArray⟩) ∧ W.cell? ⟨w.heap.size, 1, none⟩ = some (.slice a2 q.1.b.length cap2) ∧ W.cell? ⟨w.heap.size, 2, none⟩ = some (.int .i64 (q.1.dur : Int))) (first | assumption | exact hSA _ _ (by assumption))
          (first
            | (refine wpH_appB (base := wq.heap.size) tyF rfl (s := .tmp 26) (x := .tmp 29) rfl rfl rfl (n := 0) (xs := []) (World.ownsRow_made wq #[] 0 hz0 (by decide) rfl) (hSR _ _ _ _ (by assumption) hrup) hl1 hone1 (by unfold maxLen; omega) (by omega) (hSz _ (by assumption)) ?_; intro v1 w1 ho1 hg1 hb1; have hS1 := hSS w1 (hST _ _ (by assumption) hb1))
            | (refine wpH_appB (base := wq.heap.size) tyF rfl (s := .tmp 26) (x := .tmp 29) rfl (v := .slice (some ⟨wq.heap.size, 0, none⟩) 0 0) rfl rfl (n := 0) (xs := []) ((World.ownsRow_made wq #[] 0 hz0 (by decide) rfl).alloc _) (hSR _ _ _ _ (by assumption) hrup) hl1 hone1 (by unfold maxLen; omega) (by omega) (hSz _ (by assumption)) ?_; intro v1 w1 ho1 hg1 hb1; have hS1 := hSS w1 (hST _ _ (by assumption) hb1); have hlit := Row.grown (hlitF (wq.alloc (.cells #[] 121))).drew hg1 (by simp [Value.ownBlock]); rw [show (wq.alloc (.cells #[] 121)).heap.size = wq.heap.size + 1 from (by simp)] at hlit)
            | (refine wpH_appB (base := wq.heap.size) tyF rfl (s := .tmp 26) (x := .tmp 29) rfl (v := .slice (some ⟨wq.heap.size + 1, 0, none⟩) 0 0) rfl rfl (n := 0) (xs := []) hown3 (hSR _ _ _ _ (by assumption) hrup) hl1 hone1 (by unfold maxLen; omega) (by omega) (hSz _ (by assumption)) ?_; intro v1 w1 ho1 hg1 hb1; have hS1 := hSS w1 (hST _ _ (by assumption) hb1); have hlit := Row.grown ((hlitF wq).below ((Below.refl _ _).alloc (Nat.le_refl _) (.cells #[] 121))).drew hg1 (by simp [Value.ownBlock]))
            | (refine wpH_appB (base := wq.heap.size) tyF rfl (s := .tmp 30) (x := .tmp 32) rfl rfl rfl (ho1.alloc _) (hlitF w1) hlq hx1 (by unfold maxLen; omega) (by omega) (hSz _ (by assumption)) ?_; intro v2 w2 ho2 hg2 hb2; have hS2 := hSS w2 (hST _ _ (by assumption) hb2))
            | (refine wpH_appB (base := wq.heap.size) tyF rfl (s := .tmp 30) (x := .tmp 32) rfl rfl rfl ho1 hlit hlq hx1 (by unfold maxLen; omega) (by omega) (hSz _ (by assumption)) ?_; intro v2 w2 ho2 hg2 hb2; have hS2 := hSS w2 (hST _ _ (by assumption) hb2))
            | (refine wpH_appB (base := wq.heap.size) tyF rfl (s := .tmp 33) (x := .tmp 36) rfl rfl rfl ho2 (hSR _ _ _ _ (by assumption) hrdn) hl2 hone2 (by unfold maxLen; omega) (by omega) (hSz _ (by assumption)) ?_; intro v3 w3 ho3 hg3 hb3; have hS3 := hSS w3 (hST _ _ (by assumption) hb3)))
        all_goals
          have hE := owns_base ho3 (show w.heap.size ≤ wq.heap.size from Nat.le_of_lt hlt3)
          rw [show 0 + j + 1 + (zs.length - j) = (zs.take j ++ q :: zs.drop j).length by simp; omega, show [] ++ cellsF (zs.take j) ++ cellsF [q] ++ cellsF (zs.drop j) = cellsF (zs.take j ++ q :: zs.drop j) by rw [List.nil_append, ← cellsF_append, ← cellsF_append, List.append_assoc]; rfl] at hE
          rw [← HT3.out] at hE
          have hbE := (hbw.trans (hBq.mono hbw.size)).trans (hS3.1.mono (Nat.le_of_lt hlt3))
          go_wp2
          go_ret
          exact ⟨_, rfl, hE, hbE⟩

end Go.Proofs.YtepceidajmedeaaGreatDoor
