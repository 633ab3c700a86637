/- Lemmas for a law of this seat, part 25: contracts of the functions that it reaches, and the plain law. No condition but those of each lemma. -/
import Derived.Test.YtepceidajmedeaaGreatDoorWal22
import Derived.Test.YtepceidajmedeaaGreatDoorWal23
import Derived.Test.YtepceidajmedeaaGreatDoorWal11
import Derived.Test.YtepceidajmedeaaGreatDoorWal24
import Derived.Test.YtepceidajmedeaaGreatDoorWal7
import Derived.Test.YtepceidajmedeaaGreatDoorWal13
import Derived.Test.YtepceidajmedeaaGreatDoorWal21

namespace Go.Proofs.YtepceidajmedeaaGreatDoor
open Go.RowKit CW

def recOf (D : DiskA) (z : Int) : List Bytes := (splitB (readA D (nameB z.toNat)).1).1
def recordsA (D : DiskA) : List Bytes := (segsB (D.files.map FileA.name)).flatMap (recOf D)

/-- A slice of slices of bytes, of the call's own. -/
def OwnBB (B : Nat) (w : World) (v : Value) (rs : List Bytes) : Prop :=
  ∃ vs : List Value, vs.length = rs.length ∧ w.ownsRow B 30 1 v rs.length vs ∧ ∀ (i : Nat) (u : Value) (bs : Bytes), vs[i]? = some u → rs[i]? = some bs → SlB (fun k => k < B ∨ some k = v.ownBlock) w u bs

theorem OwnBB.nil {B : Nat} {w : World} : OwnBB B w (.slice none 0 0) [] := ⟨[], rfl, World.ownsRow_nil _ _ _ _, fun i u bs h => by simp at h⟩
theorem OwnBB.below {B : Nat} {w w' : World} {v : Value} {rs : List Bytes} (h : OwnBB B w v rs) (hb : Below w.heap.size w w') : OwnBB B w' v rs := by
  obtain ⟨vs, h1, h2, h3⟩ := h
  exact ⟨vs, h1, owns_below h2 hb, fun i u bs hu hs => (h3 i u bs hu hs).below hb⟩
theorem OwnBB.sl {B : Nat} {M : Nat → Prop} {w : World} {v : Value} {rs : List Bytes} (h : OwnBB B w v rs) (hM : ∀ k, M k → k < B) : SlBB M w v rs := by
  obtain ⟨vs, h1, h2, h3⟩ := h
  exact ⟨vs, h1, (Row.of_owns h2).mono (fun k _ hk => hM k hk), fun i u bs hu hs => (h3 i u bs hu hs).mono (fun k _ hk => .inl (hM k hk))⟩

theorem one_of_slbb {M : Nat → Prop} {w : World} {rs : List Bytes} {vs : List Value} (hl : vs.length = rs.length) (h3 : ∀ (i : Nat) (u : Value) (bs : Bytes), vs[i]? = some u → rs[i]? = some bs → SlB M w u bs) : ∀ u ∈ vs, u.oneCell' = true := by
  intro u hu
  obtain ⟨i, hi, rfl⟩ := List.mem_iff_getElem.1 hu
  obtain ⟨a, cap, e, _⟩ := (h3 i vs[i] (rs[i]'(by omega)) (List.getElem?_eq_getElem hi) (List.getElem?_eq_getElem (by omega))).shape
  rw [e]
  rfl

theorem OwnBB.app {B : Nat} {w w' : World} {rs xs : List Bytes} {vs us : List Value} {v v' : Value} (hl : vs.length = rs.length) (h3 : ∀ (i : Nat) (u : Value) (bs : Bytes), vs[i]? = some u → rs[i]? = some bs → SlB (fun k => k < B ∨ some k = v.ownBlock) w u bs)
    (hl2 : us.length = xs.length) (h4 : ∀ (i : Nat) (u : Value) (bs : Bytes), us[i]? = some u → xs[i]? = some bs → SlB (fun k => k < B ∨ some k = v.ownBlock) w u bs)
    (ho : w'.ownsRow B 30 1 v' (rs.length + xs.length) (vs ++ us)) (hg : w.grownBy w' v.ownBlock) (hat : v'.ownBlock = v.ownBlock ∨ v'.ownBlock = some w.heap.size) : OwnBB B w' v' (rs ++ xs) := by
  have hf : Fr (fun k => some k = v.ownBlock) w w' := ⟨hg.os, hg.tape, hg.output, hg.size, fun k hk hn => hg.block k hk hn⟩
  have hsub : ∀ (u : Value) (bs : Bytes), SlB (fun k => k < B ∨ some k = v.ownBlock) w u bs → SlB (fun k => k < B ∨ some k = v'.ownBlock) w' u bs := fun u bs h => h.fr hf (fun k hk => .inr hk) (fun k hk hk' => by
    rcases hk' with hk' | hk'
    · exact .inl hk'
    · rcases hat with e | e
      · exact .inr (by rw [← e]; exact hk')
      · rw [e] at hk'
        have := Option.some.inj hk'
        omega)
  refine ⟨vs ++ us, by simp [hl, hl2], by rw [List.length_append]; exact ho, fun i u bs hu hs => ?_⟩
  rcases Nat.lt_or_ge i vs.length with hi | hi
  · rw [List.getElem?_append_left hi] at hu
    rw [List.getElem?_append_left (by omega)] at hs
    exact hsub _ _ (h3 i u bs hu hs)
  · rw [List.getElem?_append_right hi] at hu
    rw [List.getElem?_append_right (by omega)] at hs
    rw [← hl] at hs
    exact hsub _ _ (h4 _ u bs hu hs)

theorem flatMap_take_succ (D : DiskA) (zs : List Int) (k : Nat) (h : k < zs.length) : (zs.take (k + 1)).flatMap (recOf D) = (zs.take k).flatMap (recOf D) ++ recOf D zs[k] := by
  rw [List.take_succ_eq_append_getElem h, List.flatMap_append]
  simp
theorem flatMap_take_le (D : DiskA) (zs : List Int) (k : Nat) : ((zs.take k).flatMap (recOf D)).length ≤ (zs.flatMap (recOf D)).length := by
  conv => rhs; rw [← List.take_append_drop k zs, List.flatMap_append, List.length_append]
  omega

set_option maxHeartbeats 2000000 in
set_option maxRecDepth 100000 in
theorem records_any {S : Nat → Prop} (D : DiskA) (d : Nat) (w : World) (h : DiskAt S w d D) (hd : D.down = false) (hl : D.files.length ≤ 1048576) (hu : usedF D.files ≤ 1099511627776) (hz : ∀ z ∈ segsB (D.files.map FileA.name), 1 ≤ z ∧ z < 100) (hc : (recordsA D).length ≤ 1048576) :
    Calls Tryz.prog 20 #[.pointer (some ⟨d, 0, none⟩)] w fun e w' => ∃ v, e = .returned v ∧ OwnBB w.heap.size w' v (recordsA D) ∧ Below w.heap.size w w' := by
  have hls := disklist_any w h hl
  have hnm : D.files.map (fun f => stV f.name) = (D.files.map FileA.name).map stV := by rw [List.map_map]; rfl
  rw [hnm] at hls
  have hsg := fun (v : Value) (W : World) (hv : SlS (fun _ => False) W v (D.files.map FileA.name)) => seglist_any v (D.files.map FileA.name) W hv (by rw [List.length_map]; omega)
  have HLEN : Hid (D.files.length = (D.files.map FileA.name).length) := by show _ = _; rw [List.length_map]
  have hrd : ∀ z, ∀ W, Below w.heap.size w W → Calls Tryz.prog 56 #[.pointer (some ⟨d, 0, none⟩), .string ⟨(nameB z).toArray⟩] W fun e w' => ∃ v, e = .returned (.tuple #[v, .int .i64 (readA D (nameB z)).2]) ∧ Row (fun k => k < W.heap.size) w' v (readA D (nameB z)).1.length ((readA D (nameB z)).1.map encB) ∧ Below W.heap.size W w' := fun z W hW => read_any D d W (h.below hW) (nameB z) (by rw [nameB_length]; omega) hd hu
  have hrl : ∀ z, (readA D (nameB z)).1.length ≤ 1099511627776 := fun z => by
    unfold readA
    rcases hx : findF D.files (nameB z) with _ | i
    · simp
    · obtain ⟨hi, _⟩ := findK_some hx
      simp only [Option.bind_some, List.getElem?_eq_getElem hi]
      exact Nat.le_trans (usedF_mem (List.getElem_mem hi)) hu
  have hrA : recordsA D = (segsB (D.files.map FileA.name)).flatMap (recOf D) := rfl
  generalize segsB (D.files.map FileA.name) = zs at *
  generalize D.files.map FileA.name = ss at *
  clear hnm h hl hu hd
  go_enter Tryz.func20, Tryz.ntmps20
  go_wp2_with (first
    | (go_at_call 25; refine hls.mono ?_; rintro e w1 ⟨v1, rfl, ho1, hB1⟩; have hs1 := hsg v1 w1 (by have := (Row.of_owns ho1).mono (M' := fun _ => False) (fun _ _ h => h.elim); rw [HLEN.out] at this; exact this))
    | (go_at_call 24; refine hs1.mono ?_; rintro e w2 ⟨v2, rfl, ho2, hB2⟩; have hrz := (Row.of_owns ho2).open; obtain ⟨az, cz, rfl, hz1, hz2, hz3, hz4⟩ := hrz))
  have hB12 : Below w.heap.size w w2 := hB1.trans (hB2.mono hB1.size)
  go_loopw [3, 16] (fun out i wr => ∃ k : Nat, k ≤ zs.length ∧ i = .int .i64 k ∧ OwnBB w2.heap.size wr out ((zs.take k).flatMap (recOf D)) ∧ Hid (Below w2.heap.size w2 wr)) (fun _ i _ => zs.length - (intOf i).toNat)
  case atStart => exact ⟨0, by omega, rfl, OwnBB.nil, Below.refl _ _⟩
  case round =>
    obtain ⟨k, hk, rfl, hown, HB⟩ := hrel
    have hBr := HB.out
    have hBw : Below w.heap.size w wr := hB12.trans (hBr.mono hB12.size)
    by_cases hlt : k < zs.length
    · obtain ⟨bz, oz, rfl, hbz, _, hcz⟩ := hz4 (by omega)
      have c1 := (hBr.cell (p := ⟨bz, oz + k, none⟩) hbz).trans (hcz k (.int .i64 zs[k]) (by simp [ints, hlt]))
      have hzk := hz zs[k] (List.getElem_mem hlt)
      have HT : Hid ((zs.take (k + 1)).flatMap (recOf D) = (zs.take k).flatMap (recOf D) ++ recOf D zs[k]) := flatMap_take_succ D zs k hlt
      have hle := flatMap_take_le D zs (k + 1)
      rw [HT.out, List.length_append, ← hrA] at hle
      clear hcz hz4
      generalize (zs.take k).flatMap (recOf D) = rs at *
      obtain ⟨n, hn⟩ : ∃ n : Nat, zs[k] = (n : Int) := ⟨zs[k].toNat, by omega⟩
      rw [hn] at c1 hzk HT hle
      clear hn
      have hrec : recOf D (n : Int) = (splitB (readA D (nameB n)).1).1 := rfl
      rw [hrec] at HT hle
      have hn1 := name_any n wr (by omega) (by omega)
      have hrd1 := fun W hW => hrd n W hW
      have hrl1 := hrl n
      have i1 : (k : Int) < (zs.length : Int) := by omega
      clear hrd hrl hrec
      generalize nameB n = nb at *
      generalize readA D nb = RR at *
      obtain ⟨vs, hvl, hvo, hve⟩ := hown
      go_wp2_with (first
        | (go_at_call 55; refine hn1.mono ?_; rintro e w3 ⟨rfl, hB3⟩; have hBw3 := hBw.trans (hB3.mono hBw.size))
        | (go_at_call 56; refine (hrd1 _ hBw3).mono ?_; rintro e w4 ⟨v4, rfl, hr4, hB4⟩; have hsp := split_any v4 RR.1 w4 (Row.mono hr4 (fun _ _ h => h.elim)) (by omega))
        | (go_at_call 70; refine hsp.mono ?_; rintro e w5 ⟨v5, rfl, hs5, hB5⟩; obtain ⟨us, hul, hur, hue⟩ := hs5; have hB35 : Below wr.heap.size wr w5 := (hB3.trans (hB4.mono hB3.size)).trans (hB5.mono (Nat.le_trans hB3.size hB4.size)); have hvo5 := owns_below hvo hB35; have hBr5 := hBr.trans (hB35.mono hBr.size))
        | (at_builtin; refine wpList_app_at tyBB rfl rfl rfl rfl hvo5 hur (by simp; omega) (one_of_slbb hul hue) (by unfold maxLen; omega) (by omega) hBr5.size ?_; intro v6 w6 ho6 hg6 hat6))
      have hve5 : ∀ (i : Nat) (u : Value) (bs : Bytes), vs[i]? = some u → rs[i]? = some bs → SlB _ w5 u bs := fun i u bs h1 h2 => (hve i u bs h1 h2).below hB35
      have hfin := OwnBB.app hvl hve5 hul (fun i u bs h1 h2 => (hue i u bs h1 h2).mono (fun q hq hq' => by
        have hz4' := hB4.size
        have hz3' := hB3.size
        have hzr' := hBr.size
        rcases hq' with hq' | hq'
        · omega
        · rcases hvo.2 with ⟨hv, _⟩ | ⟨g, cap, cur, hv, _, hh, _⟩
          · rw [hv] at hq'; cases hq'
          · rw [hv] at hq'
            have e : q = g := Option.some.inj hq'
            have := (Array.getElem?_eq_some_iff.1 hh).1
            omega)) ho6 hg6 hat6
      have hB6 : Below w2.heap.size w2 w6 := hBr5.trans (below_grown hvo5 hg6 hBr5.size)
      go_roundw
      case rel => exact ⟨k + 1, by omega, by go_num, by rw [HT.out]; exact hfin, hB6⟩
      case measure => simp [intOf]; omega
    · have htk : zs.take k = zs := List.take_of_length_le (by omega)
      rw [htk, ← hrA] at hown
      go_wp2
      go_ret
      obtain ⟨vs, h1, h2, h3⟩ := hown
      exact ⟨_, rfl, ⟨vs, h1, owns_base h2 hB12.size, fun i u bs hu hs => (h3 i u bs hu hs).mono (fun q _ hq => hq.imp (fun h => Nat.lt_of_lt_of_le h hB12.size) id)⟩, hBw⟩

end Go.Proofs.YtepceidajmedeaaGreatDoor

namespace Go.Proofs.YtepceidajmedeaaGreatDoor
open CW Go

theorem pair_numsB (ss : List Bytes) (h : ss.Pairwise (fun a b => ltB a b = true)) : (numsB ss).Pairwise (· < ·) := by
  unfold numsB
  rw [List.pairwise_filterMap]
  refine h.imp ?_
  intro a b hab x hx y hy
  rw [Option.map_eq_some_iff] at hx hy
  obtain ⟨n, hn, rfl⟩ := hx
  obtain ⟨m, hm, rfl⟩ := hy
  have := numB_lt hn hm hab
  show (n : Int) < (m : Int)
  omega

theorem sort_pair (zs : List Int) (h : zs.Pairwise (· < ·)) : (zs.mergeSort fun x y => decide (x ≤ y)) = zs :=
  List.mergeSort_of_pairwise (h.imp fun hab => by simp; omega)

theorem compact_pair (zs : List Int) (h : zs.Pairwise (· < ·)) : Lib.compact zs = zs := by
  refine Lib.compact_all zs (fun j hj => ?_)
  unfold Lib.keeps
  rcases Nat.eq_zero_or_pos j with h0 | h0
  · simp [h0]
  · have h1 : zs[j - 1] < zs[j] := List.pairwise_iff_getElem.1 h (j - 1) j (by omega) hj (by omega)
    have e1 : zs.toArray[j]! = zs[j] := by rw [getElem!_pos zs.toArray j (by simpa using hj)]; simp
    have e2 : zs.toArray[j - 1]! = zs[j - 1] := by rw [getElem!_pos zs.toArray (j - 1) (by simp; omega)]; simp
    rw [e1, e2]
    simp only [decide_eq_true_eq]
    right
    omega

theorem segsB_sorted (ss : List Bytes) (h : ss.Pairwise (fun a b => ltB a b = true)) : segsB ss = numsB ss := by
  have hp := pair_numsB ss h
  unfold segsB
  rw [sort_pair _ hp, compact_pair _ hp]

theorem insU_end (zs : List Int) (n : Int) (h : ∀ z ∈ zs, z < n) : insU zs n = zs ++ [n] := by
  have hn : n ∉ zs := fun hm => by have := h n hm; omega
  unfold insU
  rw [if_neg hn, (takeWhile_all (fun z hz => by simpa using h z hz)).1, (takeWhile_all (fun z hz => by simpa using h z hz)).2]

theorem list7_sorted (ss : List Bytes) (h : ss.Pairwise (fun a b => ltB a b = true)) : list7 ss = numsB ss := by
  have hp := pair_numsB ss h
  suffices H : ∀ k, k ≤ ss.length → list7 (ss.take k) = numsB (ss.take k) by
    have := H ss.length (Nat.le_refl _)
    rwa [List.take_length] at this
  intro k
  induction k with
  | zero => intro _; rfl
  | succ k ih =>
    intro hk
    rw [list7_take ss k hk, numsB_take ss k hk, ih (by omega)]
    have hpt : (numsB (ss.take (k + 1))).Pairwise (· < ·) := pair_numsB _ (h.sublist (List.take_sublist _ _))
    rw [numsB_take ss k hk] at hpt
    generalize numB ss[k] = o at *
    cases o with
    | none => exact (List.append_nil _).symm
    | some n =>
      refine insU_end _ _ (fun z hz => ?_)
      exact (List.pairwise_append.1 hpt).2.2 z hz n (by simp)

theorem segs_list7 (ss : List Bytes) (h : ss.Pairwise (fun a b => ltB a b = true)) : list7 ss = segsB ss := (list7_sorted ss h).trans (segsB_sorted ss h).symm

/-- The numbers from k on. -/
def upI (k : Nat) : Nat → List Int
  | 0 => []
  | n + 1 => (k : Int) :: upI (k + 1) n
theorem upI_ge (n : Nat) : ∀ k, ∀ z ∈ upI k n, (k : Int) ≤ z ∧ z < (k : Int) + n := by
  induction n with
  | zero => intro k z hz; cases hz
  | succ n ih =>
    intro k z hz
    rcases List.mem_cons.1 hz with rfl | hz
    · omega
    · have := ih (k + 1) z hz; omega
theorem upI_len (n : Nat) : ∀ k, (upI k n).length = n := by
  induction n with
  | zero => intro k; rfl
  | succ n ih => intro k; show (upI (k + 1) n).length + 1 = _; rw [ih]
theorem upI_pair (n : Nat) : ∀ k, (upI k n).Pairwise (· < ·) := by
  induction n with
  | zero => intro k; exact .nil
  | succ n ih =>
    intro k
    refine List.pairwise_cons.2 ⟨fun z hz => ?_, ih (k + 1)⟩
    have := upI_ge n (k + 1) z hz
    omega
theorem gap_upI (n : Nat) : ∀ k, gapS (upI k n) = 0 := by
  induction n with
  | zero => intro k; rfl
  | succ n ih =>
    intro k
    match n, ih with
    | 0, _ => rfl
    | n + 1, ih =>
      show gapS ((k : Int) :: ((k + 1 : Nat) : Int) :: upI (k + 1 + 1) n) = 0
      rw [gapS, if_neg (by omega)]
      exact ih (k + 1)

theorem gapB_upI (k n : Nat) : gapB (upI k n) = 0 := by
  unfold gapB
  rw [sort_pair _ (upI_pair n k), gap_upI]

end Go.Proofs.YtepceidajmedeaaGreatDoor

namespace Go.Proofs.YtepceidajmedeaaGreatDoor
open CW Go

/-- Names and bytes of segments. -/
def segF (k : Nat) : List (List Bytes) → List (Bytes × Bytes)
  | [] => []
  | g :: gs => (nameB k, framesB g) :: segF (k + 1) gs
abbrev nbF (f : FileA) : Bytes × Bytes := (f.name, f.b)

theorem segF_append (gs hs : List (List Bytes)) : ∀ k, segF k (gs ++ hs) = segF k gs ++ segF (k + gs.length) hs := by
  induction gs with
  | nil => intro k; rfl
  | cons g gs ih =>
    intro k
    show _ :: segF (k + 1) (gs ++ hs) = _ :: (segF (k + 1) gs ++ _)
    rw [ih (k + 1), List.length_cons, show k + 1 + gs.length = k + (gs.length + 1) by omega]
theorem segF_len (gs : List (List Bytes)) : ∀ k, (segF k gs).length = gs.length := by
  induction gs with
  | nil => intro k; rfl
  | cons g gs ih => intro k; show (segF (k + 1) gs).length + 1 = _; rw [ih, List.length_cons]
theorem segF_mem (gs : List (List Bytes)) : ∀ k, ∀ p ∈ segF k gs, ∃ i, k ≤ i ∧ i < k + gs.length ∧ p.1 = nameB i := by
  induction gs with
  | nil => intro k p hp; cases hp
  | cons g gs ih =>
    intro k p hp
    rcases List.mem_cons.1 hp with rfl | hp
    · exact ⟨k, Nat.le_refl _, by simp, rfl⟩
    · obtain ⟨i, h1, h2, h3⟩ := ih (k + 1) p hp
      exact ⟨i, by omega, by rw [List.length_cons]; omega, h3⟩
theorem segF_pair (gs : List (List Bytes)) : ∀ k, k + gs.length ≤ 99999999 → (segF k gs).Pairwise (fun p q => ltB p.1 q.1 = true) := by
  induction gs with
  | nil => intro k _; exact .nil
  | cons g gs ih =>
    intro k hk
    rw [List.length_cons] at hk
    refine List.pairwise_cons.2 ⟨fun p hp => ?_, ih (k + 1) (by omega)⟩
    obtain ⟨i, h1, h2, h3⟩ := segF_mem gs (k + 1) p hp
    rw [h3]
    exact nameB_lt (by omega) (by omega)

theorem putK_end {α : Type} {key : α → Bytes} {l : List α} {x : α} (h : ∀ p ∈ l, ltB (key p) (key x) = true) : putK key l x = l ++ [x] := by
  rw [putK, withoutK_of_not (fun p hp => ltB_ne (h p hp)), insK, (takeWhile_all h).1, (takeWhile_all h).2]
theorem putK_last {α : Type} {key : α → Bytes} {l : List α} {y x : α} (h : ∀ p ∈ l, ltB (key p) (key y) = true) (e : key x = key y) : putK key (l ++ [y]) x = l ++ [x] := by
  have w1 : withoutK key (l ++ [y]) (key x) = l := by
    rw [withoutK, List.filter_append, show List.filter (fun p => !(key p == key x)) l = l from withoutK_of_not (fun p hp => by rw [e]; exact ltB_ne (h p hp))]
    simp [e]
  have ha : ∀ p ∈ l, ltB (key p) (key x) = true := fun p hp => by rw [e]; exact h p hp
  rw [putK, w1, insK, (takeWhile_all ha).1, (takeWhile_all ha).2]
theorem findK_last {α : Type} {key : α → Bytes} {l : List α} {y : α} (h : ∀ p ∈ l, ltB (key p) (key y) = true) : (findK key (l ++ [y]) (key y)).bind (fun i => (l ++ [y])[i]?) = some y := by
  have : findK key (l ++ [y]) (key y) = some l.length := by
    rw [findK, List.findIdx?_eq_some_iff_getElem]
    refine ⟨by simp, by simp, fun j hj => ?_⟩
    rw [List.getElem_append_left hj]
    have := ltB_ne (h l[j] (List.getElem_mem hj))
    simpa using this
  rw [this]
  simp
theorem findK_end {α : Type} {key : α → Bytes} {l : List α} {n : Bytes} (h : ∀ p ∈ l, ltB (key p) n = true) : (findK key l n).bind (fun i => l[i]?) = none := by
  rw [findK_none.2 (fun p hp => ltB_ne (h p hp))]
  rfl

/-- What a log holds: the records rs, in the groups gs and then g. -/
structure Holds (most : Int) (L : LogA) (rs : List Bytes) (gs : List (List Bytes)) (g : List Bytes) (fs : List FileA) (f : FileA) : Prop where
  files : L.D.files = fs ++ [f]
  front : fs.map nbF = segF 1 gs
  name : f.name = nameB L.n
  bytes : f.b = framesB g
  num : L.n = gs.length + 1
  all : gs.flatten ++ g = rs
  size : L.size = f.b.length
  plan : L.D.plan = 0
  down : L.D.down = false
  room : L.D.room = 100000
  mst : L.most = most
  full : ∀ x ∈ gs, x ≠ []
  wait : L.waiting ≤ rs.length
  small : ∀ r ∈ rs, r.length ≤ 1048576

theorem flatten_len_ge (gs : List (List Bytes)) (h : ∀ x ∈ gs, x ≠ []) : gs.length ≤ gs.flatten.length := by
  induction gs with
  | nil => simp
  | cons g gs ih =>
    have h1 := h g (by simp)
    have h2 := ih (fun x hx => h x (by simp [hx]))
    have h3 : 0 < g.length := List.length_pos_iff.2 h1
    rw [List.flatten_cons, List.length_append, List.length_cons]
    omega

theorem Holds.segs {most : Int} {L : LogA} {rs : List Bytes} {gs : List (List Bytes)} {g : List Bytes} {fs : List FileA} {f : FileA} (h : Holds most L rs gs g fs f) : L.D.files.map nbF = segF 1 (gs ++ [g]) := by
  rw [h.files, List.map_append, h.front, segF_append, Nat.add_comm 1 gs.length, ← h.num]
  show _ ++ [nbF f] = _ ++ [(nameB L.n, framesB g)]
  rw [← h.name, ← h.bytes]

theorem Holds.num_le {most : Int} {L : LogA} {rs : List Bytes} {gs : List (List Bytes)} {g : List Bytes} {fs : List FileA} {f : FileA} (h : Holds most L rs gs g fs f) : L.n ≤ rs.length + 1 := by
  have h1 := flatten_len_ge gs h.full
  have h2 := congrArg List.length h.all
  rw [List.length_append] at h2
  have := h.num
  omega

theorem Holds.before {most : Int} {L : LogA} {rs : List Bytes} {gs : List (List Bytes)} {g : List Bytes} {fs : List FileA} {f : FileA} (h : Holds most L rs gs g fs f) (hn : L.n ≤ 99999999) : ∀ p ∈ fs, ltB p.name f.name = true := by
  intro p hp
  have h1 : nbF p ∈ segF 1 gs := by rw [← h.front]; exact List.mem_map_of_mem hp
  obtain ⟨i, h2, h3, h4⟩ := segF_mem gs 1 _ h1
  have h5 : p.name = nameB i := h4
  have := h.num
  rw [h5, h.name]
  exact nameB_lt (by omega) hn

theorem usedF_append (a b : List FileA) : usedF (a ++ b) = usedF a + usedF b := by simp [usedF]
theorem segF_used (gs : List (List Bytes)) : ∀ k, ((segF k gs).map (fun p => p.2.length)).sum = (gs.flatten.map (fun r => r.length + 8)).sum := by
  induction gs with
  | nil => intro k; rfl
  | cons g gs ih =>
    intro k
    show (framesB g).length + ((segF (k + 1) gs).map (fun p => p.2.length)).sum = _
    rw [ih, framesB_len, List.flatten_cons, List.map_append, List.sum_append]
theorem usedF_nb (fs : List FileA) : usedF fs = ((fs.map nbF).map (fun p => p.2.length)).sum := by rw [usedF, List.map_map]; rfl

def costB (rs : List Bytes) : Nat := (rs.map (fun r => r.length + 8)).sum
theorem Holds.used {most : Int} {L : LogA} {rs : List Bytes} {gs : List (List Bytes)} {g : List Bytes} {fs : List FileA} {f : FileA} (h : Holds most L rs gs g fs f) : usedF L.D.files = costB rs := by
  rw [usedF_nb, h.segs, segF_used, costB, List.flatten_append, ← h.all]
  simp

theorem Holds.len {most : Int} {L : LogA} {rs : List Bytes} {gs : List (List Bytes)} {g : List Bytes} {fs : List FileA} {f : FileA} (h : Holds most L rs gs g fs f) : L.D.files.length = L.n := by
  have := congrArg List.length h.segs
  rw [List.length_map, segF_len, List.length_append] at this
  rw [this, h.num]
  rfl

theorem Holds.size_le {most : Int} {L : LogA} {rs : List Bytes} {gs : List (List Bytes)} {g : List Bytes} {fs : List FileA} {f : FileA} (h : Holds most L rs gs g fs f) : L.size ≤ costB rs := by
  have h1 := h.used
  rw [h.files, usedF_append] at h1
  have h2 : usedF [f] = f.b.length := by simp [usedF]
  have := h.size
  omega

theorem Holds.ok {most : Int} {L : LogA} {rs : List Bytes} {gs : List (List Bytes)} {g : List Bytes} {fs : List FileA} {f : FileA} (h : Holds most L rs gs g fs f) (h1 : rs.length ≤ 90) (h2 : costB rs ≤ 100000) : OkL L := by
  have a1 := h.num_le
  have a2 := h.num
  have a3 := h.used
  have a4 := h.len
  have a5 := h.size_le
  have a6 := h.wait
  exact ⟨by omega, by omega, by rw [h.plan]; omega, by rw [h.plan]; omega, by omega, by omega, by omega, by omega⟩

theorem holds_start (most : Int) : Holds most (startL 100000 most) [] [] [] [] ⟨nameB 1, [], 0⟩ := by
  have e : startL 100000 most = ⟨⟨100000, [⟨nameB 1, [], 0⟩], 0, false⟩, most, 1, 0, 0⟩ := by
    unfold startL
    rw [show doA (newA 100000) .create (nameB 1) = (⟨100000, [⟨nameB 1, [], 0⟩], 0, false⟩, 0) by kernel_rfl]
  rw [e]
  exact ⟨rfl, rfl, rfl, rfl, rfl, rfl, rfl, rfl, rfl, rfl, rfl, (fun x hx => by cases hx), Nat.le_refl _, (fun r hr => by cases hr)⟩

theorem doA_calm {D : DiskA} (h1 : D.down = false) (h2 : D.plan = 0) (o : OpA) (n : Bytes) : doA D o n = bodyA D o n := by
  have e : ({ D with plan := planA D.plan } : DiskA) = D := by
    obtain ⟨r, fs, p, d⟩ := D
    simp only at h2
    subst h2
    rfl
  unfold doA
  rw [if_neg (by rw [h1]; decide), if_neg (by rw [h2]; decide), e]

/-- A file that lies last, made durable. -/
theorem do_sync_last {D : DiskA} {fs : List FileA} {f : FileA} {n : Nat} (h1 : D.down = false) (h2 : D.plan = 0) (hf : D.files = fs ++ [f]) (hn : f.name = nameB n) (hb : ∀ p ∈ fs, ltB p.name f.name = true) :
    doA D .sync (nameB n) = ({ D with files := fs ++ [⟨f.name, f.b, f.b.length⟩] }, 0) := by
  rw [doA_calm h1 h2]
  unfold bodyA
  rw [if_neg (by rw [nameB_named]; decide), hf, ← hn, findK_last hb]
  simp only
  rw [show putF (fs ++ [f]) ⟨f.name, f.b, f.b.length⟩ = fs ++ [⟨f.name, f.b, f.b.length⟩] from putK_last hb rfl]

theorem do_app_last {D : DiskA} {fs : List FileA} {f : FileA} {n : Nat} (b : Bytes) (h1 : D.down = false) (h2 : D.plan = 0) (hf : D.files = fs ++ [f]) (hn : f.name = nameB n) (hb : ∀ p ∈ fs, ltB p.name f.name = true) (hr : ((usedF D.files + b.length : Nat) : Int) ≤ D.room) :
    doA D (.append b) (nameB n) = ({ D with files := fs ++ [⟨f.name, f.b ++ b, f.dur⟩] }, 0) := by
  rw [doA_calm h1 h2]
  unfold bodyA
  rw [if_neg (by rw [nameB_named]; decide)]
  have hf' := hf
  rw [hf] at hr
  rw [hf, ← hn, findK_last hb]
  simp only
  rw [if_neg (by omega), show putF (fs ++ [f]) ⟨f.name, f.b ++ b, f.dur⟩ = fs ++ [⟨f.name, f.b ++ b, f.dur⟩] from putK_last hb rfl]

theorem do_create_end {D : DiskA} {n : Nat} (h1 : D.down = false) (h2 : D.plan = 0) (hb : ∀ p ∈ D.files, ltB p.name (nameB n) = true) :
    doA D .create (nameB n) = ({ D with files := D.files ++ [⟨nameB n, [], 0⟩] }, 0) := by
  rw [doA_calm h1 h2]
  unfold bodyA
  rw [if_neg (by rw [nameB_named]; decide), findK_end hb]
  simp only
  rw [show putF D.files ⟨nameB n, [], 0⟩ = D.files ++ [⟨nameB n, [], 0⟩] from putK_end hb]

theorem Holds.sync {most : Int} {L : LogA} {rs : List Bytes} {gs : List (List Bytes)} {g : List Bytes} {fs : List FileA} {f : FileA} (h : Holds most L rs gs g fs f) (hn : L.n ≤ 99999998) :
    doA L.D .sync (nameB L.n) = ({ L.D with files := fs ++ [⟨f.name, f.b, f.b.length⟩] }, 0) := do_sync_last h.down h.plan h.files h.name (h.before (by omega))

theorem Holds.rot {most : Int} {L : LogA} {rs : List Bytes} {gs : List (List Bytes)} {g : List Bytes} {fs : List FileA} {f : FileA} (h : Holds most L rs gs g fs f) (hn : L.n ≤ 99999998) (hs : 0 < L.size) :
    (rotA L).2 = 0 ∧ Holds most (rotA L).1 rs (gs ++ [g]) [] (fs ++ [⟨f.name, f.b, f.b.length⟩]) ⟨nameB (L.n + 1), [], 0⟩ ∧ (rotA L).1.n = L.n + 1 := by
  have hsy := h.sync hn
  have hb := h.before (by omega)
  have hcr : doA { L.D with files := fs ++ [⟨f.name, f.b, f.b.length⟩] } .create (nameB (L.n + 1)) = ({ L.D with files := (fs ++ [⟨f.name, f.b, f.b.length⟩]) ++ [⟨nameB (L.n + 1), [], 0⟩] }, 0) := by
    refine do_create_end (D := { L.D with files := fs ++ [⟨f.name, f.b, f.b.length⟩] }) h.down h.plan (fun p hp => ?_)
    have hlast : ltB f.name (nameB (L.n + 1)) = true := by rw [h.name]; exact nameB_lt (by omega) (by omega)
    rcases List.mem_append.1 hp with hp | hp
    · exact ltB_trans (hb p hp) hlast
    · rw [List.mem_singleton.1 hp]; exact hlast
  have he : rotA L = (⟨{ L.D with files := (fs ++ [⟨f.name, f.b, f.b.length⟩]) ++ [⟨nameB (L.n + 1), [], 0⟩] }, L.most, L.n + 1, 0, 0⟩, 0) := by
    unfold rotA
    simp only [hsy, ne_eq, not_true_eq_false, if_false, hcr]
  rw [he]
  refine ⟨rfl, ⟨rfl, ?_, rfl, rfl, ?_, ?_, rfl, h.plan, h.down, h.room, h.mst, ?_, Nat.zero_le _, h.small⟩, rfl⟩
  · rw [List.map_append, h.front, segF_append, Nat.add_comm 1 gs.length, ← h.num]
    show _ ++ [(f.name, f.b)] = _ ++ [(nameB L.n, framesB g)]
    rw [h.name, h.bytes]
  · show L.n + 1 = _
    rw [List.length_append, h.num]
    rfl
  · rw [List.flatten_append, ← h.all]
    simp
  · intro x hx
    rcases List.mem_append.1 hx with hx | hx
    · exact h.full x hx
    · rw [List.mem_singleton.1 hx]
      rintro rfl
      have := h.size
      rw [h.bytes] at this
      have e : framesB [] = [] := rfl
      rw [e] at this
      simp at this
      omega

theorem Holds.app {most : Int} {L : LogA} {rs : List Bytes} {gs : List (List Bytes)} {g : List Bytes} {fs : List FileA} {f : FileA} (h : Holds most L rs gs g fs f) (hn : L.n ≤ 99999998) (x : Bytes) (hx : x.length ≤ 1048576) (hr : costB rs + (x.length + 8) ≤ 100000) :
    (appA L (frameB x)).2 = 0 ∧ Holds most (appA L (frameB x)).1 (rs ++ [x]) gs (g ++ [x]) fs ⟨f.name, f.b ++ frameB x, f.dur⟩ := by
  have hu := h.used
  have hap := do_app_last (D := L.D) (n := L.n) (frameB x) h.down h.plan h.files h.name (h.before (by omega)) (by rw [hu, frameB_length, h.room]; omega)
  have he : appA L (frameB x) = (⟨{ L.D with files := fs ++ [⟨f.name, f.b ++ frameB x, f.dur⟩] }, L.most, L.n, L.size + (frameB x).length, L.waiting + 1⟩, 0) := by
    unfold appA
    simp only [hap, ne_eq, not_true_eq_false, if_false]
  rw [he]
  refine ⟨rfl, ⟨rfl, h.front, h.name, ?_, h.num, ?_, ?_, h.plan, h.down, h.room, h.mst, h.full, ?_, ?_⟩⟩
  · show f.b ++ frameB x = _
    rw [framesB_append, framesB_one, h.bytes]
  · rw [← h.all, List.append_assoc]
  · show L.size + _ = (f.b ++ frameB x).length
    rw [h.size, List.length_append]
  · show L.waiting + 1 ≤ _
    have := h.wait
    rw [List.length_append, List.length_singleton]
    omega
  · intro r hr
    rcases List.mem_append.1 hr with hr | hr
    · exact h.small r hr
    · rw [List.mem_singleton.1 hr]; exact hx

/-- One record is put. -/
theorem Holds.put {most : Int} {L : LogA} {rs : List Bytes} {gs : List (List Bytes)} {g : List Bytes} {fs : List FileA} {f : FileA} (h : Holds most L rs gs g fs f) (hn : L.n ≤ 99999990) (x : Bytes) (hx : x.length ≤ 1048576) (hr : costB rs + (x.length + 8) ≤ 100000) :
    ∃ gs' g' fs' f', Holds most (putA L x).1 (if (putA L x).2 = 0 then rs ++ [x] else rs) gs' g' fs' f' := by
  unfold putA
  by_cases h0 : x.length = 0
  · rw [if_pos h0]
    exact ⟨gs, g, fs, f, h⟩
  · rw [if_neg h0]
    have hmk : makeB x = some (frameB x) := by unfold makeB; rw [if_pos hx]
    rw [hmk]
    simp only
    by_cases hm : L.most < ((frameB x).length : Int)
    · rw [if_pos hm]
      exact ⟨gs, g, fs, f, h⟩
    · rw [if_neg hm]
      by_cases hq : 0 < L.size ∧ L.most < (L.size : Int) + ((frameB x).length : Int)
      · rw [if_pos hq]
        obtain ⟨h1, h2, h3⟩ := h.rot (by omega) hq.1
        rw [if_neg (by rw [h1]; decide)]
        obtain ⟨h4, h5⟩ := h2.app (by rw [h3]; omega) x hx hr
        rw [h4, if_pos rfl]
        exact ⟨_, _, _, _, h5⟩
      · rw [if_neg hq]
        obtain ⟨h4, h5⟩ := h.app (by omega) x hx hr
        rw [h4, if_pos rfl]
        exact ⟨_, _, _, _, h5⟩

theorem numsB_segF (gs : List (List Bytes)) : ∀ k, 1 ≤ k → k + gs.length ≤ 99999999 → numsB ((segF k gs).map (·.1)) = upI k gs.length := by
  induction gs with
  | nil => intro k _ _; rfl
  | cons g gs ih =>
    intro k h1 h2
    rw [List.length_cons] at h2
    show numsB (nameB k :: (segF (k + 1) gs).map (·.1)) = (k : Int) :: upI (k + 1) gs.length
    rw [← ih (k + 1) (by omega) (by omega)]
    unfold numsB
    rw [List.filterMap_cons, numB_nameB k h1 (by omega)]
    rfl

theorem find_sorted (fs : List FileA) (h : (fs.map nbF).Pairwise (fun p q => ltB p.1 q.1 = true)) (f : FileA) (hf : f ∈ fs) : (findF fs f.name).bind (fun i => fs[i]?) = some f := by
  induction fs with
  | nil => cases hf
  | cons a fs ih =>
    rw [List.map_cons, List.pairwise_cons] at h
    rcases List.mem_cons.1 hf with rfl | hf
    · have : findF (f :: fs) f.name = some 0 := by show List.findIdx? _ _ = _; simp [List.findIdx?_cons]
      rw [this]; rfl
    · have hlt : ltB a.name f.name = true := h.1 (nbF f) (List.mem_map_of_mem hf)
      have hne : (a.name == f.name) = false := beq_eq_false_iff_ne.2 (ltB_ne hlt)
      have hi := ih h.2 hf
      have : findF (a :: fs) f.name = (findF fs f.name).map (· + 1) := by
        show List.findIdx? _ _ = _
        rw [List.findIdx?_cons]
        simp only [hne]
        rfl
      rw [this]
      rcases hq : findF fs f.name with _ | i
      · rw [hq] at hi; cases hi
      · rw [hq] at hi; exact hi

theorem recOf_all (D : DiskA) (gs : List (List Bytes)) (h : D.files.map nbF = segF 1 gs) (hl : gs.length ≤ 99999990) (hs : ∀ g ∈ gs, ∀ r ∈ g, r.length ≤ 1048576) : ∀ (hs' : List (List Bytes)) (k : Nat), (∃ pre, segF 1 gs = pre ++ segF k hs') → (∀ g ∈ hs', g ∈ gs) → (upI k hs'.length).flatMap (recOf D) = hs'.flatten := by
  have hpw : (D.files.map nbF).Pairwise (fun p q => ltB p.1 q.1 = true) := by rw [h]; exact segF_pair gs 1 (by omega)
  intro hs'
  induction hs' with
  | nil => intro k _ _; rfl
  | cons g hs' ih =>
    intro k hp hm
    obtain ⟨pre, hp⟩ := hp
    have h1 : (nameB k, framesB g) ∈ D.files.map nbF := by rw [h, hp]; simp [segF]
    obtain ⟨f, hf, he⟩ := List.mem_map.1 h1
    have he1 : f.name = nameB k := congrArg Prod.fst he
    have he2 : f.b = framesB g := congrArg Prod.snd he
    have hrd : (readA D (nameB k)).1 = framesB g := by
      have := find_sorted D.files hpw f hf
      unfold readA
      rw [he1] at this
      rw [this]
      exact he2
    have hrec : recOf D (k : Int) = g := by
      unfold recOf
      rw [Int.toNat_natCast, hrd, splitB_frames g (hs g (hm g (by simp)))]
    show recOf D (k : Int) ++ (upI (k + 1) hs'.length).flatMap (recOf D) = g ++ hs'.flatten
    rw [hrec, ih (k + 1) ⟨pre ++ [(nameB k, framesB g)], by rw [hp]; simp [segF]⟩ (fun q hq => hm q (by simp [hq]))]

theorem Holds.names {most : Int} {L : LogA} {rs : List Bytes} {gs : List (List Bytes)} {g : List Bytes} {fs : List FileA} {f : FileA} (h : Holds most L rs gs g fs f) (hn : L.n ≤ 99999990) :
    (L.D.files.map FileA.name).Pairwise (fun a b => ltB a b = true) ∧ numsB (L.D.files.map FileA.name) = upI 1 L.n := by
  have hs := h.segs
  have hl : gs.length + 1 = L.n := h.num.symm
  have hnm : L.D.files.map FileA.name = (segF 1 (gs ++ [g])).map (·.1) := by rw [← hs, List.map_map]; rfl
  have hlen : (gs ++ [g]).length = L.n := by rw [List.length_append, ← hl]; rfl
  rw [hnm]
  refine ⟨?_, ?_⟩
  · rw [List.pairwise_map]
    exact segF_pair _ 1 (by omega)
  · rw [numsB_segF _ 1 (Nat.le_refl _) (by omega), hlen]

theorem Holds.records {most : Int} {L : LogA} {rs : List Bytes} {gs : List (List Bytes)} {g : List Bytes} {fs : List FileA} {f : FileA} (h : Holds most L rs gs g fs f) (hn : L.n ≤ 99999980) :
    recordsA L.D = rs ∧ segsB (L.D.files.map FileA.name) = upI 1 L.n ∧ list7 (L.D.files.map FileA.name) = upI 1 L.n := by
  obtain ⟨h1, h2⟩ := h.names (by omega)
  have h3 : segsB (L.D.files.map FileA.name) = upI 1 L.n := (segsB_sorted _ h1).trans h2
  have hlen : (gs ++ [g]).length = L.n := by rw [List.length_append, h.num]; rfl
  refine ⟨?_, h3, (list7_sorted _ h1).trans h2⟩
  unfold recordsA
  rw [h3, ← hlen]
  rw [recOf_all L.D (gs ++ [g]) h.segs (by omega) (fun q hq r hr => h.small r (by
    rw [← h.all]
    have : r ∈ (gs ++ [g]).flatten := List.mem_flatten.2 ⟨q, hq, hr⟩
    simpa using this)) (gs ++ [g]) 1 ⟨[], rfl⟩ (fun _ h => h)]
  rw [← h.all]
  simp

end Go.Proofs.YtepceidajmedeaaGreatDoor

namespace Go.Proofs.YtepceidajmedeaaGreatDoor
open CW Go

def putStep (s : LogA × List Bytes) (x : Bytes) : LogA × List Bytes := ((putA s.1 x).1, if (putA s.1 x).2 = 0 then s.2 ++ [x] else s.2)
def putsA (most : Int) (l : List Bytes) : LogA × List Bytes := l.foldl putStep (startL 100000 most, [])

theorem putsA_take (most : Int) (l : List Bytes) (k : Nat) (h : k < l.length) : putsA most (l.take (k + 1)) = putStep (putsA most (l.take k)) l[k] := by
  unfold putsA
  rw [List.take_succ_eq_append_getElem h, List.foldl_append]
  rfl

theorem le_sum_mem {l : List Nat} {n : Nat} (h : n ∈ l) : n ≤ l.sum := by
  induction l with
  | nil => cases h
  | cons a l ih =>
    rw [List.sum_cons]
    rcases List.mem_cons.1 h with rfl | h
    · omega
    · have := ih h; omega

theorem fewN_mem (l : List Bytes) (h : fewB l = true) : l.length ≤ 60 ∧ fewN l ≤ 1500 ∧ ∀ x ∈ l, x.length ≤ 1500 := by
  unfold fewB at h
  simp only [Bool.and_eq_true, decide_eq_true_eq] at h
  refine ⟨h.1, h.2, fun x hx => ?_⟩
  have h1 : min x.length 2000 ≤ fewN l := by
    have : min x.length 2000 ∈ l.map (fun r => min r.length 2000) := List.mem_map_of_mem (f := fun r : Bytes => min r.length 2000) hx
    exact le_sum_mem this
  omega
theorem fewN_take_le (l : List Bytes) (k : Nat) : fewN (l.take k) ≤ fewN l := by
  unfold fewN
  conv => rhs; rw [← List.take_append_drop k l, List.map_append, List.sum_append]
  omega

theorem costB_append (a b : List Bytes) : costB (a ++ b) = costB a + costB b := by simp [costB]

theorem putsA_holds (most : Int) (l : List Bytes) (hf : fewB l = true) : ∀ k, k ≤ l.length → (∃ gs g fs f, Holds most (putsA most (l.take k)).1 (putsA most (l.take k)).2 gs g fs f) ∧ (putsA most (l.take k)).2.length ≤ k ∧ costB (putsA most (l.take k)).2 ≤ fewN (l.take k) + 8 * k := by
  obtain ⟨f1, f2, f3⟩ := fewN_mem l hf
  intro k
  induction k with
  | zero => intro _; exact ⟨⟨[], [], [], ⟨nameB 1, [], 0⟩, holds_start most⟩, Nat.le_refl _, Nat.zero_le _⟩
  | succ k ih =>
    intro hk
    obtain ⟨⟨gs, g, fs, f, hh⟩, h1, h2⟩ := ih (by omega)
    have f4 := fewN_take l k hk
    have f5 := fewN_take_le l (k + 1)
    have f6 := f3 l[k] (List.getElem_mem hk)
    rw [putsA_take most l k hk]
    have hn := hh.num_le
    obtain ⟨gs', g', fs', f', hp⟩ := hh.put (by omega) l[k] (by omega) (by omega)
    refine ⟨⟨gs', g', fs', f', hp⟩, ?_, ?_⟩
    · show (if _ then _ else _ : List Bytes).length ≤ _
      split
      · rw [List.length_append, List.length_singleton]; omega
      · omega
    · show costB (if _ then _ else _ : List Bytes) ≤ _
      split
      · rw [costB_append]
        have : costB [l[k]] = l[k].length + 8 := by simp [costB]
        omega
      · omega

/-- What the calls ask along the way. -/
theorem putsA_ok (most : Int) (l : List Bytes) (hf : fewB l = true) (k : Nat) (hk : k ≤ l.length) :
    OkL (putsA most (l.take k)).1 ∧ (0 < (putsA most (l.take k)).1.size → (putsA most (l.take k)).1.n + 1 < 100 ∧ 0 ≤ (doA (putsA most (l.take k)).1.D .sync (nameB (putsA most (l.take k)).1.n)).1.plan ∧ (doA (putsA most (l.take k)).1.D .sync (nameB (putsA most (l.take k)).1.n)).1.plan ≤ 4611686018427387904 ∧ (doA (putsA most (l.take k)).1.D .sync (nameB (putsA most (l.take k)).1.n)).1.files.length < 1048576 ∧ usedF (doA (putsA most (l.take k)).1.D .sync (nameB (putsA most (l.take k)).1.n)).1.files ≤ 1099511627776 ∧ OkL (rotA (putsA most (l.take k)).1).1) := by
  obtain ⟨f1, f2, f3⟩ := fewN_mem l hf
  obtain ⟨⟨gs, g, fs, f, hh⟩, h1, h2⟩ := putsA_holds most l hf k hk
  have f5 := fewN_take_le l k
  have hn := hh.num_le
  have hok := hh.ok (by omega) (by omega)
  refine ⟨hok, fun hs => ?_⟩
  obtain ⟨r1, r2, r3⟩ := hh.rot (by omega) hs
  have hlen := hh.len
  have hus := hh.used
  rw [hh.files, usedF_append] at hus
  rw [hh.files, List.length_append] at hlen
  rw [hh.sync (by omega)]
  have hu1 : usedF [(⟨f.name, f.b, f.b.length⟩ : FileA)] = usedF [f] := by simp [usedF]
  refine ⟨by omega, by show (0 : Int) ≤ (putsA most (l.take k)).1.D.plan; rw [hh.plan]; omega, by show (putsA most (l.take k)).1.D.plan ≤ _; rw [hh.plan]; omega, ?_, ?_, r2.ok (by omega) (by omega)⟩
  · show (fs ++ [_]).length < _
    have h1 : (fs ++ [(⟨f.name, f.b, f.b.length⟩ : FileA)]).length = fs.length + 1 := by simp
    have h2 : [f].length = 1 := rfl
    rw [h1]
    omega
  · show usedF (fs ++ [_]) ≤ _
    rw [usedF_append, hu1]
    omega

/-- What is found behind all. -/
theorem putsA_end (most : Int) (l : List Bytes) (hf : fewB l = true) :
    let D := (putsA most l).1.D
    recordsA D = (putsA most l).2 ∧ gapB (segsB (D.files.map FileA.name)) = 0 ∧ list7 (D.files.map FileA.name) = segsB (D.files.map FileA.name) ∧ (∀ z ∈ segsB (D.files.map FileA.name), 1 ≤ z ∧ z < 100) ∧ (segsB (D.files.map FileA.name)).length ≤ 100 ∧ D.down = false ∧ D.files.length ≤ 100 ∧ usedF D.files ≤ 100000 ∧ (recordsA D).length ≤ 100 ∧ ∀ z ∈ segsB (D.files.map FileA.name), ∃ f ∈ D.files, f.name = nameB z.toNat := by
  obtain ⟨f1, f2, f3⟩ := fewN_mem l hf
  obtain ⟨⟨gs, g, fs, f, hh⟩, h1, h2⟩ := putsA_holds most l hf l.length (Nat.le_refl _)
  rw [List.take_length] at hh h1 h2
  have hn := hh.num_le
  obtain ⟨r1, r2, r3⟩ := hh.records (by omega)
  have hlen := hh.len
  have hus := hh.used
  have hnn := hh.num
  intro D
  refine ⟨r1, ?_, r3.trans r2.symm, ?_, by show (segsB ((putsA most l).1.D.files.map FileA.name)).length ≤ _; rw [r2, upI_len]; omega, hh.down, by show (putsA most l).1.D.files.length ≤ _; omega, by show usedF (putsA most l).1.D.files ≤ _; omega, by show (recordsA (putsA most l).1.D).length ≤ _; rw [r1]; omega, ?_⟩
  · show gapB (segsB ((putsA most l).1.D.files.map FileA.name)) = 0
    rw [r2, gapB_upI]
  · intro z hz
    have hz' : z ∈ segsB ((putsA most l).1.D.files.map FileA.name) := hz
    rw [r2] at hz'
    have := upI_ge _ _ z hz'
    omega
  · intro z hz
    have hz' : z ∈ segsB ((putsA most l).1.D.files.map FileA.name) := hz
    have hp := (hh.names (by omega)).1
    rw [segsB_sorted _ hp] at hz'
    unfold numsB at hz'
    rw [List.mem_filterMap] at hz'
    obtain ⟨s, hs, he⟩ := hz'
    rw [Option.map_eq_some_iff] at he
    obtain ⟨n, hn, rfl⟩ := he
    obtain ⟨_, _, rfl⟩ := numB_some hn
    obtain ⟨q, hq, hqn⟩ := List.mem_map.1 hs
    exact ⟨q, hq, hqn⟩

end Go.Proofs.YtepceidajmedeaaGreatDoor
