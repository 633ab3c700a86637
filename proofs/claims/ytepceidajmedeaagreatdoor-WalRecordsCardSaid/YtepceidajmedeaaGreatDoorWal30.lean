/- Lemmas for a law of this seat, part 30: contracts of the functions that it reaches, and the plain law. No condition but those of each lemma. -/
import Derived.Test.YtepceidajmedeaaGreatDoorWal28
import Derived.Test.YtepceidajmedeaaGreatDoorWal25
import Derived.Test.YtepceidajmedeaaGreatDoorWal13
import Derived.Test.YtepceidajmedeaaGreatDoorWal21
import Derived.Test.YtepceidajmedeaaGreatDoorWal29

namespace Go.Proofs.YtepceidajmedeaaGreatDoor
open Go.RowKit CW

def records8 (D : DiskA) : List Bytes := (list7 (D.files.map FileA.name)).flatMap (recOf D)

/-- A slice of slices of bytes, of the call's own; its elements may lie in older memory. -/
def OwnBX (B : Nat) (w : World) (v : Value) (rs : List Bytes) : Prop :=
  ∃ vs : List Value, vs.length = rs.length ∧ w.ownsRow B 30 1 v rs.length vs ∧ ∀ (i : Nat) (u : Value) (bs : Bytes), vs[i]? = some u → rs[i]? = some bs → SlB (fun k => some k = v.ownBlock) w u bs

theorem OwnBX.nil {B : Nat} {w : World} : OwnBX B w (.slice none 0 0) [] := ⟨[], rfl, World.ownsRow_nil _ _ _ _, fun i u bs h => by simp at h⟩
theorem OwnBX.below {B : Nat} {w w' : World} {v : Value} {rs : List Bytes} (h : OwnBX B w v rs) (hb : Below w.heap.size w w') : OwnBX B w' v rs := by
  obtain ⟨vs, h1, h2, h3⟩ := h
  exact ⟨vs, h1, owns_below h2 hb, fun i u bs hu hs => (h3 i u bs hu hs).below hb⟩
theorem OwnBX.sl {B : Nat} {w : World} {v : Value} {rs : List Bytes} (h : OwnBX B w v rs) : SlBB (fun _ => False) w v rs := by
  obtain ⟨vs, h1, h2, h3⟩ := h
  exact ⟨vs, h1, (Row.of_owns h2).mono (fun k _ hk => hk.elim), fun i u bs hu hs => (h3 i u bs hu hs).mono (fun k _ hk => hk.elim)⟩

theorem OwnBX.app {B : Nat} {w w' : World} {rs xs : List Bytes} {vs us : List Value} {v v' : Value} (hl : vs.length = rs.length) (h3 : ∀ (i : Nat) (u : Value) (bs : Bytes), vs[i]? = some u → rs[i]? = some bs → SlB (fun k => some k = v.ownBlock) w u bs)
    (hl2 : us.length = xs.length) (h4 : ∀ (i : Nat) (u : Value) (bs : Bytes), us[i]? = some u → xs[i]? = some bs → SlB (fun k => some k = v.ownBlock) w u bs)
    (ho : w'.ownsRow B 30 1 v' (rs.length + xs.length) (vs ++ us)) (hg : w.grownBy w' v.ownBlock) (hat : v'.ownBlock = v.ownBlock ∨ v'.ownBlock = some w.heap.size) : OwnBX B w' v' (rs ++ xs) := by
  have hf : Fr (fun k => some k = v.ownBlock) w w' := ⟨hg.os, hg.tape, hg.output, hg.size, fun k hk hn => hg.block k hk hn⟩
  have hsub : ∀ (u : Value) (bs : Bytes), SlB (fun k => some k = v.ownBlock) w u bs → SlB (fun k => some k = v'.ownBlock) w' u bs := fun u bs h => h.fr hf (fun k hk => hk) (fun k hk hk' => by
    rcases hat with e | e
    · rw [← e]; exact hk'
    · rw [e] at hk'
      have := Option.some.inj hk'
      omega)
  refine ⟨vs ++ us, by simp [hl, hl2], by rw [List.length_append]; exact ho, fun i u bs hu hs => ?_⟩
  rcases Nat.lt_or_ge i vs.length with hi | hi
  · rw [List.getElem?_append_left hi] at hu
    rw [List.getElem?_append_left (by omega)] at hs
    exact hsub _ _ (h3 i u bs hu hs)
  · rw [List.getElem?_append_right hi] at hu
    rw [List.getElem?_append_right (by omega)] at hs
    rw [← hl] at hs
    exact hsub _ _ (h4 _ u bs hu hs)

theorem own_lt {w : World} {base e size n : Nat} {v : Value} {cs : List Value} (h : w.ownsRow base e size v n cs) (k : Nat) (hk : some k = v.ownBlock) : base ≤ k ∧ k < w.heap.size := by
  rcases h.2 with ⟨hv, _⟩ | ⟨g, cap, cur, hv, hg, hh, _⟩
  · rw [hv] at hk; cases hk
  · rw [hv] at hk
    have e : k = g := Option.some.inj hk
    have := (Array.getElem?_eq_some_iff.1 hh).1
    omega

set_option maxHeartbeats 4000000 in
set_option maxRecDepth 100000 in
theorem records8_any (D : DiskA) (v : Value) (w : World) (h : Ref5 (fun _ => False) w D v) (hl : D.files.length ≤ 1048576) (hu : usedF D.files ≤ 1099511627776)
    (hz : ∀ z ∈ list7 (D.files.map FileA.name), 1 ≤ z ∧ z ≤ 99999999 ∧ ∃ f ∈ D.files, f.name = nameB z.toNat) (hc : (records8 D).length ≤ 1048576) :
    Calls Tryz.prog 22 #[v] w fun e w' => ∃ v', e = .returned v' ∧ SlBB (fun _ => False) w' v' (records8 D) ∧ Below w.heap.size w w' := by
  obtain ⟨sv, ps, rfl, hs, hps⟩ := h
  obtain ⟨a, cap, rfl, hn', hcp, hnone, hcell⟩ := hs.open
  have hpl : ps.length = D.files.length := by rw [← hps, List.length_map]
  have hB0 := (boxF w (.cells #[.int .i64 D.room, .slice a ps.length cap, .int .i64 D.plan, .bool D.down] 35))
  have hnm := names5_any D.room D.plan D.down (.slice a ps.length cap) ps
  have hnv : namesV ps = (D.files.map FileA.name).map stV := by rw [← hps, List.map_map, List.map_map]; rfl
  have hfd : ∀ (n : Bytes) (W : World), Below w.heap.size w W → Calls Tryz.prog 75 #[.agg (dk5 D.room (.slice a ps.length cap) D.plan D.down), stV n] W fun e w' => e = .returned (.int .i64 (ixZ (findK nm ps n))) ∧ Below W.heap.size W w' := fun n W hW => find5_any D.room D.plan D.down _ ps n W (hs.below hW)
  have hfind : ∀ z ∈ list7 (D.files.map FileA.name), ∃ i, ∃ hi : i < ps.length, findK nm ps (nameB z.toNat) = some i ∧ recOf D z = (splitB ps[i].1.b).1 ∧ ps[i].1.b.length ≤ 1099511627776 := fun z hzm => by
    obtain ⟨_, _, f, hf, hfn⟩ := hz z hzm
    have hfk : findF D.files (nameB z.toNat) = findK nm ps (nameB z.toNat) := by rw [← hps]; exact findK_map (fun p : FileA × Value => p.1) (fun _ => rfl) ps _
    rcases hx : findK nm ps (nameB z.toNat) with _ | i
    · rw [hx] at hfk
      exact absurd hfn (findK_none.1 hfk f hf)
    · rw [hx] at hfk
      obtain ⟨hi, _⟩ := findK_some hx
      have hi2 : i < D.files.length := by omega
      have hfi : D.files[i] = ps[i].1 := by simp [← hps]
      refine ⟨i, hi, rfl, ?_, ?_⟩
      · unfold recOf readA
        rw [hfk]
        simp only [Option.bind_some, List.getElem?_eq_getElem hi2, hfi]
      · rw [← hfi]
        exact Nat.le_trans (usedF_mem (List.getElem_mem hi2)) hu
  have hrA : records8 D = (list7 (D.files.map FileA.name)).flatMap (recOf D) := rfl
  have hzl := list7_len (D.files.map FileA.name)
  rw [List.length_map] at hzl
  have hsg := fun (v : Value) (W : World) (hv : SlS (fun _ => False) W v (D.files.map FileA.name)) => list7_any v (D.files.map FileA.name) W hv (by rw [List.length_map]; omega)
  have HLEN : Hid (ps.length = (D.files.map FileA.name).length) := by show _ = _; rw [List.length_map]; exact hpl
  rw [hnv] at hnm
  generalize D.files.map FileA.name = ss at *
  generalize list7 ss = zs at *
  clear hnv hps
  have hpl2 : ps.length ≤ 1048576 := by omega
  clear hpl hl
  unfold stV at hfd
  unfold dk5 at hfd hnm ⊢
  go_enter Tryz.func22, Tryz.ntmps22
  go_wp2_with (first
    | (go_at_call 50; refine (hnm _ (hs.below hB0.1) (by omega)).mono ?_; rintro e w1 ⟨v1, rfl, ho1, hB1⟩; have hs1 := hsg v1 w1 (by have := (Row.of_owns ho1).mono (M' := fun _ => False) (fun _ _ h => h.elim); rw [HLEN.out] at this; exact this))
    | (go_at_call 72; refine hs1.mono ?_; rintro e w2 ⟨v2, rfl, ho2, hB2⟩; have hrz := (Row.of_owns ho2).open; obtain ⟨az, cz, rfl, hz1, hz2, hz3, hz4⟩ := hrz))
  have hz0 := hB0.2.1
  have hB12 : Below (w.heap.size + 1) (w.alloc (.cells #[.int .i64 D.room, .slice a ps.length cap, .int .i64 D.plan, .bool D.down] 35)) w2 := by
    have h2 := hB1.trans (hB2.mono hB1.size)
    rw [hz0] at h2
    exact h2
  have hBw2 : Below w.heap.size w w2 := hB0.1.trans (hB12.mono (by omega))
  have kb := (hB12.block w.heap.size (by omega)).trans hB0.2.2
  have hsz2 : w.heap.size < w2.heap.size := by have := hB12.size; omega
  clear hB0 hz0 hB12 hB1 hB2 ho1 hs1 ho2 hnm hsg
  go_loopw [4, 5] (fun out i wr => ∃ k : Nat, k ≤ zs.length ∧ i = .int .i64 k ∧ OwnBX w2.heap.size wr out ((zs.take k).flatMap (recOf D)) ∧ Hid (Below w2.heap.size w2 wr)) (fun _ i _ => zs.length - (intOf i).toNat)
  case atStart => exact ⟨0, by omega, rfl, OwnBX.nil, Below.refl _ _⟩
  case round =>
    obtain ⟨k, hk, rfl, hown, HB⟩ := hrel
    have hBr := HB.out
    have hBw : Below w.heap.size w wr := hBw2.trans (hBr.mono hBw2.size)
    by_cases hlt : k < zs.length
    · obtain ⟨bz, oz, rfl, hbz, _, hcz⟩ := hz4 (by omega)
      have c1 := (hBr.cell (p := ⟨bz, oz + k, none⟩) hbz).trans (hcz k (.int .i64 zs[k]) (by simp [ints, hlt]))
      have hmem := List.getElem_mem hlt
      obtain ⟨hzk1, hzk2, _⟩ := hz zs[k] hmem
      obtain ⟨i, hi, hfi, hrec, hbl⟩ := hfind zs[k] hmem
      have HT : Hid ((zs.take (k + 1)).flatMap (recOf D) = (zs.take k).flatMap (recOf D) ++ recOf D zs[k]) := flatMap_take_succ D zs k hlt
      have hle := flatMap_take_le D zs (k + 1)
      rw [HT.out, List.length_append, ← hrA] at hle
      rw [hrec] at HT hle
      obtain ⟨b, off, rfl, hb, _, hcc⟩ := hcell (by omega)
      obtain ⟨_, c2, _⟩ := hcc i hi
      have hsh : SlB (fun k => w.heap.size ≤ k) w ps[i].2 ps[i].1.b := (hs.2 ps[i] (List.getElem_mem hi)).mono (fun q hq h => by omega)
      have hBc : Below w.heap.size w wr := hBw
      clear hcz hz4 hcc hcell hz hfind hrec hmem
      generalize (zs.take k).flatMap (recOf D) = rs at *
      obtain ⟨n, hn⟩ : ∃ n : Nat, zs[k] = (n : Int) := ⟨zs[k].toNat, by omega⟩
      rw [hn] at c1 hzk1 hzk2 hfi
      rw [Int.toNat_natCast] at hfi
      clear hn
      have hn1 := fun W => (name7_any n W (by omega)).mono (R' := fun e w' => W = w' ∧ e = .returned (.tuple #[.string ⟨(nameB n).toArray⟩, .bool true])) (by
        rintro e w' ⟨rfl, ⟨_, _, h⟩ | ⟨h, _⟩⟩
        · exact ⟨rfl, h⟩
        · exact absurd ⟨by omega, by omega⟩ h)
      have hfd1 := hfd (nameB n)
      rw [hfi] at hfd1
      unfold ixZ at hfd1
      simp only at hfd1
      clear hfd hfi
      generalize nameB n = nb at *
      generalize ps[i].1.b = bs at *
      obtain ⟨a2, cap2, hsv, hs1, hs2⟩ := hsh.shape
      rw [hsv] at c2 hsh
      clear hsv
      obtain ⟨vs, hvl, hvo, hve⟩ := hown
      have i1 : (k : Int) < (zs.length : Int) := by omega
      have i2 : (i : Int) < (ps.length : Int) := by omega
      rw [show off + (i * 3 + 1) = off + i * 3 + 1 by omega] at c2
      have kbr := (hBr.block w.heap.size hsz2).trans kb
      have hlr : w.heap.size < wr.heap.size := Nat.lt_of_lt_of_le hsz2 hBr.size
      have hblr : b < wr.heap.size := Nat.lt_of_lt_of_le hb hBw.size
      have c2r := (hBw.cell (p := ⟨b, off + i * 3 + 1, none⟩) hb).trans c2
      have hSS : ∀ W, Below wr.heap.size wr W → (Below wr.heap.size wr W ∧ W.cell? ⟨w.heap.size, 0, none⟩ = some (.int .i64 D.room) ∧ W.cell? ⟨w.heap.size, 1, none⟩ = some (.slice (some ⟨b, off, none⟩) ps.length cap) ∧ W.cell? ⟨w.heap.size, 2, none⟩ = some (.int .i64 D.plan) ∧ W.cell? ⟨w.heap.size, 3, none⟩ = some (.bool D.down) ∧ W.cell? ⟨b, off + i * 3 + 1, none⟩ = some (.slice a2 bs.length cap2)) := fun W hW => ⟨hW, (cells4 ((hW.block _ hlr).trans kbr)).1, (cells4 ((hW.block _ hlr).trans kbr)).2.1, (cells4 ((hW.block _ hlr).trans kbr)).2.2.1, (cells4 ((hW.block _ hlr).trans kbr)).2.2.2, (hW.cell (p := ⟨b, off + i * 3 + 1, none⟩) hblr).trans c2r⟩
      have hSw : ∀ W, Below wr.heap.size wr W → Below w.heap.size w W := fun W hW => hBw.trans (hW.mono hBw.size)
      have hMlt : ∀ k, some k = u4.ownBlock → w2.heap.size ≤ k ∧ k < wr.heap.size := fun k hk => own_lt hvo k hk
      have hsp : ∀ W, Below wr.heap.size wr W → Calls Tryz.prog 74 #[.slice a2 bs.length cap2] W fun e w' => ∃ v', e = .returned (.tuple #[v', .int .i64 ((splitB bs).2 : Nat)]) ∧ SlBB (fun k => some k = u4.ownBlock) w' v' (splitB bs).1 ∧ Below W.heap.size W w' := fun W hW =>
        split6_any (fun k => some k = u4.ownBlock) _ bs W (fun k hk => Nat.lt_of_lt_of_le (hMlt k hk).2 hW.size) (hsh.fr (F := fun _ => False) (Fr.of_below (hSw W hW)) (fun _ h => h.elim) (fun k hk h => by have := (hMlt k h).1; omega)) (by omega)
      have hS0 := hSS wr (Below.refl _ _)
      have hSd := hSS wr.drew (Below.refl _ _).drew
      clear hsh c2 kb kbr
      generalize splitB bs = SB at *
      go_wp2_with (go_at_call 73; refine (hn1 _).mono ?_; rintro e w3 ⟨rfl, rfl⟩)
      go_region_held3 (fun W => Below wr.heap.size wr W ∧ W.cell? ⟨w.heap.size, 0, none⟩ = some (.int .i64 D.room) ∧ W.cell? ⟨w.heap.size, 1, none⟩ = some (.slice (some ⟨b, off, none⟩) ps.length cap) ∧ W.cell? ⟨w.heap.size, 2, none⟩ = some (.int .i64 D.plan) ∧ W.cell? ⟨w.heap.size, 3, none⟩ = some (.bool D.down) ∧ W.cell? ⟨b, off + i * 3 + 1, none⟩ = some (.slice a2 bs.length cap2)) (first | assumption)
        (first
          | (go_at_call 75; refine (hfd1 _ (hSw _ hSd.1)).mono ?_; rintro e w3 ⟨rfl, hb3⟩; have hS3 := hSS w3 ((Below.refl _ _).drew.trans hb3))
          | (go_at_call 74; refine (hsp _ hS3.1).mono ?_; rintro e w5 ⟨v5, rfl, hs5, hb5⟩; have hS5 := hSS w5 (hS3.1.trans (hb5.mono hS3.1.size))))
      obtain ⟨us, hul, hur, hue⟩ := hs5
      have hvo5 := owns_below hvo hS5.1
      have hB5 := hS5.1
      have hBr5 := hBr.trans (hS5.1.mono hBr.size)
      clear hS5 hS3 hSd hS0 hSS hSw hsp hfd1 hn1 hMlt
      go_wp2_with (at_builtin; refine wpList_app_at tyBB rfl rfl rfl rfl hvo5 hur (by simp; omega) (one_of_slbb hul hue) (by unfold maxLen; omega) (by omega) hBr5.size ?_; intro v6 w6 ho6 hg6 hat6)
      have hve5 : ∀ (i : Nat) (u : Value) (bs : Bytes), vs[i]? = some u → rs[i]? = some bs → SlB _ w5 u bs := fun i u bs h1 h2 => (hve i u bs h1 h2).below hB5
      have hfin := OwnBX.app hvl hve5 hul hue ho6 hg6 hat6
      have hB6 : Hid (Below w2.heap.size w2 w6) := hBr5.trans (below_grown hvo5 hg6 hBr5.size)
      go_roundw
      case rel => exact ⟨k + 1, by omega, by go_num, by rw [HT.out]; exact hfin, hB6⟩
      case measure => simp [intOf]; omega
    · have htk : zs.take k = zs := List.take_of_length_le (by omega)
      rw [htk, ← hrA] at hown
      go_wp2
      go_ret
      exact ⟨_, rfl, hown.sl, hBw⟩

end Go.Proofs.YtepceidajmedeaaGreatDoor

namespace Go.Proofs.YtepceidajmedeaaGreatDoor
open Go.RowKit CW

/-- Records that were taken, in a slice of the call's own; they lie in older memory. -/
def OwnW (S : Nat → Prop) (w wr : World) (v : Value) (ws : List Bytes) : Prop :=
  ∃ vs : List Value, vs.length = ws.length ∧ wr.ownsRow w.heap.size 30 1 v ws.length vs ∧ (∀ g, v.ownBlock = some g → ¬ S g) ∧ ∀ (i : Nat) (u : Value) (bs : Bytes), vs[i]? = some u → ws[i]? = some bs → SlB (fun q => w.heap.size ≤ q) w u bs

theorem OwnW.nil {S : Nat → Prop} {w wr : World} : OwnW S w wr (.slice none 0 0) [] := ⟨[], rfl, World.ownsRow_nil _ _ _ _, (fun g h => by cases h), fun i u bs h => by simp at h⟩

theorem OwnW.fr {S S' F : Nat → Prop} {w wr W : World} {v : Value} {ws : List Bytes} (h : OwnW S w wr v ws) (hf : Fr F wr W) (hF : ∀ g, g < wr.heap.size → F g → S g ∨ v.ownBlock ≠ some g) (hS : ∀ k, k < wr.heap.size → S' k → S k) : OwnW S' w W v ws := by
  obtain ⟨vs, h1, h2, h3, h4⟩ := h
  have hlt := fun g hg => (own_lt h2 g hg).2
  refine ⟨vs, h1, ownsRow_block h2 (fun g hg => hf.block g (hlt g hg.symm) (fun hfg => ?_)), fun g hg hs => h3 g hg (hS g (hlt g hg.symm) hs), h4⟩
  rcases hF g (hlt g hg.symm) hfg with h | h
  · exact h3 g hg h
  · exact h hg

theorem OwnW.sl {S : Nat → Prop} {w wr : World} {v : Value} {ws : List Bytes} (h : OwnW S w wr v ws) (hB : Below w.heap.size w wr) : SlBB (fun _ => False) wr v ws := by
  obtain ⟨vs, h1, h2, h3, h4⟩ := h
  exact ⟨vs, h1, (Row.of_owns h2).mono (fun k _ hk => hk.elim), fun i u bs hu hs => (h4 i u bs hu hs).fr (F := fun _ => False) (Fr.of_below hB) (fun _ h => h.elim) (fun k _ h => h.elim)⟩

/-- A log and what was taken, on the way. -/
structure Way (w : World) (l d : Nat) (L : LogA) (want : Value) (ws : List Bytes) (wr : World) : Prop where
  ex : ∃ S, LogAt S wr l d L ∧ (∀ q, S q → w.heap.size ≤ q) ∧ OwnW S w wr want ws
  below : Below w.heap.size w wr

theorem Way.fr {F : Nat → Prop} {w wr W : World} {l d : Nat} {L : LogA} {want : Value} {ws : List Bytes} (h : Way w l d L want ws wr) (hf : Fr F wr W) (hF : ∀ g, F g → wr.heap.size ≤ g) : Way w l d L want ws W := by
  obtain ⟨S, h1, h2, h3⟩ := h.ex
  have hlt : ∀ k, S k → k < wr.heap.size := by obtain ⟨_, _, _, _, _, _, h6⟩ := h1; exact h6
  refine ⟨⟨S, h1.fr hf (fun k hk hfk => by have := hF k hfk; have := hlt k hk; omega), h2, h3.fr hf (fun g hg hfg => by have := hF g hfg; omega) (fun _ _ h => h)⟩, h.below.trans (hf.below h.below.size (fun q h1 h2 => ?_))⟩
  have := hF q h2
  have := h.below.size
  omega

theorem Way.lt {w wr : World} {l d : Nat} {L : LogA} {want : Value} {ws : List Bytes} (h : Way w l d L want ws wr) : ∃ T, DiskAt T wr d L.D := by
  obtain ⟨S, ⟨T, _, h2, _⟩, _⟩ := h.ex
  exact ⟨T, h2⟩

/-- A record was refused. -/
theorem Way.skip {w wr W : World} {l d : Nat} {L : LogA} {R : LogA × Int} {want : Value} {ws : List Bytes} {c : Int} {S : Nat → Prop} (h1 : LogAt S wr l d L) (h2 : ∀ q, S q → w.heap.size ≤ q) (h3 : OwnW S w wr want ws) (hb : Below w.heap.size w wr) (hp : LogPost S wr l d R c W) : Way w l d R.1 want ws W := by
  obtain ⟨S', _, h4, h5, h6⟩ := hp
  refine ⟨⟨S', h4, fun q hq => ?_, h3.fr h5 (fun g _ h => .inl h) h6⟩, hb.trans (h5.below hb.size (fun q k1 k2 => by have := h2 q k2; omega))⟩
  rcases Nat.lt_or_ge q wr.heap.size with h | h
  · exact h2 q (h6 q h hq)
  · have := hb.size; omega

/-- A record was taken. -/
theorem Way.took {w wr W W' : World} {l d : Nat} {L : LogA} {want want' u : Value} {x : Bytes} {ws : List Bytes} {vs : List Value} (h : Way w l d L want ws wr) (hl : vs.length = ws.length) (hve : ∀ (i : Nat) (u : Value) (bs : Bytes), vs[i]? = some u → ws[i]? = some bs → SlB (fun q => w.heap.size ≤ q) w u bs)
    (hu : SlB (fun q => w.heap.size ≤ q) w u x) (hB : Below wr.heap.size wr W) (ho : W'.ownsRow w.heap.size 30 1 want' (ws.length + 1) (vs ++ [u])) (hg : W.grownBy W' want.ownBlock) (hat : want'.ownBlock = want.ownBlock ∨ want'.ownBlock = some W.heap.size) (hge : ∀ g, want.ownBlock = some g → w.heap.size ≤ g) : Way w l d L want' (ws ++ [x]) W' := by
  obtain ⟨S, h1, h2, vs0, _, h3, h4, _⟩ := h.ex
  have hlt : ∀ k, S k → k < wr.heap.size := by obtain ⟨_, _, _, _, _, _, h6⟩ := h1; exact h6
  have hf : Fr (fun k => some k = want.ownBlock) W W' := ⟨hg.os, hg.tape, hg.output, hg.size, fun k hk hn => hg.block k hk hn⟩
  refine ⟨⟨S, (h1.below hB).fr hf (fun k hk hn => h4 k hn.symm hk), h2, vs ++ [u], by simp [hl], by rw [List.length_append]; exact ho, fun g hgg hs => ?_, fun i u' bs hu' hs => ?_⟩, (h.below.trans (hB.mono h.below.size)).trans (hf.below (Nat.le_trans h.below.size hB.size) (fun q k1 k2 => by have := hge q k2.symm; omega))⟩
  · rcases hat with e | e
    · rw [e] at hgg; exact h4 g hgg hs
    · rw [e] at hgg
      have := Option.some.inj hgg
      have := hlt g hs
      have := hB.size
      omega
  · rcases Nat.lt_or_ge i vs.length with hi | hi
    · rw [List.getElem?_append_left hi] at hu'
      rw [List.getElem?_append_left (by omega)] at hs
      exact hve i u' bs hu' hs
    · rw [List.getElem?_append_right hi] at hu'
      rw [List.getElem?_append_right (by omega), ← hl] at hs
      rcases h0 : i - vs.length with _ | j
      · rw [h0] at hu' hs
        simp at hu' hs
        subst hu' hs
        exact hu
      · rw [h0] at hu'
        simp at hu'

end Go.Proofs.YtepceidajmedeaaGreatDoor
