/- Lemmas for a law of this seat, part 34: contracts of the functions that it reaches, and the plain law. No condition but those of each lemma. -/
import Derived.Test.YtepceidajmedeaaGreatDoorWal5
import Derived.ChangeSlices
import Derived.Deep.Slices
import Derived.OpenShut
import Derived.ProofKit
import Derived.Test.YtepceidajmedeaaGreatDoorProg

namespace Go.Proofs.YtepceidajmedeaaGreatDoor
open Go.RowKit Go.ChangeShapes Go.WideShapes CW

section
variable {H : Type} {enc : TypeId × Value → H}

theorem cellsU8 : Tryz.prog.cellsOf 5 = 1 := by kernel_rfl
theorem cellsBs : Tryz.prog.cellsOf 30 = 1 := by kernel_rfl
theorem bytesBs : Tryz.prog.bytesOf 30 = 24 := by kernel_rfl

/-- An address at which there is a cell. -/
theorem addr_of_cell {W : World} {a : Addr} {v : Value} (h : W.cell? a = some v) : ∃ b off, a = ⟨b, off, none⟩ ∧ b < W.heap.size := by
  obtain ⟨b, off, sp⟩ := a
  unfold World.cell? at h
  rcases hb : W.heap[b]? with _ | o
  · rw [hb] at h; cases h
  · have hlt := (Array.getElem?_eq_some_iff.1 hb).1
    rw [hb] at h
    cases o with
    | cells c t fr =>
      cases sp with
      | none => exact ⟨b, off, rfl, hlt⟩
      | some s => simp at h
    | map es c => cases h
    | _ => cases h

/-- The cells of a slice, from its address. -/
theorem row_of_cells {W : World} {a : Addr} {len cap : Nat} {cs : List Value} (hl : len ≤ cap) (hm : cap ≤ maxLen) (hcl : cs.length = len) (V : Nat → Value) (hV : ∀ i, i < cap → W.cell? (a.add i) = some (V i)) (hcs : ∀ i, i < len → cs[i]? = some (V i)) :
    Row (fun _ => False) W (.slice (some a) len cap) len cs := by
  rcases Nat.eq_zero_or_pos cap with h0 | h0
  · obtain rfl : len = 0 := by omega
    subst h0
    exact .inl ⟨⟨_, rfl⟩, rfl, List.length_eq_zero_iff.1 hcl⟩
  · have h1 := hV 0 h0
    have e0 : a.add 0 = a := rfl
    rw [e0] at h1
    obtain ⟨b, off, rfl, hb⟩ := addr_of_cell h1
    refine .inr ⟨b, off, cap, rfl, hl, by unfold maxLen at hm; omega, hb, (fun h => h), fun j u hu => ?_⟩
    have hj : j < len := by
      have := (List.getElem?_eq_some_iff.1 hu).1
      omega
    rw [hcs j hj] at hu
    rw [← hu, ← hV j (by omega), Addr.add_lit]

theorem open_slb {W : World} {base fuel : Nat} {v : Value} {x : DataW H × List MemPlace} (h : DataW.trod enc Tryz.prog W base (fun _ => true) true fuel 30 [v] = some x) : ∃ bs : Bytes, SlB (fun _ => False) W v bs := by
  rcases open_ints Tryz.underlying30 Tryz.underlying5 cellsU8 h with ⟨e, _⟩ | ⟨a, len, cap, zs, e, _, hl, hm, hz, _, hcell, hwf⟩
  · cases e
    exact ⟨[], SlB.nil⟩
  · cases e
    simp only [if_true] at hz
    refine ⟨(zs.take len).map (fun z => UInt8.ofNat z.toNat), ?_⟩
    have hlen : ((zs.take len).map (fun z => UInt8.ofNat z.toNat)).length = len := by rw [List.length_map, List.length_take]; omega
    unfold SlB
    rw [hlen]
    refine row_of_cells hl hm (by rw [List.length_map, hlen]) (fun i => .int .u8 (zs.getD i 0)) (fun i hi => hcell i (by omega)) (fun i hi => ?_)
    have hi2 : i < zs.length := by omega
    have hw := hwf zs[i] (List.getElem_mem hi2)
    have hb : 0 ≤ zs[i] ∧ zs[i] ≤ 255 := by
      exact bounds_u8 hw
    simp only [List.getElem?_map, List.getElem?_take_of_lt hi, List.getElem?_eq_getElem hi2, Option.map_some, List.getD, Option.getD_some]
    congr 1
    unfold encB
    rw [UInt8.toNat_ofNat']
    congr 1
    omega

set_option maxRecDepth 20000 in
theorem open_slbb {W : World} {base : Nat} {a : Option Addr} {n c : Nat} {d : DataW H} {p : List MemPlace} (h : DataW.Trod enc Tryz.prog W base (fun _ => true) true 23 (.slice a n c) d p) (hw : (d.weights Tryz.prog 23).all (· ≤ reachBytes) = true) :
    ∃ rs : List Bytes, SlBB (fun _ => False) W (.slice a n c) rs ∧ rs.length ≤ 8796093022208 := by
  obtain ⟨fuel, hf⟩ := h
  have e : (Value.slice a n c).cells.toList = [.slice a n c] := rfl
  rw [e] at hf
  rcases Go.Deep.open_slice1 Tryz.underlying23 cellsBs hf with ⟨e, _⟩ | ⟨a', len, cap, m, k, V, D, Pl, e, _, hl, hm, hmm, hd, hx⟩
  · cases e
    exact ⟨[], SlBB.nil, by decide⟩
  · cases e
    simp only [if_true] at hmm
    subst hmm
    obtain ⟨B, hB⟩ := Go.Deep.choose_lt (n := n) (p := fun i bs => SlB (fun _ => False) W (V i) bs) (fun i hi => open_slb (hx i (by omega)).2)
    refine ⟨(List.range n).map B, ⟨(List.range n).map V, by simp, ?_, fun i u bs hu hs => ?_⟩, ?_⟩
    · rw [List.length_map, List.length_range]
      refine row_of_cells hl hm (by simp) V (fun i hi => (hx i hi).1) (fun i hi => ?_)
      simp [List.getElem?_range hi]
    · have hi : i < n := by
        have := (List.getElem?_eq_some_iff.1 hu).1
        simpa using this
      simp [List.getElem?_range hi] at hu hs
      subst hu hs
      exact hB i hi
    · have hd1 := congrArg Prod.fst hd
      simp only at hd1
      subst hd1
      have hr : reachBytes = 140737488351232 := rfl
      generalize reachBytes = R at hw hr
      unfold DataW.weights at hw
      rw [Tryz.underlying23] at hw
      simp only [List.all_cons, Bool.and_eq_true, decide_eq_true_eq, bytesBs, List.length_map, List.length_range] at hw
      have h2 := hw.1
      rw [List.length_map, List.length_range]
      omega
end

end Go.Proofs.YtepceidajmedeaaGreatDoor
