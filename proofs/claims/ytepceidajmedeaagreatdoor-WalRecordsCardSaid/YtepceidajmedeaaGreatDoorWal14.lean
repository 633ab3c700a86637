/- Lemmas for a law of this seat, part 14: contracts of the functions that it reaches, and the plain law. No condition but those of each lemma. -/
import Derived.Test.YtepceidajmedeaaGreatDoorWal9
import Derived.Test.YtepceidajmedeaaGreatDoorWal12
import Derived.Test.YtepceidajmedeaaGreatDoorWal6
import Derived.Maps.RangeWalk

namespace Go.Proofs.YtepceidajmedeaaGreatDoor
open Go.RowKit CW

abbrev HU := Unit
/-- How a pointer to a file reads: as its block. -/
def ptrE : Value → Option (DataW HU × List MemPlace)
  | .pointer none => some (.nil, [])
  | .pointer (some ⟨b, 0, none⟩) => some (.lit (.int .i64 (b : Int)), [])
  | _ => none
theorem ptrE_inv {v : Value} {z : DataW HU × List MemPlace} (h : ptrE v = some z) : (v = .pointer none ∧ z = (.nil, [])) ∨ ∃ b : Nat, v = .pointer (some ⟨b, 0, none⟩) ∧ z = (.lit (.int .i64 (b : Int)), []) := by
  unfold ptrE at h
  split at h
  · exact .inl ⟨rfl, by cases h; rfl⟩
  · exact .inr ⟨_, rfl, by cases h; rfl⟩
  · cases h

/-- A file, its block, and the slice in it. -/
abbrev Ent := FileA × Nat × Value
abbrev nq (q : Ent) : Bytes := q.1.name
def dq (q : Ent) : DataW HU := .lit (.int .i64 (q.2.1 : Int))
abbrev mapQ (qs : List Ent) : DataW HU := mapK nq dq qs

structure DiskIn (S : Nat → Prop) (w : World) (d mb : Nat) (D : DiskA) (qs : List Ent) : Prop where
  files : qs.map (·.1) = D.files
  blk : w.heap[d]? = some (.cells #[.int .i64 D.room, .map (some mb), .int .i64 D.plan, .bool D.down] 134 (0, 0))
  map : w.ownsMap Tryz.prog 9 ptrE mb qs.length (mapQ qs)
  file : ∀ q ∈ qs, w.heap[q.2.1]? = some (.cells #[q.2.2, .int .i64 (q.1.dur : Int)] 151 (0, 0)) ∧ w.ownsRow 0 5 1 q.2.2 q.1.b.length (q.1.b.map encB)
  apart : qs.Pairwise (fun p q => p.2.1 ≠ q.2.1 ∧ ∀ g, p.2.2.ownBlock = some g → q.2.2.ownBlock ≠ some g)
  sorted : SortedK nq qs
  inD : S d
  inM : S mb
  inF : ∀ q ∈ qs, S q.2.1 ∧ ∀ g, q.2.2.ownBlock = some g → S g
  lt : ∀ k, S k → k < w.heap.size
  name : ∀ q ∈ qs, q.1.name.length ≤ 100

def DiskAt (S : Nat → Prop) (w : World) (d : Nat) (D : DiskA) : Prop := ∃ mb qs, DiskIn S w d mb D qs

theorem ownsMap_block {w w' : World} {b n : Nat} {D : DataW HU} (h : w.ownsMap Tryz.prog 9 ptrE b n D) (hb : w'.heap[b]? = w.heap[b]?) : w'.ownsMap Tryz.prog 9 ptrE b n D := by
  obtain ⟨es, clock, h1, r⟩ := h
  exact ⟨es, clock, hb.trans h1, r⟩
theorem ownsMap_tight {w : World} {b n : Nat} {D : DataW HU} (h : w.ownsMap Tryz.prog 9 ptrE b n D) : w.ownsMap Tryz.prog 9 ptrE b (Maps.size D) D := by
  obtain ⟨es, clock, h1, h2, h3, rfl⟩ := h
  exact ⟨es, clock, h1, h2, by simp [Maps.size, length_sorted], rfl⟩
theorem ownsRow_block {w w' : World} {base e size n : Nat} {v : Value} {cs : List Value} (h : w.ownsRow base e size v n cs) (hb : ∀ g, v.ownBlock = some g → w'.heap[g]? = w.heap[g]?) : w'.ownsRow base e size v n cs := by
  refine ⟨h.1, ?_⟩
  rcases h.2 with h | ⟨g, cap, cur, rfl, hg, hh, r⟩
  · exact .inl h
  · exact .inr ⟨g, cap, cur, rfl, hg, (hb g rfl).trans hh, r⟩

/-- A disk stays what it is while other blocks are written and new ones are made. -/
theorem DiskIn.fr {S F : Nat → Prop} {w w' : World} {d mb : Nat} {D : DiskA} {qs : List Ent} (h : DiskIn S w d mb D qs) (hf : Fr F w w') (hF : ∀ k, S k → ¬ F k) : DiskIn S w' d mb D qs :=
  have hb : ∀ k, S k → w'.heap[k]? = w.heap[k]? := fun k hk => hf.block k (h.lt k hk) (hF k hk)
  { files := h.files
    blk := (hb d h.inD).trans h.blk
    map := ownsMap_block h.map (hb mb h.inM)
    file := fun q hq => ⟨(hb _ (h.inF q hq).1).trans (h.file q hq).1, ownsRow_block (h.file q hq).2 (fun g hg => hb g ((h.inF q hq).2 g hg))⟩
    apart := h.apart
    sorted := h.sorted
    inD := h.inD
    inM := h.inM
    inF := h.inF
    lt := fun k hk => Nat.lt_of_lt_of_le (h.lt k hk) hf.size
    name := h.name }
theorem DiskIn.below {S : Nat → Prop} {w w' : World} {d mb : Nat} {D : DiskA} {qs : List Ent} (h : DiskIn S w d mb D qs) (hf : Below w.heap.size w w') : DiskIn S w' d mb D qs := h.fr (F := fun _ => False) (Fr.of_below hf) (fun _ _ h => h)
theorem DiskAt.fr {S F : Nat → Prop} {w w' : World} {d : Nat} {D : DiskA} (h : DiskAt S w d D) (hf : Fr F w w') (hF : ∀ k, S k → ¬ F k) : DiskAt S w' d D := by
  obtain ⟨mb, qs, h⟩ := h
  exact ⟨mb, qs, h.fr hf hF⟩
theorem DiskAt.below {S : Nat → Prop} {w w' : World} {d : Nat} {D : DiskA} (h : DiskAt S w d D) (hf : Below w.heap.size w w') : DiskAt S w' d D := h.fr (F := fun _ => False) (Fr.of_below hf) (fun _ _ h => h)

theorem keyS (n : Bytes) (h : n.length ≤ 1048576) : keyOf Tryz.prog 9 (.string ⟨n.toArray⟩) = some (.string n) := by
  have := Go.WideMaps.keyOf_string_mk (P := Tryz.prog) Tryz.underlying9 (s := ⟨n.toArray⟩) (by show n.toArray.size ≤ maxLen; unfold maxLen; simp; omega)
  simpa using this
theorem keyedS : Maps.Keyed Tryz.prog 9 := Maps.string_keyed Tryz.underlying9

/-- The pointer at a name. -/
theorem ent_ptr {S : Nat → Prop} {w : World} {d mb : Nat} {D : DiskA} {qs : List Ent} (h : DiskIn S w d mb D qs) (n : Bytes) (hn : n.length ≤ 1048576) :
    (findK nq qs n = none ∧ (Instr.lookup 131 (.map (some mb)) (.string ⟨n.toArray⟩) true).run Tryz.prog w = .ok (.tuple #[.pointer none, .bool false]) w) ∨
    ∃ i, ∃ hi : i < qs.length, findK nq qs n = some i ∧ (Instr.lookup 131 (.map (some mb)) (.string ⟨n.toArray⟩) true).run Tryz.prog w = .ok (.tuple #[.pointer (some ⟨qs[i].2.1, 0, none⟩), .bool true]) w := by
  obtain ⟨v, ps, hrun, hv⟩ := h.map.look_ok keyedS Tryz.underlying131 (z := .pointer none) (zd := .nil) (zp := []) (by kernel_rfl) rfl (keyS n hn)
  rw [mapK_has, mapK_at] at *
  rcases hf : findK nq qs n with _ | i
  · rw [hf] at hrun hv
    refine .inl ⟨rfl, ?_⟩
    rcases ptrE_inv hv with ⟨rfl, _⟩ | ⟨b, rfl, h2⟩
    · exact hrun
    · cases h2
  · rw [hf] at hrun hv
    obtain ⟨hi, _⟩ := findK_some hf
    refine .inr ⟨i, hi, rfl, ?_⟩
    simp only [List.getElem?_eq_getElem hi, dq] at hv
    rcases ptrE_inv hv with ⟨rfl, h2⟩ | ⟨b, rfl, h2⟩
    · cases h2
    · have : b = qs[i].2.1 := by
        have h3 := congrArg Prod.fst h2
        simp at h3
        omega
      rw [← this]
      exact hrun

end Go.Proofs.YtepceidajmedeaaGreatDoor

namespace Go.Proofs.YtepceidajmedeaaGreatDoor
open Go.RowKit CW

theorem wpList_next_disk {w : World} {ops : Array Oper} {rest : List Oper} {o : Oper} {a : Act} {Q : Exit → Act → World → Prop} (hg : o.guard = none) (it : Operand) (hop : o.op = Op.next it false)
    (qs : List Ent) (mb r n : Nat) (left : Lit → Bool) (cnt : Nat) (hit : a.eval it = .pointer (some ⟨r, 0, none⟩)) (h : w.ranges Tryz.prog 9 ptrE mb r n (mapQ qs) left cnt)
    (hDone : (∀ kl, left kl = false) → wpList Tryz.prog ops Q rest (a.put o.dst (.tuple #[.bool false])) w)
    (hMore : ∀ (i : Nat) (hi : i < qs.length) (W : World) (cnt' : Nat), left (.string qs[i].1.name) = true → W.ranges Tryz.prog 9 ptrE mb r n (mapQ qs) (fun z => left z && !z.sameKey (.string qs[i].1.name)) cnt' → cnt' < cnt → w.grownBy W (some r) → W.heap.size = w.heap.size →
      (Instr.entry (.pointer (some ⟨r, 0, none⟩))).run Tryz.prog W = .ok (.tuple #[.string ⟨qs[i].1.name.toArray⟩, .pointer (some ⟨qs[i].2.1, 0, none⟩)]) W → wpList Tryz.prog ops Q rest (a.put o.dst (.tuple #[.bool true, .string ⟨qs[i].1.name.toArray⟩, .pointer (some ⟨qs[i].2.1, 0, none⟩)])) W) :
    wpList Tryz.prog ops Q (o :: rest) a w := by
  refine wpList_next_ranges w hg it hop 9 keyedS ptrE Value.string (fun c : Option Nat => .pointer (c.map fun b => ⟨b, 0, none⟩)) (fun key kl hkey => by obtain ⟨s, rfl, _⟩ := WideMaps.string_of_keyOf Tryz.underlying9 hkey; exact ⟨s, rfl⟩)
    (fun v y hv => by rcases ptrE_inv hv with ⟨rfl, _⟩ | ⟨b, rfl, _⟩; exact ⟨none, rfl⟩; exact ⟨some b, rfl⟩) mb r n (mapQ qs) left cnt hit h (fun _ hl => hDone hl) ?_
  intro x c kl y W cnt' hkey hlk hv hat hrg hlt hgr hsz hen
  obtain ⟨s, e, rfl, _⟩ := WideMaps.string_of_keyOf Tryz.underlying9 hkey
  cases e
  have h1 := hat .nil
  have h2 := hat (.lit (.bool true))
  rw [mapK_at] at h1 h2
  rcases hf : findK nq qs x.data.toList with _ | i
  · rw [hf] at h1 h2
    exact absurd (h1.trans h2.symm) (by intro h; cases h)
  · obtain ⟨hi, hk⟩ := findK_some hf
    rw [hf] at h1
    simp only [List.getElem?_eq_getElem hi] at h1
    have hb : c = some qs[i].2.1 := by
      rcases ptrE_inv hv with ⟨_, rfl⟩ | ⟨b, hb, rfl⟩
      · cases h1
      · have hbb : b = qs[i].2.1 := by
          simp [dq] at h1
          omega
        cases c with
        | none => cases hb
        | some c' =>
          simp at hb
          rw [hb, hbb]
    subst hb
    have hx : x = ⟨qs[i].1.name.toArray⟩ := by
      have hk' : qs[i].1.name = x.data.toList := hk
      rw [hk']
    have hm := hMore i hi W cnt'
    rw [hx] at hen ⊢
    have hxl : x.data.toList = qs[i].1.name := hk.symm
    rw [hxl] at hlk hrg
    exact hm hlk hrg hlt hgr hsz hen

def usedL (qs : List Ent) (left : Lit → Bool) : Nat := ((qs.filter (fun q => !left (.string q.1.name))).map (fun q => q.1.b.length)).sum
theorem usedL_none (qs : List Ent) (left : Lit → Bool) (h : ∀ kl, left kl = false) : usedL qs left = usedF (qs.map (·.1)) := by
  unfold usedL usedF
  rw [List.filter_eq_self.2 (fun q _ => by rw [h]; rfl), List.map_map]
  rfl
theorem usedL_all (qs : List Ent) : usedL qs (Maps.has (mapQ qs)) = 0 := by
  unfold usedL
  have : qs.filter (fun q => !(Maps.has (mapQ qs)) (.string q.1.name)) = [] := by
    rw [List.filter_eq_nil_iff]
    intro q hq
    rw [mapK_has]
    rcases hf : findK nq qs q.1.name with _ | i
    · exact absurd rfl (findK_none.1 hf q hq)
    · simp
  rw [this]
  rfl
theorem usedL_step (qs : List Ent) (hs : SortedK nq qs) (left : Lit → Bool) (i : Nat) (hi : i < qs.length) (h : left (.string qs[i].1.name) = true) :
    usedL qs (fun z => left z && !z.sameKey (.string qs[i].1.name)) = usedL qs left + qs[i].1.b.length := by
  have hl : qs = qs.take i ++ qs[i] :: qs.drop (i + 1) := by rw [List.getElem_cons_drop, List.take_append_drop]
  generalize hq : qs[i] = q at *
  have key : ∀ p, (left (.string p) && !(Lit.string p).sameKey (.string q.1.name)) = if p = q.1.name then false else left (.string p) := by
    intro p
    rw [sameKey_string]
    by_cases hp : p = q.1.name
    · simp [hp]
    · simp [hp]
  generalize qs.take i = l at *
  generalize qs.drop (i + 1) = r at *
  subst hl
  obtain ⟨h1, h2, h3⟩ := List.pairwise_append.1 hs
  obtain ⟨h4, h5⟩ := List.pairwise_cons.1 h2
  have el : l.filter (fun p => !(left (.string p.1.name) && !(Lit.string p.1.name).sameKey (.string q.1.name))) = l.filter (fun p => !left (.string p.1.name)) := by
    apply List.filter_congr
    intro p hp
    rw [key, if_neg (ltB_ne (h3 p hp q (by simp)))]
  have er : r.filter (fun p => !(left (.string p.1.name) && !(Lit.string p.1.name).sameKey (.string q.1.name))) = r.filter (fun p => !left (.string p.1.name)) := by
    apply List.filter_congr
    intro p hp
    rw [key, if_neg (ltB_ne (h4 p hp)).symm]
  unfold usedL
  have ks : (Lit.string q.1.name).sameKey (.string q.1.name) = true := by rw [sameKey_string]; simp
  rw [List.filter_append, List.filter_append, List.filter_cons, List.filter_cons, el, er]
  simp only [ks, h]
  simp
  omega
theorem usedL_le (qs : List Ent) (left : Lit → Bool) : usedL qs left ≤ usedF (qs.map (·.1)) := by
  unfold usedL usedF
  rw [List.map_map]
  induction qs with
  | nil => simp
  | cons q qs ih =>
    rw [List.filter_cons]
    split
    · simp only [List.map_cons, List.sum_cons]
      have : ((fun x : FileA => x.b.length) ∘ fun x : Ent => x.1) q = q.1.b.length := rfl
      omega
    · simp only [List.map_cons, List.sum_cons]
      omega

set_option maxHeartbeats 1000000 in
theorem used_any {S : Nat → Prop} {D : DiskA} {d : Nat} (w : World) (h : DiskAt S w d D) (hu : usedF D.files ≤ 4611686018427387904) :
    Calls Tryz.prog 51 #[.pointer (some ⟨d, 0, none⟩)] w fun e w' => e = .returned (.int .i64 (usedF D.files : Nat)) ∧ Below w.heap.size w w' := by
  obtain ⟨mb, qs, h⟩ := h
  have HFI : Hid (qs.map (·.1) = D.files) := h.files
  have HU : Hid (usedF (qs.map (·.1)) ≤ 4611686018427387904) := by show _ ≤ _; rw [h.files]; exact hu
  obtain ⟨c0, c1, c2, c3⟩ := cells4 h.blk
  have hmap := h.map
  have hsort : Hid (SortedK nq qs) := h.sorted
  have hfile := h.file
  have hmlt := h.lt mb h.inM
  have hflt := fun q hq => h.lt _ (h.inF q hq).1
  clear h hu
  rw [← HFI.out]
  go_enter Tryz.func51, Tryz.ntmps51
  go_wp2_with (at_range; refine wpList_range_own _ rfl _ 131 rfl 9 132 keyedS Tryz.underlying131 ptrE mb qs.length (mapQ qs) rfl hmap ?_; intro w0 hrg0 hg0 hs0)
  go_frame
  go_loopw [3] (fun n wr => ∃ left cnt, wr.ranges Tryz.prog 9 ptrE mb w.heap.size qs.length (mapQ qs) left cnt ∧ n = .int .i64 (usedL qs left : Nat) ∧ Hid (Below w.heap.size w wr)) (fun _ wr => wr.rangeLeft mb w.heap.size)
  case atStart => exact ⟨_, _, hrg0, by rw [usedL_all]; rfl, (Below.refl _ _).grown hg0 (Nat.le_refl _) (fun k hk => by cases hk)⟩
  case round =>
    obtain ⟨left, cnt, hrg, rfl, HB⟩ := hrel
    have hB := HB.out
    have hle : usedL qs left ≤ 4611686018427387904 := Nat.le_trans (usedL_le qs left) HU.out
    go_wp2_with (at_next; refine wpList_next_disk rfl (.tmp 12) rfl qs mb w.heap.size qs.length left cnt rfl hrg ?_ ?_)
    · intro hl
      have HE : Hid (usedL qs left = usedF (qs.map (·.1))) := usedL_none qs left hl
      clear hle
      go_wp2
      go_ret
      exact ⟨by rw [HE.out] <;> rfl, hB⟩
    · intro i hi W cnt' hlk hrg' hlt hg' hsz hen
      have hB' : Below w.heap.size w W := hB.grown hg' hB.size (fun k hk => by cases hk; exact Nat.le_refl _)
      have HE : Hid (usedL qs (fun z => left z && !z.sameKey (.string qs[i].1.name)) = usedL qs left + qs[i].1.b.length) := usedL_step qs hsort.out left i hi hlk
      have hle2 : usedL qs (fun z => left z && !z.sameKey (.string qs[i].1.name)) ≤ 4611686018427387904 := Nat.le_trans (usedL_le qs _) HU.out
      rw [HE.out] at hle2
      have hq := hfile qs[i] (List.getElem_mem hi)
      have hql := hflt qs[i] (List.getElem_mem hi)
      obtain ⟨a1, cap1, hv, hr1, hr2, _⟩ := (Row.of_owns hq.2).open
      have hq1 := (hB'.block _ hql).trans hq.1
      rw [hv] at hq1
      obtain ⟨x0, x1⟩ := cells2 hq1
      have HN : Hid (W.ranges Tryz.prog 9 ptrE mb w.heap.size qs.length (mapQ qs) (fun z => left z && !z.sameKey (.string qs[i].1.name)) cnt') := hrg'
      have HL1 := hrg'.left_eq
      have HL2 := hrg.left_eq
      clear hrg' hq hq1 hv hfile hlk hle hB
      generalize (fun z => left z && !z.sameKey (.string qs[i].1.name)) = left' at *
      generalize qs[i].1.name = y at *
      generalize qs[i].1.b.length = m at *
      generalize qs[i].2.1 = fb at *
      generalize usedL qs left = u at *
      go_wp2
      go_roundw
      case rel => exact ⟨left', cnt', HN.out, by rw [HE.out]; go_num, hB'⟩
      case measure => rw [HL1, HL2]; omega

end Go.Proofs.YtepceidajmedeaaGreatDoor
