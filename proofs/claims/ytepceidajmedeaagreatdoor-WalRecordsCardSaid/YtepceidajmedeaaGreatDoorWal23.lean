/- Lemmas for a law of this seat, part 23: contracts of the functions that it reaches, and the plain law. No condition but those of each lemma. -/
import Derived.Test.YtepceidajmedeaaGreatDoorWal14
import Derived.Test.YtepceidajmedeaaGreatDoorKeys

namespace Go.Proofs
open Go.RowKit Go.Maps Go.Sort Go.Shelf

theorem Tryz.sortsA (m : Nat) : AnyZ.SortsIn Tryz.prog Tryz.sortedA_ren Fence.wide m :=
  ⟨fun blk off cap ss W hH hblk hsz => callsIn_wide.2 (AnyM.slices_Sort_string Tryz.sortA blk off cap ss W hH hblk hsz),
   fun p cap W => callsIn_wide.2 (AnyM.slices_Sort_string_none Tryz.sortA p cap W)⟩

end Go.Proofs
namespace Go.Proofs.YtepceidajmedeaaGreatDoor
open Go.RowKit CW Go.Sort Go.Shelf

theorem ltB_le : ∀ a b : Bytes, ltB a b = true → a ≤ b
  | [], _, _ => List.nil_le _
  | _ :: _, [], h => by cases h
  | a :: x, b :: y, h => by
    have h : (decide (a < b) || (a == b && bytesBefore x y)) = true := h
    simp only [Bool.or_eq_true, decide_eq_true_eq, Bool.and_eq_true, beq_iff_eq] at h
    rcases h with h1 | ⟨rfl, h2⟩
    · exact List.le_of_lt (List.cons_lt_cons_iff.2 (.inl h1))
    · have := ltB_le x y h2
      rw [List.cons_le_cons_iff]
      exact .inr ⟨rfl, this⟩

theorem names_sorted (qs : List Ent) (hs : SortedK nq qs) (ss : List (List UInt8)) (hp : ss.Perm (strKeys (mapQ qs))) : ss.mergeSort (fun x y => decide (x ≤ y)) = qs.map nq := by
  have h1 : strKeys (mapQ qs) = qs.map nq := by
    show List.map _ (List.map _ qs) = _
    rw [List.map_map]
    rfl
  rw [h1] at hp
  have h2 := mergeSort_of_perm hp
  rw [show ss.mergeSort (fun x y => decide (x ≤ y)) = ss.mergeSort leB from rfl, h2]
  refine List.mergeSort_of_pairwise ?_
  rw [List.pairwise_map]
  exact hs.imp (fun h => decide_eq_true (ltB_le _ _ h))

set_option maxHeartbeats 1000000 in
theorem disklist_any {S : Nat → Prop} {D : DiskA} {d : Nat} (w : World) (h : DiskAt S w d D) (hl : D.files.length ≤ 1048576) :
    Calls Tryz.prog 25 #[.pointer (some ⟨d, 0, none⟩)] w fun e w' => ∃ v, e = .returned v ∧ w'.ownsRow w.heap.size 9 1 v D.files.length (D.files.map (fun f => stV f.name)) ∧ Below w.heap.size w w' := by
  obtain ⟨mb, qs, h⟩ := h
  have hql : qs.length = D.files.length := by rw [← h.files, List.length_map]
  have HN : Hid (D.files.map (fun f => stV f.name) = (qs.map nq).map encStr) := by show _ = _; rw [← h.files, List.map_map, List.map_map]; rfl
  have HS : ∀ ss : List (List UInt8), ss.Perm (strKeys (mapQ qs)) → ss.mergeSort (fun x y => decide (x ≤ y)) = qs.map nq := fun ss hp => names_sorted qs h.sorted ss hp
  have hbl := h.lt mb h.inM
  have hown := h.map
  obtain ⟨c0, c1, c2, c3⟩ := cells4 h.blk
  have hmax : Maps.size (mapQ qs) ≤ maxLen := by rw [mapK_size]; unfold maxLen; omega
  have hbytes : Maps.size (mapQ qs) * 16 ≤ 140737488355328 := by rw [mapK_size]; omega
  clear h
  refine (callsIn_wide (n := 6)).1 ?_
  have hseq : SeqGives Fence.wide 2 Tryz.prog 142 #[.pointer (some ⟨w.heap.size, 0, none⟩)] encStr (fun ss => ss.Perm (strKeys (mapQ qs))) (Maps.size (mapQ qs)) (w.alloc (.cells #[.map (some mb)] 131)) :=
    AnyZ.keys_gives (ρ := Tryz.keysA_ren) { Tryz.keysA with } Fence.wide _ trivial rfl (by omega) w.heap.size mb qs.length (mapQ qs) _ (by simp) (by simp) (by
      obtain ⟨es, clock, hb, Ft, hs, hD⟩ := hown
      exact ⟨es, clock, (Below.heap_alloc _ _ mb hbl).trans hb, Ft, hs, hD⟩)
  have cK : ∀ mb W, CallsIn Fence.wide 5 Tryz.prog 81 #[.map mb] W fun e w' => e = .returned (.func (.func 142) #[] #[.pointer (some ⟨W.heap.size, 0, none⟩)]) ∧ w' = W.alloc (.cells #[.map mb] 131) := fun mb W => AnyZ.keys_in Tryz.keysA Fence.wide 5 trivial rfl mb W
  have cS := AnyZ.sorted_in Tryz.sortedA Fence.wide 5 trivial trivial trivial trivial rfl (by omega) (Tryz.sortsA _) (enters_of Tryz.func141 (by kernel_rfl) rfl) 142 #[.pointer (some ⟨w.heap.size, 0, none⟩)] trivial (enters_of Tryz.func142 (by kernel_rfl) rfl) _ _ hmax hbytes _ hseq
  change CallsIn _ _ Tryz.prog 80 _ _ _ at cS
  have hfK : Fence.wide.fn 81 := trivial
  have hfS : Fence.wide.fn 80 := trivial
  refine callsIn_of_wp Tryz.func25 rfl trivial ?_ rfl
  simp only [Tryz.ntmps25, List.size_toArray, List.length_cons, List.length_nil, Nat.reduceAdd, Nat.reduceSub, Array.replicate_succ, Array.replicate_zero, List.push_toArray, List.append_toArray, List.nil_append, List.cons_append]
  gi_wp2_with (first
    | (gi_at_call 81; refine (cK _ _).mono ?_; rintro e w' ⟨rfl, rfl⟩)
    | (gi_at_call 80; refine cS.mono ?_; rintro e w' ⟨v, ss, rfl, hS, hrow, hnil, hb⟩))
  go_ret
  have hr := ownsRow_base_a hrow (show w.heap.size ≤ _ by simp)
  rw [HS ss hS, ← HN.out] at hr
  have hlen : ss.length = D.files.length := by
    have h1 := congrArg List.length (HS ss hS)
    rw [List.length_mergeSort, List.length_map] at h1
    omega
  rw [hlen] at hr
  exact ⟨v, rfl, hr, ((Below.refl _ w).alloc (Nat.le_refl _) _).trans (hb.mono (by simp))⟩

end Go.Proofs.YtepceidajmedeaaGreatDoor
