/- Lemmas for a law of this seat, part 7: contracts of the functions that it reaches, and the plain law. No condition but those of each lemma. -/
import Derived.Test.YtepceidajmedeaaGreatDoorWal6
import Derived.Lib.SlicesCompact

namespace CW
open Go

theorem num4_le4 (n : Nat) (h : n < 4294967296) (t : Bytes) : num4 (le4 n ++ t) = n := by
  show (UInt8.ofNat n).toNat + 256 * (UInt8.ofNat (n / 256)).toNat + 65536 * (UInt8.ofNat (n / 65536)).toNat + 16777216 * (UInt8.ofNat (n / 16777216)).toNat = n
  simp only [UInt8.toNat_ofNat']
  omega

theorem openB_sealB (b : Bytes) : openB (sealB b) = some b := by
  unfold openB
  have h : (sealB b).length = b.length + 4 := sealB_length b
  have ht : (sealB b).take ((sealB b).length - 4) = b := by
    rw [h, Nat.add_sub_cancel]
    unfold sealB
    exact List.take_left
  have hd : (sealB b).drop ((sealB b).length - 4) = le4 (CW.sum b) := by
    rw [h, Nat.add_sub_cancel]
    unfold sealB
    exact List.drop_left
  rw [ht, hd, if_neg (by omega), if_pos rfl]

theorem nextB_frame (r t : Bytes) (h : r.length ≤ 1048576) : nextB (frameB r ++ t) = some (r, r.length + 8) := by
  have hl : (frameB r ++ t).length = r.length + 8 + t.length := by rw [List.length_append, frameB_length]
  have hn : num4 (frameB r ++ t) = r.length := by
    have e : frameB r ++ t = le4 r.length ++ (r ++ le4 (CW.sum (le4 r.length ++ r)) ++ t) := by simp [frameB, sealB]
    rw [e]
    exact num4_le4 _ (by omega) _
  have ht : (frameB r ++ t).take (r.length + 8) = frameB r := by
    rw [← frameB_length r]
    exact List.take_left
  unfold nextB
  rw [hn, hl, ht, if_neg (by omega), if_neg (by omega)]
  unfold frameB
  rw [openB_sealB]
  rfl

theorem nextB_short (b : Bytes) (h : b.length < 8) : nextB b = none := by
  unfold nextB
  rw [if_pos h]

/-- The frames of some records. -/
def framesB (rs : List Bytes) : Bytes := rs.flatMap frameB
theorem framesB_append (a b : List Bytes) : framesB (a ++ b) = framesB a ++ framesB b := by simp [framesB]
theorem framesB_one (a : Bytes) : framesB [a] = frameB a := by simp [framesB]
theorem framesB_cons (a : Bytes) (l : List Bytes) : framesB (a :: l) = frameB a ++ framesB l := by simp [framesB]
theorem framesB_len (rs : List Bytes) : (framesB rs).length = (rs.map (fun r => r.length + 8)).sum := by
  induction rs with
  | nil => rfl
  | cons r l ih => rw [framesB_cons, List.length_append, frameB_length, ih]; simp

theorem splitB_frames (rs : List Bytes) (h : ∀ r ∈ rs, r.length ≤ 1048576) : splitB (framesB rs) = (rs, (framesB rs).length) := by
  induction rs with
  | nil => rw [splitB_none (nextB_short _ (by decide))]; rfl
  | cons r l ih =>
    rw [framesB_cons, splitB_some (nextB_frame r (framesB l) (h r (by simp)))]
    have hd : (frameB r ++ framesB l).drop (r.length + 8) = framesB l := by rw [← frameB_length r]; exact List.drop_left
    rw [hd, ih (fun q hq => h q (by simp [hq])), List.length_append, frameB_length]

/-- Frames, and bytes behind them that are no frame. -/
theorem splitB_frames_tail (rs : List Bytes) (t : Bytes) (h : ∀ r ∈ rs, r.length ≤ 1048576) (ht : nextB t = none) : splitB (framesB rs ++ t) = (rs, (framesB rs).length) := by
  induction rs with
  | nil => show splitB t = _; rw [splitB_none ht]; rfl
  | cons r l ih =>
    rw [framesB_cons, List.append_assoc, splitB_some (nextB_frame r (framesB l ++ t) (h r (by simp)))]
    have hd : (frameB r ++ (framesB l ++ t)).drop (r.length + 8) = framesB l ++ t := by rw [← frameB_length r]; exact List.drop_left
    rw [hd, ih (fun q hq => h q (by simp [hq])), List.length_append, frameB_length]

theorem before_append (p a b : Bytes) : bytesBefore (p ++ a) (p ++ b) = bytesBefore a b := by
  induction p with
  | nil => rfl
  | cons c p ih =>
    show (decide (c < c) || (c == c && bytesBefore (p ++ a) (p ++ b))) = _
    rw [ih]
    have : ¬ c < c := UInt8.lt_irrefl c
    simp [this]

theorem low_lt (k : Nat) : ∀ n m, n % 10 ^ k < m % 10 ^ k → bytesBefore (low k n) (low k m) = true := by
  induction k with
  | zero => intro n m h; simp [Nat.mod_one] at h
  | succ k ih =>
    intro n m h
    have hn : n % 10 ^ (k + 1) = n % 10 ^ k + 10 ^ k * (n / 10 ^ k % 10) := by rw [Nat.pow_succ]; exact Nat.mod_mul
    have hm : m % 10 ^ (k + 1) = m % 10 ^ k + 10 ^ k * (m / 10 ^ k % 10) := by rw [Nat.pow_succ]; exact Nat.mod_mul
    rw [hn, hm] at h
    have hp : 0 < 10 ^ k := Nat.pow_pos (by decide)
    have h1 : n % 10 ^ k < 10 ^ k := Nat.mod_lt _ hp
    have h2 : m % 10 ^ k < 10 ^ k := Nat.mod_lt _ hp
    have ha : n / 10 ^ k % 10 < 10 := Nat.mod_lt _ (by decide)
    have hb : m / 10 ^ k % 10 < 10 := Nat.mod_lt _ (by decide)
    show (decide (UInt8.ofNat (48 + n / 10 ^ k % 10) < UInt8.ofNat (48 + m / 10 ^ k % 10)) || (UInt8.ofNat (48 + n / 10 ^ k % 10) == UInt8.ofNat (48 + m / 10 ^ k % 10) && bytesBefore (low k n) (low k m))) = true
    have ih1 := ih n m
    generalize n / 10 ^ k % 10 = a at *
    generalize m / 10 ^ k % 10 = b at *
    generalize 10 ^ k = p at *
    rcases Nat.lt_trichotomy a b with hab | hab | hab
    · have : UInt8.ofNat (48 + a) < UInt8.ofNat (48 + b) := by
        rw [UInt8.lt_iff_toNat_lt, UInt8.toNat_ofNat', UInt8.toNat_ofNat']
        omega
      rw [decide_eq_true this]
      rfl
    · subst hab
      have h3 := ih1 (by omega)
      rw [h3, Bool.and_true, beq_self_eq_true, Bool.or_true]
    · exfalso
      have : p * (b + 1) ≤ p * a := Nat.mul_le_mul_left p hab
      rw [Nat.mul_succ] at this
      omega

theorem nameB_lt {n m : Nat} (h : n < m) (hm : m ≤ 99999999) : ltB (nameB n) (nameB m) = true := by
  show bytesBefore (pre4 ++ low 8 n) (pre4 ++ low 8 m) = true
  rw [before_append]
  refine low_lt 8 n m ?_
  rw [Nat.mod_eq_of_lt (by omega), Nat.mod_eq_of_lt (by omega)]
  exact h

theorem numB_some {s : Bytes} {n : Nat} (h : numB s = some n) : 1 ≤ n ∧ n ≤ 99999999 ∧ s = nameB n := by
  have h' := h
  unfold numB at h'
  split at h'
  · rename_i hc
    obtain ⟨hl, hp, hd, hv⟩ := hc
    have hb := valB_lt (s.drop 4) hd
    have h8 : (s.drop 4).length = 8 := by rw [List.length_drop]; omega
    rw [h8] at hb
    have he := numB_eq s hl hd
    rw [h] at he
    split at he
    · rename_i hc2
      cases he
      exact ⟨hc2.1, by omega, hc2.2.symm⟩
    · cases he
  · cases h'

theorem numB_lt {s t : Bytes} {n m : Nat} (hs : numB s = some n) (ht : numB t = some m) (h : ltB s t = true) : n < m := by
  obtain ⟨h1, h2, rfl⟩ := numB_some hs
  obtain ⟨h3, h4, rfl⟩ := numB_some ht
  rcases Nat.lt_trichotomy n m with k | k | k
  · exact k
  · subst k; rw [ltB_irrefl] at h; cases h
  · rw [ltB_asymm (nameB_lt k h2)] at h; cases h

theorem nameB_named (n : Nat) : namedB (nameB n) = true := by
  have hd : ∀ k, (low k n).all okC = true := by
    intro k
    induction k with
    | zero => rfl
    | succ k ih =>
      rw [low, List.all_cons, ih, Bool.and_true]
      unfold okC
      simp only [UInt8.toNat_ofNat', Bool.or_eq_true, Bool.and_eq_true, decide_eq_true_eq]
      omega
  unfold namedB
  rw [nameB_length]
  show (true && (pre4 ++ low 8 n).all okC) = true
  rw [List.all_append, hd 8]
  rfl

end CW
