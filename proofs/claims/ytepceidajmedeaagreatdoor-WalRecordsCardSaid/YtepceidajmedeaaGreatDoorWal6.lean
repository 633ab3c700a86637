/- Lemmas for a law of this seat, part 6: contracts of the functions that it reaches, and the plain law. No condition but those of each lemma. -/
import Derived.Test.YtepceidajmedeaaGreatDoorWal5
import Derived.Lib.SlTrimSet
import Derived.WalkKit

namespace CW

def alw : Bytes := [97, 98, 99, 100, 101, 102, 103, 104, 105, 106, 107, 108, 109, 110, 111, 112, 113, 114, 115, 116, 117, 118, 119, 120, 121, 122, 48, 49, 50, 51, 52, 53, 54, 55, 56, 57, 45, 46]
def okC (c : UInt8) : Bool := (decide (97 ≤ c.toNat) && decide (c.toNat ≤ 122)) || (decide (48 ≤ c.toNat) && decide (c.toNat ≤ 57)) || decide (c.toNat = 45) || decide (c.toNat = 46)
/-- Is it a name of a file? -/
def namedB (s : Bytes) : Bool := decide (1 ≤ s.length) && decide (s.length ≤ 100) && s.all okC

theorem alw_contains (c : UInt8) : alw.contains c = okC c := by
  have h : ((List.range 256).all fun n => alw.contains (UInt8.ofNat n) == okC (UInt8.ofNat n)) = true := by kernel_rfl
  have h2 := List.all_eq_true.1 h c.toNat (List.mem_range.2 c.toNat_lt)
  simpa using h2

theorem dropWhile_nil {p : UInt8 → Bool} (l : Bytes) : l.dropWhile p = [] ↔ ∀ c ∈ l, p c = true := by
  induction l with
  | nil => simp
  | cons c l ih =>
    rw [List.dropWhile_cons]
    by_cases h : p c = true
    · rw [if_pos h, ih]; simp [h]
    · rw [if_neg h]; simp [h]

theorem mem_takeWhile {p : UInt8 → Bool} (l : Bytes) (c : UInt8) (h : c ∈ l.takeWhile p) : p c = true := by
  induction l with
  | nil => simp at h
  | cons d l ih =>
    rw [List.takeWhile_cons] at h
    split at h
    · rename_i hd
      rcases List.mem_cons.1 h with rfl | h
      · exact hd
      · exact ih h
    · simp at h

theorem trimS_nil (s : Bytes) : (Go.Lib.trimS s alw = []) ↔ s.all okC = true := by
  have hf : (fun c => alw.contains c) = okC := funext alw_contains
  unfold Go.Lib.trimS Go.Lib.trimLeftS Go.Lib.trimRightS
  simp only [hf]
  rw [dropWhile_nil, List.all_eq_true]
  constructor
  · intro h c hc
    by_cases hk : okC c = true
    · exact hk
    · have hmem : c ∈ (s.reverse.dropWhile okC) := by
        have h1 : c ∈ s.reverse.takeWhile okC ++ s.reverse.dropWhile okC := by rw [List.takeWhile_append_dropWhile]; simpa using hc
        rcases List.mem_append.1 h1 with h2 | h2
        · exact absurd (mem_takeWhile _ c h2) hk
        · exact h2
      exact h c (by simpa using hmem)
  · intro h c hc
    have : c ∈ s.reverse.dropWhile okC := by simpa using hc
    exact h c (by simpa using (List.dropWhile_sublist _).subset this)

end CW

namespace CW

inductive OpA where
  | create
  | append (b : Bytes)
  | sync
  | rename (new : Bytes)
  | remove

/-- A change, where the disk is not down and no failure is due. -/
def bodyA (D : DiskA) (o : OpA) (n : Bytes) : DiskA × Int :=
  if namedB n = false then (D, 6) else
  match o, (findF D.files n).bind (fun i => D.files[i]?) with
  | .create, none => ({ D with files := putF D.files ⟨n, [], 0⟩ }, 0)
  | .create, some _ => (D, 7)
  | _, none => (D, 6)
  | .append b, some f => if D.room < ((usedF D.files + b.length : Nat) : Int) then (D, 5) else ({ D with files := putF D.files ⟨f.name, f.b ++ b, f.dur⟩ }, 0)
  | .sync, some f => ({ D with files := putF D.files ⟨f.name, f.b, f.b.length⟩ }, 0)
  | .rename new, some f => if namedB new = false then (D, 6) else ({ D with files := putF (withoutK FileA.name D.files n) ⟨new, f.b, f.dur⟩ }, 0)
  | .remove, some _ => ({ D with files := withoutK FileA.name D.files n }, 0)

def planA (p : Int) : Int := max (p - 1) 0
def doA (D : DiskA) (o : OpA) (n : Bytes) : DiskA × Int :=
  if D.down = true then (D, 10) else if D.plan = 1 then ({ D with plan := 0, down := true }, 10) else bodyA { D with plan := planA D.plan } o n

end CW

namespace CW

structure LogA where
  D : DiskA
  most : Int
  n : Nat
  size : Nat
  waiting : Nat

/-- On to the next segment. -/
def rotA (L : LogA) : LogA × Int :=
  let r := doA L.D .sync (nameB L.n)
  if r.2 ≠ 0 then ({ L with D := r.1 }, r.2) else
  let s := doA r.1 .create (nameB (L.n + 1))
  if s.2 ≠ 0 then ({ L with D := s.1 }, s.2) else (⟨s.1, L.most, L.n + 1, 0, 0⟩, 0)

/-- The frame's bytes, laid behind. -/
def appA (L : LogA) (b : Bytes) : LogA × Int :=
  let r := doA L.D (.append b) (nameB L.n)
  if r.2 ≠ 0 then ({ L with D := r.1 }, r.2) else (⟨r.1, L.most, L.n, L.size + b.length, L.waiting + 1⟩, 0)

def putA (L : LogA) (x : Bytes) : LogA × Int :=
  if x.length = 0 then (L, 2) else
  match makeB x with
  | none => (L, 4)
  | some b => if L.most < (b.length : Int) then (L, 4) else
    if 0 < L.size ∧ L.most < (L.size : Int) + (b.length : Int) then
      let r := rotA L
      if r.2 ≠ 0 then r else appA r.1 b
    else appA L b

end CW
