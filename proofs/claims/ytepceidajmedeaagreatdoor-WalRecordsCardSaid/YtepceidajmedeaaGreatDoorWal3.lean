/- Lemmas for a law of this seat, part 3: contracts of the functions that it reaches, and the plain law. No condition but those of each lemma. -/
import Derived.Test.YtepceidajmedeaaGreatDoorWal2
import Derived.WalkKit
import Derived.WalkLawsBesides
import Derived.WalkSpells
import Derived.Lib.SlTrimSet
import Derived.Maps.Views
import Derived.Lib.SlicesCompact
import Derived.Maps.AppendAt
import Derived.OwnWalkIn
import Derived.Test.YtepceidajmedeaaGreatDoorProg
import Derived.Test.YtepceidajmedeaaGreatDoorShelf
import Derived.Laws.RangeString
import Derived.Laws.RangeAny
import Derived.Sort.OwnSortedInts
import Derived.Lib.OwnBridge
import Derived.Deep.RegionHeld3
import Derived.Maps.RangeWalk
import Derived.Shelf.Strings.SlTrimAscii
import Derived.BigQuiet

namespace Go.Proofs.YtepceidajmedeaaGreatDoor.walRecords
open Go.ChangeShapes Go.WideShapes Go.ChangeAt Go.RowKit

theorem fact_joined : joinedFacts Tryz.pinned.checked.prog 3 Tryz.f3 (OpenSpec.ofChange Rows.walRecordsSpec).bare Rows.walRecordsRow = true := by kernel_rfl

end Go.Proofs.YtepceidajmedeaaGreatDoor.walRecords

namespace CW

abbrev Bytes := List UInt8

/-- One halving of the register. -/
def half (r : Nat) : Nat := if r % 2 = 1 then (r / 2) ^^^ 2197175160 else r / 2

def halves : Nat → Nat → Nat
  | 0, r => r
  | k + 1, r => halves k (half r)

theorem halves_succ (k r : Nat) : halves (k + 1) r = half (halves k r) := by
  induction k generalizing r with
  | zero => rfl
  | succ k ih => exact ih (half r)

def feed (r : Nat) (c : UInt8) : Nat := halves 8 (r ^^^ c.toNat)
def flip (r : Nat) : Nat := 4294967295 - r
def more (s : Nat) (bs : Bytes) : Nat := flip (bs.foldl feed (flip s))
def sum (bs : Bytes) : Nat := more 0 bs

theorem xor_lt32 {a b : Nat} (ha : a < 4294967296) (hb : b < 4294967296) : a ^^^ b < 4294967296 :=
  Nat.xor_lt_two_pow (n := 32) ha hb

theorem half_lt {r : Nat} (h : r < 4294967296) : half r < 4294967296 := by
  unfold half
  split
  · exact xor_lt32 (by omega) (by decide)
  · omega

theorem halves_lt (k : Nat) {r : Nat} (h : r < 4294967296) : halves k r < 4294967296 := by
  induction k generalizing r with
  | zero => exact h
  | succ k ih => exact ih (half_lt h)

theorem feed_lt {r : Nat} (h : r < 4294967296) (c : UInt8) : feed r c < 4294967296 :=
  halves_lt 8 (xor_lt32 h (Nat.lt_of_lt_of_le c.toNat_lt (by decide)))

theorem fold_lt (bs : Bytes) {r : Nat} (h : r < 4294967296) : bs.foldl feed r < 4294967296 := by
  induction bs generalizing r with
  | nil => exact h
  | cons b bs ih => exact ih (feed_lt h b)

theorem flip_lt (r : Nat) : flip r < 4294967296 := by unfold flip; omega
theorem more_lt (s : Nat) (bs : Bytes) : more s bs < 4294967296 := flip_lt _
theorem sum_lt (bs : Bytes) : sum bs < 4294967296 := flip_lt _

theorem xor_mod2 (a b : Nat) : (a ^^^ b) % 2 = (a % 2 + b % 2) % 2 := by
  have h := Nat.xor_mod_two_pow (a := a) (b := b) (n := 1)
  simp only [Nat.pow_one] at h
  rw [h]
  rcases Nat.mod_two_eq_zero_or_one a with ha | ha <;> rcases Nat.mod_two_eq_zero_or_one b with hb | hb <;> rw [ha, hb] <;> decide

theorem xor_div2 (a b : Nat) : (a ^^^ b) / 2 = a / 2 ^^^ b / 2 := by
  have h := Nat.xor_div_two_pow (a := a) (b := b) (n := 1)
  simpa using h

theorem half_xor (a b : Nat) : half (a ^^^ b) = half a ^^^ half b := by
  unfold half
  rw [xor_mod2, xor_div2]
  rcases Nat.mod_two_eq_zero_or_one a with ha | ha <;> rcases Nat.mod_two_eq_zero_or_one b with hb | hb <;> rw [ha, hb] <;> simp
  · rw [Nat.xor_assoc]
  · rw [Nat.xor_assoc, Nat.xor_assoc, Nat.xor_comm (b / 2)]
  · rw [← Nat.xor_assoc, Nat.xor_assoc (a / 2), Nat.xor_comm 2197175160, ← Nat.xor_assoc, Nat.xor_assoc (a / 2 ^^^ b / 2), Nat.xor_self, Nat.xor_zero]

theorem halves_xor (k a b : Nat) : halves k (a ^^^ b) = halves k a ^^^ halves k b := by
  induction k generalizing a b with
  | zero => rfl
  | succ k ih => simp only [halves]; rw [half_xor, ih]

theorem half_even (q : Nat) : half (2 * q) = q := by unfold half; rw [if_neg (by omega)]; omega

theorem halves8_high (q : Nat) : halves 8 (256 * q) = q := by
  simp only [halves]
  rw [show 256 * q = 2 * (128 * q) by omega, half_even, show 128 * q = 2 * (64 * q) by omega, half_even, show 64 * q = 2 * (32 * q) by omega, half_even,
    show 32 * q = 2 * (16 * q) by omega, half_even, show 16 * q = 2 * (8 * q) by omega, half_even, show 8 * q = 2 * (4 * q) by omega, half_even,
    show 4 * q = 2 * (2 * q) by omega, half_even, half_even]

theorem split_byte (x : Nat) : x = (256 * (x / 256)) ^^^ (x % 256) := by
  have h := Nat.two_pow_add_eq_or_of_lt (i := 8) (b := x % 256) (Nat.mod_lt _ (by decide)) (x / 256)
  have e : 256 * (x / 256) + x % 256 = x := by omega
  have hx : (256 * (x / 256)) ^^^ (x % 256) = 256 * (x / 256) + x % 256 := by
    have hand : (256 * (x / 256)) &&& (x % 256) = 0 := by
      apply Nat.eq_of_testBit_eq
      intro i
      simp only [Nat.testBit_and, Nat.zero_testBit]
      by_cases hi : i < 8
      · have : (256 * (x / 256)).testBit i = false := by
          have := Nat.testBit_two_pow_mul (i := 8) (a := x / 256) (j := i)
          rw [show (2 : Nat) ^ 8 = 256 by decide] at this
          rw [this]; simp; omega
        simp [this]
      · have : (x % 256).testBit i = false := Nat.testBit_lt_two_pow (Nat.lt_of_lt_of_le (Nat.mod_lt _ (by decide)) (show 2 ^ 8 ≤ 2 ^ i from Nat.pow_le_pow_right (by decide) (by omega)))
        simp [this]
    apply Nat.eq_of_testBit_eq
    intro i
    rw [show (2 : Nat) ^ 8 = 256 by decide] at h
    rw [h, Nat.testBit_xor, Nat.testBit_or]
    have hb := congrArg (fun z => z.testBit i) hand
    simp only [Nat.testBit_and, Nat.zero_testBit] at hb
    generalize (256 * (x / 256)).testBit i = p at hb ⊢
    generalize (x % 256).testBit i = q at hb ⊢
    cases p <;> cases q <;> first | rfl | cases hb
  rw [hx, e]

/-- The register fed by the table. -/
theorem feed_table (r : Nat) (c : UInt8) : feed r c = (r / 256) ^^^ halves 8 ((r % 256) ^^^ c.toNat) := by
  unfold feed
  have hc : c.toNat < 256 := c.toNat_lt
  conv => lhs; rw [split_byte r, Nat.xor_assoc]
  rw [halves_xor, halves8_high]

theorem xor_lt256 {a b : Nat} (ha : a < 256) (hb : b < 256) : a ^^^ b < 256 := Nat.xor_lt_two_pow (n := 8) ha hb

end CW

namespace CW
open Go Go.RowKit

def encB (b : UInt8) : Value := .int .u8 (b.toNat : Int)
def encI (n : Int) : Value := .int .i64 n

/-- The world w' is as w was, but for new blocks and the blocks of F. -/
structure Fr (F : Nat → Prop) (w w' : World) : Prop where
  os : w'.os = w.os
  tape : w'.tape = w.tape
  output : w'.output = w.output
  size : w.heap.size ≤ w'.heap.size
  block : ∀ k, k < w.heap.size → ¬ F k → w'.heap[k]? = w.heap[k]?

theorem Fr.refl (F : Nat → Prop) (w : World) : Fr F w w := ⟨rfl, rfl, rfl, Nat.le_refl _, fun _ _ _ => rfl⟩
theorem Fr.of_below {F : Nat → Prop} {w w' : World} (h : Below w.heap.size w w') : Fr F w w' := ⟨h.os, h.tape, h.output, h.size, fun k hk _ => h.block k hk⟩
theorem Fr.below {w w' : World} {B : Nat} {F : Nat → Prop} (h : Fr F w w') (hB : B ≤ w.heap.size) (hF : ∀ k, k < B → ¬ F k) : Below B w w' := ⟨h.os, h.tape, h.output, h.size, fun k hk => h.block k (by omega) (hF k hk)⟩
theorem Fr.mono {F F' : Nat → Prop} {w w' : World} (h : Fr F w w') (hF : ∀ k, k < w.heap.size → F k → F' k) : Fr F' w w' := ⟨h.os, h.tape, h.output, h.size, fun k hk hn => h.block k hk (fun hf => hn (hF k hk hf))⟩
theorem Fr.trans {F : Nat → Prop} {a b c : World} (h : Fr F a b) {G : Nat → Prop} (k : Fr G b c) (hG : ∀ i, i < a.heap.size → G i → F i) : Fr F a c :=
  ⟨k.os.trans h.os, k.tape.trans h.tape, k.output.trans h.output, Nat.le_trans h.size k.size, fun i hi hn => (k.block i (Nat.lt_of_lt_of_le hi h.size) (fun hg => hn (hG i hi hg))).trans (h.block i hi hn)⟩

/-- What a slice shows: n elements, whose cells are cs; the row lies outside M. -/
def Row (M : Nat → Prop) (w : World) (v : Value) (n : Nat) (cs : List Value) : Prop :=
  ((∃ a, v = .slice a 0 0) ∧ n = 0 ∧ cs = []) ∨
  ∃ b off cap, v = .slice (some ⟨b, off, none⟩) n cap ∧ n ≤ cap ∧ cap ≤ 9223372036854775807 ∧ b < w.heap.size ∧ ¬ M b ∧ ∀ j u, cs[j]? = some u → w.cell? ⟨b, off + j, none⟩ = some u

/-- .. and its array is there, where it is not nil. -/
def RowS (M : Nat → Prop) (w : World) (v : Value) (n : Nat) (cs : List Value) : Prop :=
  (v = .slice none 0 0 ∧ n = 0 ∧ cs = []) ∨
  ∃ b off cap, v = .slice (some ⟨b, off, none⟩) n cap ∧ n ≤ cap ∧ cap ≤ 9223372036854775807 ∧ b < w.heap.size ∧ ¬ M b ∧ ∀ j u, cs[j]? = some u → w.cell? ⟨b, off + j, none⟩ = some u
theorem RowS.row {M : Nat → Prop} {w : World} {v : Value} {n : Nat} {cs : List Value} (h : RowS M w v n cs) : Row M w v n cs := h.imp (fun h => ⟨⟨_, h.1⟩, h.2⟩) id

theorem Row.fr {M M' F : Nat → Prop} {w w' : World} {v : Value} {n : Nat} {cs : List Value} (h : Row M w v n cs) (hf : Fr F w w') (hF : ∀ k, F k → M k) (hM : ∀ k, k < w.heap.size → M' k → M k) : Row M' w' v n cs := by
  rcases h with h | ⟨b, off, cap, hv, hn, hc, hb, hm, hcell⟩
  · exact .inl h
  · refine .inr ⟨b, off, cap, hv, hn, hc, Nat.lt_of_lt_of_le hb hf.size, fun h => hm (hM b hb h), fun j u hu => ?_⟩
    rw [World.cell?_of_block (w := w) (a := ⟨b, off + j, none⟩) (hf.block b hb (fun h => hm (hF b h)))]
    exact hcell j u hu

theorem Row.below {M : Nat → Prop} {w w' : World} {v : Value} {n : Nat} {cs : List Value} (h : Row M w v n cs) (hf : Below w.heap.size w w') : Row M w' v n cs :=
  h.fr (F := fun _ => False) (Fr.of_below hf) (fun _ h => h.elim) (fun _ _ h => h)

theorem Row.mono {M M' : Nat → Prop} {w : World} {v : Value} {n : Nat} {cs : List Value} (h : Row M w v n cs) (hM : ∀ k, k < w.heap.size → M' k → M k) : Row M' w v n cs :=
  h.fr (F := fun _ => False) (Fr.refl _ w) (fun _ h => h.elim) hM

theorem RowS.of_owns {w : World} {base e size n : Nat} {v : Value} {cs : List Value} (h : w.ownsRow base e size v n cs) : RowS (fun _ => False) w v n cs := by
  obtain ⟨hl, h | ⟨g, cap, cur, hv, hg, hh, hn, hm, hsz, ht⟩⟩ := h
  · refine .inl ⟨h.1, h.2, ?_⟩
    obtain ⟨_, rfl⟩ := h
    simpa using hl
  · refine .inr ⟨g, 0, cap, hv, hn, by unfold maxLen at hm; omega, (Array.getElem?_eq_some_iff.1 hh).1, (fun h => h), fun j u hu => ?_⟩
    rw [Nat.zero_add, Go.cell_of_row w g j cur e (0, 0) hh]
    rw [← ht, List.getElem?_take] at hu
    split at hu
    · simpa using hu
    · cases hu

/-- A row of the call's own, as a slice. -/
theorem Row.of_owns {w : World} {base e size n : Nat} {v : Value} {cs : List Value} (h : w.ownsRow base e size v n cs) : Row (fun k => k < base) w v n cs := by
  obtain ⟨hl, h | ⟨g, cap, cur, hv, hg, hh, hn, hm, hsz, ht⟩⟩ := h
  · refine .inl ⟨⟨_, h.1⟩, h.2, ?_⟩
    obtain ⟨_, rfl⟩ := h
    simpa using hl
  · refine .inr ⟨g, 0, cap, hv, hn, by unfold maxLen at hm; omega, (Array.getElem?_eq_some_iff.1 hh).1, by omega, fun j u hu => ?_⟩
    rw [Nat.zero_add, Go.cell_of_row w g j cur e (0, 0) hh]
    rw [← ht, List.getElem?_take] at hu
    split at hu
    · simpa using hu
    · cases hu

theorem owns_below {w w' : World} {base e size n : Nat} {v : Value} {cs : List Value} (h : w.ownsRow base e size v n cs) (hb : Below w.heap.size w w') : w'.ownsRow base e size v n cs := by
  refine ⟨h.1, ?_⟩
  rcases h.2 with h | ⟨g, cap, cur, hv, hg, hh, r⟩
  · exact .inl h
  · exact .inr ⟨g, cap, cur, hv, hg, (hb.block g (Array.getElem?_eq_some_iff.1 hh).1).trans hh, r⟩

theorem owns_base {w : World} {base base' e size n : Nat} {v : Value} {cs : List Value} (h : w.ownsRow base e size v n cs) (hb : base' ≤ base) : w.ownsRow base' e size v n cs := by
  refine ⟨h.1, ?_⟩
  rcases h.2 with h | ⟨g, cap, cur, hv, hg, r⟩
  · exact .inl h
  · exact .inr ⟨g, cap, cur, hv, by omega, r⟩

theorem below_drewN' {B : Nat} {w w' : World} (h : Below B w w') (n : Nat) : Below B w (w'.drewN n) := h.trans ⟨rfl, rfl, rfl, Nat.le_refl _, fun _ _ => rfl⟩

theorem below_grown {w w' : World} {base e size n : Nat} {v : Value} {cs : List Value} (h : w.ownsRow base e size v n cs) (hg : w.grownBy w' v.ownBlock) (hb : base ≤ w.heap.size) : Below base w w' :=
  (Below.refl base w).grown hg hb (fun k hk => (h.lt k hk).1)

/-- A slice literal. -/
theorem Row.lit {base : Nat} {w : World} {cs : Array Value} {e n size : Nat} {l : List Value} (hb : base ≤ w.heap.size) (hn : n ≤ maxLen) (hs : cs.size = n * size) (hl : cs = l.toArray) :
    Row (fun k => k < base) (w.alloc (.cells cs e)) (.slice (some ⟨w.heap.size, 0, none⟩) n n) n l := by
  have h := Row.of_owns (World.ownsRow_lit (e := e) (size := size) w cs n hb hn hs)
  subst hl
  exact h

theorem encB_ofNat (x : Nat) : encB (UInt8.ofNat x) = .int .u8 ((x % 256 : Nat) : Int) := by
  unfold encB
  congr 1

theorem bytes_one (bs : Bytes) : ∀ u ∈ bs.map encB, u.oneCell' = true := by
  intro u hu
  obtain ⟨b, _, rfl⟩ := List.mem_map.1 hu
  rfl

/-- A slice's value, opened: nil or not; its cells where it has an element. -/
theorem Row.open {M : Nat → Prop} {w : World} {v : Value} {n : Nat} {cs : List Value} (h : Row M w v n cs) :
    ∃ a cap, v = .slice a n cap ∧ n ≤ cap ∧ cap ≤ 9223372036854775807 ∧ (a = none → n = 0 ∧ cap = 0) ∧
      (0 < n → ∃ b off, a = some ⟨b, off, none⟩ ∧ b < w.heap.size ∧ ¬ M b ∧ ∀ j u, cs[j]? = some u → w.cell? ⟨b, off + j, none⟩ = some u) := by
  rcases h with ⟨⟨a0, rfl⟩, rfl, rfl⟩ | ⟨b, off, cap, rfl, hn, hc, hb, hm, hcell⟩
  · exact ⟨a0, 0, rfl, Nat.le_refl _, by omega, fun _ => ⟨rfl, rfl⟩, fun h => absurd h (Nat.lt_irrefl _)⟩
  · exact ⟨_, cap, rfl, hn, hc, (fun h => by cases h), fun _ => ⟨b, off, rfl, hb, hm, hcell⟩⟩

theorem ret_int {k : IntKind} {a b : Int} (h : a = b) : Ending.returned (.int k a) = .returned (.int k b) := by rw [h]

/-- The four bytes of a number, the lowest first. -/
def le4 (x : Nat) : Bytes := [UInt8.ofNat x, UInt8.ofNat (x / 256), UInt8.ofNat (x / 65536), UInt8.ofNat (x / 16777216)]

theorem le4_cells (x : Nat) (hx : x < 4294967296) : #[Value.int .u8 ((x : Int) % 256), .int .u8 ((x : Int) / 256 % 256), .int .u8 ((x : Int) / 65536 % 256), .int .u8 ((x : Int) / 16777216)] = ((le4 x).map encB).toArray := by
  have e1 : (x : Int) % 256 = ((x % 256 : Nat) : Int) := by omega
  have e2 : (x : Int) / 256 % 256 = ((x / 256 % 256 : Nat) : Int) := by omega
  have e3 : (x : Int) / 65536 % 256 = ((x / 65536 % 256 : Nat) : Int) := by omega
  have e4 : (x : Int) / 16777216 = ((x / 16777216 % 256 : Nat) : Int) := by omega
  rw [e1, e2, e3, e4]
  simp only [le4, List.map_cons, List.map_nil, encB_ofNat]

def sealB (bs : Bytes) : Bytes := bs ++ le4 (CW.sum bs)

def SlB (M : Nat → Prop) (w : World) (v : Value) (bs : Bytes) : Prop := Row M w v bs.length (bs.map encB)
theorem SlB.fr {M M' F : Nat → Prop} {w w' : World} {v : Value} {bs : Bytes} (h : SlB M w v bs) (hf : Fr F w w') (hF : ∀ k, F k → M k) (hM : ∀ k, k < w.heap.size → M' k → M k) : SlB M' w' v bs := Row.fr h hf hF hM
theorem SlB.below {M : Nat → Prop} {w w' : World} {v : Value} {bs : Bytes} (h : SlB M w v bs) (hf : Below w.heap.size w w') : SlB M w' v bs := Row.below h hf
theorem SlB.mono {M M' : Nat → Prop} {w : World} {v : Value} {bs : Bytes} (h : SlB M w v bs) (hM : ∀ k, k < w.heap.size → M' k → M k) : SlB M' w v bs := Row.mono h hM
theorem SlB.any {M : Nat → Prop} {w : World} {v : Value} {bs : Bytes} (h : SlB M w v bs) : SlB (fun _ => False) w v bs := Row.mono h (fun _ _ h => h.elim)
theorem SlB.full {M : Nat → Prop} {w : World} {a : Option Addr} {n cap : Nat} {bs : Bytes} (h : SlB M w (.slice a n cap) bs) : SlB M w (.slice a n n) bs := by
  rcases h with ⟨⟨a0, h⟩, h0, h1⟩ | ⟨b, off, cap', h, hn, hc, hb, hm, hcell⟩
  · cases h; exact .inl ⟨⟨_, rfl⟩, h0, h1⟩
  · cases h; exact .inr ⟨b, off, _, rfl, Nat.le_refl _, by omega, hb, hm, hcell⟩
theorem SlB.of_owns {base e : Nat} {w : World} {v : Value} {bs : Bytes} (h : w.ownsRow base e 1 v bs.length (bs.map encB)) : SlB (fun k => k < base) w v bs := Row.of_owns h
theorem SlB.nil {M : Nat → Prop} {w : World} : SlB M w (.slice none 0 0) [] := .inl ⟨⟨_, rfl⟩, rfl, rfl⟩

/-- What 'b[:k]' and 'b[k:]' show. -/
theorem SlB.take {M : Nat → Prop} {w : World} {b off n cap : Nat} {bs : Bytes} (h : SlB M w (.slice (some ⟨b, off, none⟩) n cap) bs) (k : Nat) (hk : k ≤ n) : SlB M w (.slice (some ⟨b, off, none⟩) k cap) (bs.take k) := by
  rcases h with ⟨⟨a0, h⟩, h0, h1⟩ | ⟨b', off', cap', h, hn, hc, hb, hm, hcell⟩
  · cases h
    obtain rfl : k = 0 := by omega
    exact .inl ⟨⟨_, rfl⟩, rfl, rfl⟩
  · cases h
    have e : (bs.take k).length = k := by rw [List.length_take]; omega
    refine .inr ⟨b, off, cap, by rw [e], by rw [e]; omega, hc, hb, hm, fun j u hu => hcell j u ?_⟩
    rw [List.map_take, List.getElem?_take] at hu
    split at hu
    · exact hu
    · cases hu

theorem SlB.drop {M : Nat → Prop} {w : World} {b off n cap : Nat} {bs : Bytes} (h : SlB M w (.slice (some ⟨b, off, none⟩) n cap) bs) (k : Nat) (hk : k ≤ n) : SlB M w (.slice (some ⟨b, off + k, none⟩) (n - k) (cap - k)) (bs.drop k) := by
  rcases h with ⟨⟨a0, h⟩, h0, h1⟩ | ⟨b', off', cap', h, hn, hc, hb, hm, hcell⟩
  · cases h
    obtain rfl : k = 0 := by omega
    exact .inl ⟨⟨_, rfl⟩, h0, h1⟩
  · cases h
    have e : (bs.drop k).length = bs.length - k := by rw [List.length_drop]
    refine .inr ⟨b, off + k, cap - k, by rw [e], by rw [e]; omega, by omega, hb, hm, fun j u hu => ?_⟩
    rw [List.map_drop, List.getElem?_drop] at hu
    rw [Nat.add_assoc]
    exact hcell (k + j) u hu

theorem SlB.dropCap {M : Nat → Prop} {w : World} {b off n cap : Nat} {bs : Bytes} (h : SlB M w (.slice (some ⟨b, off, none⟩) n cap) bs) (k : Nat) (hk : k ≤ n) (hc : cap = k) : SlB M w (.slice (some ⟨b, off, none⟩) (n - k) (cap - k)) (bs.drop k) := by
  rcases h with ⟨⟨a0, h⟩, h0, h1⟩ | ⟨b', off', cap', h, hn, hc', hb, hm, hcell⟩
  · cases h
    obtain rfl : k = 0 := by omega
    exact .inl ⟨⟨_, rfl⟩, h0, h1⟩
  · cases h
    have e : bs.drop k = [] := List.drop_eq_nil_of_le (by omega)
    rw [e]
    exact .inr ⟨b, off, cap - k, by simp; omega, by simp, by omega, hb, hm, fun j u hu => by simp at hu⟩

/-- A slice of bytes with an element, opened. -/
theorem SlB.open {M : Nat → Prop} {w : World} {v : Value} {bs : Bytes} (h : SlB M w v bs) (hp : 0 < bs.length) :
    ∃ b off cap, v = .slice (some ⟨b, off, none⟩) bs.length cap ∧ bs.length ≤ cap ∧ cap ≤ 9223372036854775807 ∧ b < w.heap.size ∧ ¬ M b ∧ ∀ j (hj : j < bs.length), w.cell? ⟨b, off + j, none⟩ = some (.int .u8 (bs[j].toNat : Int)) := by
  rcases h with ⟨_, h, _⟩ | ⟨b, off, cap, rfl, hn, hc, hb, hm, hcell⟩
  · omega
  · exact ⟨b, off, cap, rfl, hn, hc, hb, hm, fun j hj => hcell j (encB bs[j]) (by simp [hj])⟩

/-- The bytes of sealed bytes. -/
def openB (bs : Bytes) : Option Bytes :=
  if bs.length < 4 then none else if le4 (CW.sum (bs.take (bs.length - 4))) = bs.drop (bs.length - 4) then some (bs.take (bs.length - 4)) else none

def SlI (M : Nat → Prop) (w : World) (v : Value) (l : List Int) : Prop := Row M w v l.length (l.map encI)

/-- A slice of slices of bytes. -/
def SlBB (M : Nat → Prop) (w : World) (v : Value) (rs : List Bytes) : Prop :=
  ∃ vs : List Value, vs.length = rs.length ∧ Row M w v rs.length vs ∧ ∀ (i : Nat) (u : Value) (bs : Bytes), vs[i]? = some u → rs[i]? = some bs → SlB M w u bs

theorem SlBB.fr {M M' F : Nat → Prop} {w w' : World} {v : Value} {rs : List Bytes} (h : SlBB M w v rs) (hf : Fr F w w') (hF : ∀ k, F k → M k) (hM : ∀ k, k < w.heap.size → M' k → M k) : SlBB M' w' v rs := by
  obtain ⟨vs, hl, hr, he⟩ := h
  exact ⟨vs, hl, hr.fr hf hF hM, fun i u bs h1 h2 => (he i u bs h1 h2).fr hf hF hM⟩
theorem SlBB.below {M : Nat → Prop} {w w' : World} {v : Value} {rs : List Bytes} (h : SlBB M w v rs) (hf : Below w.heap.size w w') : SlBB M w' v rs :=
  h.fr (F := fun _ => False) (Fr.of_below hf) (fun _ h => h.elim) (fun _ _ h => h)
theorem SlBB.mono {M M' : Nat → Prop} {w : World} {v : Value} {rs : List Bytes} (h : SlBB M w v rs) (hM : ∀ k, k < w.heap.size → M' k → M k) : SlBB M' w v rs :=
  h.fr (F := fun _ => False) (Fr.refl _ w) (fun _ h => h.elim) hM
theorem SlBB.any {M : Nat → Prop} {w : World} {v : Value} {rs : List Bytes} (h : SlBB M w v rs) : SlBB (fun _ => False) w v rs := h.mono (fun _ _ h => h.elim)
theorem SlBB.nil {M : Nat → Prop} {w : World} : SlBB M w (.slice none 0 0) [] := ⟨[], rfl, .inl ⟨⟨_, rfl⟩, rfl, rfl⟩, fun i u bs h => by simp at h⟩

/-- Opened: nil or not; the i-th cell and what it shows. -/
theorem SlBB.open {M : Nat → Prop} {w : World} {v : Value} {rs : List Bytes} (h : SlBB M w v rs) :
    ∃ a cap, v = .slice a rs.length cap ∧ rs.length ≤ cap ∧ cap ≤ 9223372036854775807 ∧ (a = none → rs.length = 0 ∧ cap = 0) ∧
      (0 < rs.length → ∃ b off, a = some ⟨b, off, none⟩ ∧ b < w.heap.size ∧ ¬ M b ∧ ∀ i (hi : i < rs.length), ∃ u, w.cell? ⟨b, off + i, none⟩ = some u ∧ SlB M w u rs[i]) := by
  obtain ⟨vs, hl, hr, he⟩ := h
  obtain ⟨a, cap, rfl, hn, hc, hnone, hcell⟩ := hr.open
  refine ⟨a, cap, rfl, hn, hc, hnone, fun hp => ?_⟩
  obtain ⟨b, off, rfl, hb, hm, hcell⟩ := hcell hp
  refine ⟨b, off, rfl, hb, hm, fun i hi => ?_⟩
  have hiv : i < vs.length := by omega
  exact ⟨vs[i], hcell i _ (List.getElem?_eq_getElem hiv), he i _ _ (List.getElem?_eq_getElem hiv) (List.getElem?_eq_getElem hi)⟩

theorem SlB.shape {M : Nat → Prop} {w : World} {v : Value} {bs : Bytes} (h : SlB M w v bs) : ∃ a cap, v = .slice a bs.length cap ∧ bs.length ≤ cap ∧ cap ≤ 9223372036854775807 := by
  obtain ⟨a, cap, h1, h2, h3, _⟩ := Row.open h
  exact ⟨a, cap, h1, h2, h3⟩

/-- A literal of two slices. -/
theorem SlBB.lit2 {base : Nat} {M : Nat → Prop} {w : World} {v v' : Value} {bs bs' : Bytes} {e : Nat} (hb : base ≤ w.heap.size) (h : SlB M w v bs) (h' : SlB M w v' bs') (hM : ∀ k, M k → k < base) : SlBB M (w.alloc (.cells #[v, v'] e)) (.slice (some ⟨w.heap.size, 0, none⟩) 2 2) [bs, bs'] := by
  have hb' : Below w.heap.size w (w.alloc (.cells #[v, v'] e)) := (Below.refl _ _).alloc (Nat.le_refl _) _
  refine ⟨[v, v'], rfl, (Row.lit (size := 1) hb (by decide) rfl rfl).mono (fun k _ hk => hM k hk), fun i u bs'' h1 h2 => ?_⟩
  match i, h1, h2 with
  | 0, h1, h2 =>
    simp at h1 h2
    subst h1 h2
    exact h.below hb'
  | 1, h1, h2 =>
    simp at h1 h2
    subst h1 h2
    exact h'.below hb'
  | i + 2, h1, _ => simp at h1

/-- A literal of one slice. -/
theorem SlBB.lit1 {base : Nat} {M : Nat → Prop} {w : World} {v : Value} {bs : Bytes} {e : Nat} (hb : base ≤ w.heap.size) (h : SlB M w v bs) (hM : ∀ k, M k → k < base) : SlBB M (w.alloc (.cells #[v] e)) (.slice (some ⟨w.heap.size, 0, none⟩) 1 1) [bs] := by
  have hb' : Below w.heap.size w (w.alloc (.cells #[v] e)) := (Below.refl _ _).alloc (Nat.le_refl _) _
  refine ⟨[v], rfl, (Row.lit (size := 1) hb (by decide) rfl rfl).mono (fun k _ hk => hM k hk), fun i u bs' h1 h2 => ?_⟩
  match i, h1, h2 with
  | 0, h1, h2 =>
    simp at h1 h2
    subst h1 h2
    exact h.below hb'
  | i + 1, h1, _ => simp at h1

end CW

namespace CW

/-- A string's value. -/
def stV (b : Bytes) : Go.Value := .string ⟨b.toArray⟩

/-- The lowest k digits of a number, as characters. -/
def low : Nat → Nat → Bytes
  | 0, _ => []
  | k + 1, n => UInt8.ofNat (48 + n / 10 ^ k % 10) :: low k n

def pre4 : Bytes := [108, 111, 103, 45]
/-- The name of a segment. -/
def nameB (n : Nat) : Bytes := pre4 ++ low 8 n

theorem low_length (k n : Nat) : (low k n).length = k := by
  induction k with
  | zero => rfl
  | succ k ih => simp [low, ih]

theorem low_snoc (k n : Nat) : low (k + 1) n = low k (n / 10) ++ [UInt8.ofNat (48 + n % 10)] := by
  induction k with
  | zero => simp [low]
  | succ k ih =>
    rw [low, ih]
    show _ = (UInt8.ofNat (48 + n / 10 / 10 ^ k % 10) :: low k (n / 10)) ++ _
    rw [Nat.div_div_eq_div_mul, show 10 * 10 ^ k = 10 ^ (k + 1) from (Nat.pow_succ' ..).symm]
    rfl

theorem low_zero (k : Nat) : low k 0 = List.replicate k 48 := by
  induction k with
  | zero => rfl
  | succ k ih =>
    rw [low, ih, List.replicate_succ]
    simp

/-- A number's digits are unique. -/
theorem low_inj (k : Nat) : ∀ n m, n < 10 ^ k → m < 10 ^ k → low k n = low k m → n = m := by
  induction k with
  | zero => intro n m h1 h2 _; simp at h1 h2; omega
  | succ k ih =>
    intro n m h1 h2 h
    rw [low_snoc, low_snoc] at h
    have hl := List.append_inj h (by rw [low_length, low_length])
    have h3 := ih (n / 10) (m / 10) (by rw [Nat.pow_succ] at h1; omega) (by rw [Nat.pow_succ] at h2; omega) hl.1
    have h4 := hl.2
    simp only [List.cons.injEq, and_true] at h4
    have h5 := congrArg UInt8.toNat h4
    simp only [UInt8.toNat_ofNat'] at h5
    omega

theorem nameB_length (n : Nat) : (nameB n).length = 12 := by simp [nameB, pre4, low_length]
theorem nameB_inj {n m : Nat} (hn : n ≤ 99999999) (hm : m ≤ 99999999) (h : nameB n = nameB m) : n = m :=
  low_inj 8 n m (by omega) (by omega) (List.append_cancel_left h)

def isDig (c : UInt8) : Bool := decide (48 ≤ c.toNat) && decide (c.toNat ≤ 57)
/-- What a row of digits says. -/
def valB (l : Bytes) : Nat := l.foldl (fun a c => 10 * a + (c.toNat - 48)) 0
/-- The number of a segment, from its name. -/
def numB (s : Bytes) : Option Nat := if s.length = 12 ∧ s.take 4 = pre4 ∧ (s.drop 4).all isDig = true ∧ 0 < valB (s.drop 4) then some (valB (s.drop 4)) else none

theorem valB_snoc (l : Bytes) (c : UInt8) : valB (l ++ [c]) = 10 * valB l + (c.toNat - 48) := by simp [valB]
theorem valB_lt (l : Bytes) (h : l.all isDig = true) : valB l < 10 ^ l.length := by
  suffices H : ∀ (l : Bytes) (a k : Nat), l.all isDig = true → a < 10 ^ k → l.foldl (fun a c => 10 * a + (c.toNat - 48)) a < 10 ^ (k + l.length) by
    have := H l 0 0 h (by decide)
    rw [Nat.zero_add] at this
    exact this
  intro l
  induction l with
  | nil => intro a k _ h; simpa using h
  | cons c l ih =>
    intro a k h ha
    simp only [List.all_cons, Bool.and_eq_true] at h
    have hd := h.1
    simp only [isDig, Bool.and_eq_true, decide_eq_true_eq] at hd
    have := ih (10 * a + (c.toNat - 48)) (k + 1) h.2 (by rw [Nat.pow_succ]; omega)
    rw [List.length_cons, show k + (l.length + 1) = k + 1 + l.length by omega]
    exact this

theorem low_valB (l : Bytes) (h : l.all isDig = true) : low l.length (valB l) = l := by
  suffices H : ∀ k, ∀ l : Bytes, l.length = k → l.all isDig = true → low k (valB l) = l from H _ l rfl h
  intro k
  induction k with
  | zero => intro l hl _; rw [List.length_eq_zero_iff.1 hl]; rfl
  | succ k ih =>
    intro l hl hd
    rcases List.eq_nil_or_concat l with rfl | ⟨l', c, rfl⟩
    · simp at hl
    · rw [List.concat_eq_append] at *
      simp only [List.all_append, Bool.and_eq_true, List.all_cons, List.all_nil, and_true] at hd
      have hc := hd.2
      simp only [isDig, Bool.and_eq_true, decide_eq_true_eq] at hc
      rw [valB_snoc, low_snoc, show (10 * valB l' + (c.toNat - 48)) / 10 = valB l' by omega, show (10 * valB l' + (c.toNat - 48)) % 10 = c.toNat - 48 by omega, ih l' (by simpa using hl) hd.1, show 48 + (c.toNat - 48) = c.toNat by omega]
      simp

/-- The number of a segment's name, by the name. -/
theorem numB_eq (s : Bytes) (hl : s.length = 12) (hd : (s.drop 4).all isDig = true) : numB s = if 1 ≤ valB (s.drop 4) ∧ nameB (valB (s.drop 4)) = s then some (valB (s.drop 4)) else none := by
  have h8 : (s.drop 4).length = 8 := by rw [List.length_drop]; omega
  have hlow := low_valB (s.drop 4) hd
  rw [h8] at hlow
  have hn : nameB (valB (s.drop 4)) = pre4 ++ s.drop 4 := by rw [nameB, hlow]
  have hiff : nameB (valB (s.drop 4)) = s ↔ s.take 4 = pre4 := by
    rw [hn]
    constructor
    · intro h; rw [← h]; rfl
    · intro h; rw [← h, List.take_append_drop]
  unfold numB
  simp only [hl, hd, hiff, true_and]
  by_cases h1 : s.take 4 = pre4 <;> by_cases h2 : 0 < valB (s.drop 4) <;> simp [h1, h2] <;> omega

theorem numB_nameB (n : Nat) (h1 : 1 ≤ n) (h2 : n ≤ 99999999) : numB (nameB n) = some n := by
  have hd : ∀ k, (low k n).all isDig = true := by
    intro k
    induction k with
    | zero => rfl
    | succ k ih =>
      rw [low, List.all_cons, ih, Bool.and_true]
      simp only [isDig, UInt8.toNat_ofNat', Bool.and_eq_true, decide_eq_true_eq]
      omega
  have hdr : (nameB n).drop 4 = low 8 n := rfl
  have hv : valB (low 8 n) = n := by
    refine low_inj 8 _ _ ?_ (by omega) ?_
    · have := valB_lt (low 8 n) (hd 8); rwa [low_length] at this
    · have := low_valB (low 8 n) (hd 8); rwa [low_length] at this
  rw [numB_eq _ (nameB_length n) (by rw [hdr]; exact hd 8), hdr, hv, if_pos ⟨h1, rfl⟩]

end CW

namespace CW

def alw : Bytes := [97, 98, 99, 100, 101, 102, 103, 104, 105, 106, 107, 108, 109, 110, 111, 112, 113, 114, 115, 116, 117, 118, 119, 120, 121, 122, 48, 49, 50, 51, 52, 53, 54, 55, 56, 57, 45, 46]
def okC (c : UInt8) : Bool := (decide (97 ≤ c.toNat) && decide (c.toNat ≤ 122)) || (decide (48 ≤ c.toNat) && decide (c.toNat ≤ 57)) || decide (c.toNat = 45) || decide (c.toNat = 46)
/-- Is it a name of a file? -/
def namedB (s : Bytes) : Bool := decide (1 ≤ s.length) && decide (s.length ≤ 100) && s.all okC

theorem alw_contains (c : UInt8) : alw.contains c = okC c := by
  have h : ((List.range 256).all fun n => alw.contains (UInt8.ofNat n) == okC (UInt8.ofNat n)) = true := by kernel_rfl
  have h2 := List.all_eq_true.1 h c.toNat (List.mem_range.2 c.toNat_lt)
  simpa using h2

theorem dropWhile_nil {p : UInt8 → Bool} (l : Bytes) : l.dropWhile p = [] ↔ ∀ c ∈ l, p c = true := by
  induction l with
  | nil => simp
  | cons c l ih =>
    rw [List.dropWhile_cons]
    by_cases h : p c = true
    · rw [if_pos h, ih]; simp [h]
    · rw [if_neg h]; simp [h]

theorem mem_takeWhile {p : UInt8 → Bool} (l : Bytes) (c : UInt8) (h : c ∈ l.takeWhile p) : p c = true := by
  induction l with
  | nil => simp at h
  | cons d l ih =>
    rw [List.takeWhile_cons] at h
    split at h
    · rename_i hd
      rcases List.mem_cons.1 h with rfl | h
      · exact hd
      · exact ih h
    · simp at h

theorem trimS_nil (s : Bytes) : (Go.Lib.trimS s alw = []) ↔ s.all okC = true := by
  have hf : (fun c => alw.contains c) = okC := funext alw_contains
  unfold Go.Lib.trimS Go.Lib.trimLeftS Go.Lib.trimRightS
  simp only [hf]
  rw [dropWhile_nil, List.all_eq_true]
  constructor
  · intro h c hc
    by_cases hk : okC c = true
    · exact hk
    · have hmem : c ∈ (s.reverse.dropWhile okC) := by
        have h1 : c ∈ s.reverse.takeWhile okC ++ s.reverse.dropWhile okC := by rw [List.takeWhile_append_dropWhile]; simpa using hc
        rcases List.mem_append.1 h1 with h2 | h2
        · exact absurd (mem_takeWhile _ c h2) hk
        · exact h2
      exact h c (by simpa using hmem)
  · intro h c hc
    have : c ∈ s.reverse.dropWhile okC := by simpa using hc
    exact h c (by simpa using (List.dropWhile_sublist _).subset this)

end CW

namespace CW
open Go

abbrev ltB (a b : Bytes) : Bool := bytesBefore a b
theorem bytesLess_eq : ∀ a b : Bytes, Op.bytesLess a b = ltB a b
  | [], [] => rfl
  | _ :: _, [] => rfl
  | [], _ :: _ => rfl
  | a :: x, b :: y => by
    show (decide (a < b) || (a == b && Op.bytesLess x y)) = (decide (a < b) || (a == b && bytesBefore x y))
    rw [bytesLess_eq x y]
theorem ltB_irrefl (a : Bytes) : ltB a a = false := WideAt.bytes_irrefl a
theorem ltB_trans {a b c : Bytes} (h : ltB a b = true) (k : ltB b c = true) : ltB a c = true := WideShapes.bytes_trans a b c h k
theorem ltB_total {a b : Bytes} (h : a ≠ b) : ltB a b = true ∨ ltB b a = true := WideAt.bytes_total a b h
theorem ltB_asymm {a b : Bytes} (h : ltB a b = true) : ltB b a = false := by
  cases k : ltB b a
  · rfl
  · have := ltB_trans h k; rw [ltB_irrefl] at this; cases this
theorem ltB_ne {a b : Bytes} (h : ltB a b = true) : a ≠ b := by
  rintro rfl; rw [ltB_irrefl] at h; cases h

section
variable {α β : Type} (key : α → Bytes)

def SortedK (l : List α) : Prop := l.Pairwise (fun p q => ltB (key p) (key q) = true)
def withoutK (l : List α) (n : Bytes) : List α := l.filter (fun p => !(key p == n))
def insK (l : List α) (x : α) : List α := l.takeWhile (fun p => ltB (key p) (key x)) ++ x :: l.dropWhile (fun p => ltB (key p) (key x))
def putK (l : List α) (x : α) : List α := insK key (withoutK key l (key x)) x
def findK (l : List α) (n : Bytes) : Option Nat := l.findIdx? (fun p => key p == n)
def hasK (l : List α) (n : Bytes) : Bool := l.any (fun p => key p == n)

variable {key}

theorem insK_len (l : List α) (x : α) : (insK key l x).length = l.length + 1 := by
  have h : (l.takeWhile (fun p => ltB (key p) (key x)) ++ l.dropWhile (fun p => ltB (key p) (key x))).length = l.length := congrArg List.length List.takeWhile_append_dropWhile
  rw [List.length_append] at h
  rw [insK, List.length_append, List.length_cons]
  omega

theorem mem_insK {l : List α} {x y : α} : y ∈ insK key l x ↔ y = x ∨ y ∈ l := by
  unfold insK
  rw [List.mem_append, List.mem_cons]
  conv => rhs; rw [← List.takeWhile_append_dropWhile (p := fun p => ltB (key p) (key x)) (l := l), List.mem_append]
  constructor
  · rintro (h | h | h)
    · exact .inr (.inl h)
    · exact .inl h
    · exact .inr (.inr h)
  · rintro (h | h | h)
    · exact .inr (.inl h)
    · exact .inl h
    · exact .inr (.inr h)

theorem insK_sorted {l : List α} {x : α} (h : SortedK key l) (hne : ∀ p ∈ l, key p ≠ key x) : SortedK key (insK key l x) := by
  unfold insK SortedK at *
  induction l with
  | nil => simp
  | cons p l ih =>
    obtain ⟨h1, h2⟩ := List.pairwise_cons.1 h
    by_cases hp : ltB (key p) (key x) = true
    · rw [List.takeWhile_cons, if_pos hp, List.dropWhile_cons, if_pos hp, List.cons_append, List.pairwise_cons]
      refine ⟨fun q hq => ?_, ih h2 (fun q hq => hne q (by simp [hq]))⟩
      have hq' : q ∈ insK key l x := hq
      rcases mem_insK.1 hq' with rfl | hq'
      · exact hp
      · exact h1 q hq'
    · rw [List.takeWhile_cons, if_neg hp, List.dropWhile_cons, if_neg hp, List.nil_append, List.pairwise_cons]
      have hx : ltB (key x) (key p) = true := by
        rcases ltB_total (hne p (by simp)) with h' | h'
        · exact absurd h' hp
        · exact h'
      refine ⟨fun q hq => ?_, h⟩
      rcases List.mem_cons.1 hq with rfl | hq
      · exact hx
      · exact ltB_trans hx (h1 q hq)

theorem withoutK_sorted {l : List α} (h : SortedK key l) (n : Bytes) : SortedK key (withoutK key l n) := List.Pairwise.filter _ h
theorem withoutK_ne {l : List α} {n : Bytes} : ∀ p ∈ withoutK key l n, key p ≠ n := fun p hp => by simpa using (List.mem_filter.1 hp).2
theorem putK_sorted {l : List α} (h : SortedK key l) (x : α) : SortedK key (putK key l x) := insK_sorted (withoutK_sorted h _) withoutK_ne
theorem withoutK_of_not {l : List α} {n : Bytes} (h : ∀ p ∈ l, key p ≠ n) : withoutK key l n = l := List.filter_eq_self.2 (fun p hp => by simpa using h p hp)
theorem mem_putK {l : List α} {x y : α} : y ∈ putK key l x ↔ y = x ∨ (y ∈ l ∧ key y ≠ key x) := by
  rw [putK, mem_insK, withoutK, List.mem_filter]; simp
theorem withoutK_len (l : List α) (n : Bytes) : (withoutK key l n).length ≤ l.length := List.length_filter_le _ _
theorem putK_len (l : List α) (x : α) : (putK key l x).length ≤ l.length + 1 := by
  rw [putK, insK_len]; have := withoutK_len (key := key) l (key x); omega

theorem takeWhile_all {p : α → Bool} {l : List α} (h : ∀ x ∈ l, p x = true) : l.takeWhile p = l ∧ l.dropWhile p = [] := by
  induction l with
  | nil => exact ⟨rfl, rfl⟩
  | cons x l ih =>
    obtain ⟨i1, i2⟩ := ih (fun y hy => h y (by simp [hy]))
    rw [List.takeWhile_cons, List.dropWhile_cons, h x (by simp)]
    simp [i1, i2]
theorem takeWhile_none {p : α → Bool} {l : List α} (h : ∀ x ∈ l, p x = false) : l.takeWhile p = [] ∧ l.dropWhile p = l := by
  cases l with
  | nil => exact ⟨rfl, rfl⟩
  | cons x l => rw [List.takeWhile_cons, List.dropWhile_cons, h x (by simp)]; simp

/-- Another file of the same name goes into the same place. -/
theorem putK_mid {l r : List α} {y x : α} (h : SortedK key (l ++ y :: r)) (e : key x = key y) : putK key (l ++ y :: r) x = l ++ x :: r := by
  obtain ⟨h1, h2, h3⟩ := List.pairwise_append.1 h
  obtain ⟨h4, h5⟩ := List.pairwise_cons.1 h2
  have w1 : withoutK key l (key x) = l := withoutK_of_not (fun p hp => by rw [e]; exact ltB_ne (h3 p hp y (by simp)))
  have w2 : withoutK key r (key x) = r := withoutK_of_not (fun p hp => by rw [e]; exact (ltB_ne (h4 p hp)).symm)
  have w : withoutK key (l ++ y :: r) (key x) = l ++ r := by
    rw [withoutK, List.filter_append, List.filter_cons]
    simp only [e, beq_self_eq_true, Bool.not_true, Bool.false_eq_true, if_false]
    rw [← e]
    rw [show List.filter (fun p => !(key p == key x)) l = l from w1, show List.filter (fun p => !(key p == key x)) r = r from w2]
  have t1 := takeWhile_all (p := fun p => ltB (key p) (key x)) (l := l) (fun p hp => by rw [e]; exact h3 p hp y (by simp))
  have t2 := takeWhile_none (p := fun p => ltB (key p) (key x)) (l := r) (fun p hp => by rw [e]; exact ltB_asymm (h4 p hp))
  have ha : ∀ q ∈ l, (fun p => ltB (key p) (key x)) q = true := fun p hp => by rw [e]; exact h3 p hp y (by simp)
  rw [putK, w, insK, List.takeWhile_append_of_pos ha, List.dropWhile_append_of_pos ha, t2.1, t2.2, List.append_nil]

theorem putK_set {l : List α} {i : Nat} {x : α} (h : SortedK key l) (hi : i < l.length) (e : key x = key l[i]) : putK key l x = l.set i x := by
  have hl : l = l.take i ++ l[i] :: l.drop (i + 1) := by
    rw [List.getElem_cons_drop, List.take_append_drop]
  have h2 : l.set i x = l.take i ++ x :: l.drop (i + 1) := by rw [List.set_eq_take_append_cons_drop, if_pos hi]
  rw [h2]
  conv => lhs; rw [hl]
  exact putK_mid (hl ▸ h) e

theorem findK_some {l : List α} {n : Bytes} {i : Nat} (h : findK key l n = some i) : ∃ hi : i < l.length, key l[i] = n := by
  obtain ⟨hi, h1, _⟩ := List.findIdx?_eq_some_iff_getElem.1 h
  exact ⟨hi, by simpa using h1⟩
theorem findK_none {l : List α} {n : Bytes} : findK key l n = none ↔ ∀ p ∈ l, key p ≠ n := by
  rw [findK, List.findIdx?_eq_none_iff]; simp
theorem findK_map {γ : Type} {key' : γ → Bytes} (f : α → γ) (hf : ∀ p, key' (f p) = key p) (l : List α) (n : Bytes) : findK key' (l.map f) n = findK key l n := by
  rw [findK, findK, List.findIdx?_map]; congr 1; funext p; simp [hf]
theorem withoutK_map {γ : Type} {key' : γ → Bytes} (f : α → γ) (hf : ∀ p, key' (f p) = key p) (l : List α) (n : Bytes) : withoutK key' (l.map f) n = (withoutK key l n).map f := by
  rw [withoutK, withoutK, List.filter_map]; congr 2; funext p; simp [hf]
theorem insK_map {γ : Type} {key' : γ → Bytes} (f : α → γ) (hf : ∀ p, key' (f p) = key p) (l : List α) (x : α) : insK key' (l.map f) (f x) = (insK key l x).map f := by
  rw [insK, insK, List.takeWhile_map, List.dropWhile_map, List.map_append, List.map_cons]
  simp only [Function.comp_def, hf]
theorem putK_map {γ : Type} {key' : γ → Bytes} (f : α → γ) (hf : ∀ p, key' (f p) = key p) (l : List α) (x : α) : putK key' (l.map f) (f x) = (putK key l x).map f := by
  rw [putK, putK, hf, withoutK_map f hf, insK_map f hf]

/-- The map's own order. -/
theorem insert_insK {H : Type} (d : α → DataW H) (l : List α) (x : α) (hne : ∀ p ∈ l, key p ≠ key x) :
    DataW.insert (.string (key x), d x) (l.map fun p => (Lit.string (key p), d p)) = (insK key l x).map fun p => (Lit.string (key p), d p) := by
  induction l with
  | nil => rfl
  | cons p l ih =>
    rw [List.map_cons, DataW.insert]
    have hp := hne p (by simp)
    by_cases h : ltB (key p) (key x) = true
    · have h2 := ltB_asymm h
      have h3 : (Lit.string (key x)).before (Lit.string (key p)) = false := h2
      rw [h3]
      simp only [Bool.false_eq_true, if_false]
      rw [ih (fun q hq => hne q (by simp [hq]))]
      unfold insK
      rw [List.takeWhile_cons, if_pos h, List.dropWhile_cons, if_pos h]
      rfl
    · have h2 : ltB (key x) (key p) = true := by
        rcases ltB_total hp with h' | h'
        · exact absurd h' h
        · exact h'
      have h3 : (Lit.string (key x)).before (Lit.string (key p)) = true := h2
      rw [h3]
      simp only [if_true]
      unfold insK
      rw [List.takeWhile_cons, if_neg h, List.dropWhile_cons, if_neg h]
      rfl

def mapK {H : Type} (key : α → Bytes) (d : α → DataW H) (l : List α) : DataW H := .map (l.map fun p => (Lit.string (key p), d p))

theorem sameKey_string (a b : Bytes) : (Lit.string a).sameKey (Lit.string b) = (a == b) := rfl

theorem mapK_put {H : Type} (d : α → DataW H) (l : List α) (x : α) : (mapK key d l).put (.string (key x)) (d x) = mapK key d (putK key l x) := by
  unfold mapK DataW.put putK
  have e : (l.map fun p => (Lit.string (key p), d p)).filter (fun p => !p.1.sameKey (Lit.string (key x))) = (withoutK key l (key x)).map fun p => (Lit.string (key p), d p) := by
    rw [List.filter_map]; rfl
  simp only [e]
  rw [insert_insK d _ _ withoutK_ne]

theorem mapK_del {H : Type} (d : α → DataW H) (l : List α) (n : Bytes) : (mapK key d l).del (.string n) = mapK key d (withoutK key l n) := by
  unfold mapK DataW.del
  have e : (l.map fun p => (Lit.string (key p), d p)).filter (fun p => !p.1.sameKey (Lit.string n)) = (withoutK key l n).map fun p => (Lit.string (key p), d p) := by
    rw [List.filter_map]; rfl
  simp only [e]

theorem mapK_has {H : Type} (d : α → DataW H) (l : List α) (n : Bytes) : Maps.has (mapK key d l) (.string n) = (findK key l n).isSome := by
  rw [mapK, Maps.has_eq, List.any_map, findK, List.findIdx?_isSome]; rfl

theorem mapK_at {H : Type} (d : α → DataW H) (l : List α) (n : Bytes) (z : DataW H) : (mapK key d l).atKey (.string n) z = match findK key l n with | some i => (match l[i]? with | some p => d p | none => z) | none => z := by
  unfold mapK DataW.atKey
  simp only [List.find?_map]
  have e : ((fun p : Lit × DataW H => p.1.sameKey (Lit.string n)) ∘ fun p => (Lit.string (key p), d p)) = fun p => key p == n := rfl
  rw [e]
  rcases h : findK key l n with _ | i
  · have h2 : l.find? (fun p => key p == n) = none := by rw [List.find?_eq_none]; intro p hp; simpa using findK_none.1 h p hp
    rw [h2]; rfl
  · have h2 : l.find? (fun p => key p == n) = l[i]? := by
      rw [List.find?_eq_bind_findIdx?_getElem?]
      unfold findK at h
      rw [h]; rfl
    obtain ⟨hi, _⟩ := findK_some h
    rw [h2, List.getElem?_eq_getElem hi]
    simp only [List.getElem?_eq_getElem hi, Option.map_some]
theorem mapK_size {H : Type} (d : α → DataW H) (l : List α) : Maps.size (mapK key d l) = l.length := by simp [mapK, Maps.size]

end

structure FileA where
  name : Bytes
  b : Bytes
  dur : Nat
structure DiskA where
  room : Int
  files : List FileA
  plan : Int
  down : Bool

def usedF (fs : List FileA) : Nat := (fs.map (·.b.length)).sum
abbrev putF (fs : List FileA) (f : FileA) : List FileA := putK FileA.name fs f
abbrev findF (fs : List FileA) (n : Bytes) : Option Nat := findK FileA.name fs n

end CW

namespace CW

inductive OpA where
  | create
  | append (b : Bytes)
  | sync
  | rename (new : Bytes)
  | remove

/-- A change, where the disk is not down and no failure is due. -/
def bodyA (D : DiskA) (o : OpA) (n : Bytes) : DiskA × Int :=
  if namedB n = false then (D, 6) else
  match o, (findF D.files n).bind (fun i => D.files[i]?) with
  | .create, none => ({ D with files := putF D.files ⟨n, [], 0⟩ }, 0)
  | .create, some _ => (D, 7)
  | _, none => (D, 6)
  | .append b, some f => if D.room < ((usedF D.files + b.length : Nat) : Int) then (D, 5) else ({ D with files := putF D.files ⟨f.name, f.b ++ b, f.dur⟩ }, 0)
  | .sync, some f => ({ D with files := putF D.files ⟨f.name, f.b, f.b.length⟩ }, 0)
  | .rename new, some f => if namedB new = false then (D, 6) else ({ D with files := putF (withoutK FileA.name D.files n) ⟨new, f.b, f.dur⟩ }, 0)
  | .remove, some _ => ({ D with files := withoutK FileA.name D.files n }, 0)

def planA (p : Int) : Int := max (p - 1) 0
def doA (D : DiskA) (o : OpA) (n : Bytes) : DiskA × Int :=
  if D.down = true then (D, 10) else if D.plan = 1 then ({ D with plan := 0, down := true }, 10) else bodyA { D with plan := planA D.plan } o n

end CW

namespace CW

def frameB (r : Bytes) : Bytes := sealB (le4 r.length ++ r)
def makeB (r : Bytes) : Option Bytes := if r.length ≤ 1048576 then some (frameB r) else none
/-- The number that the first four bytes are. -/
def num4 (bs : Bytes) : Nat := (bs.getD 0 0).toNat + 256 * (bs.getD 1 0).toNat + 65536 * (bs.getD 2 0).toNat + 16777216 * (bs.getD 3 0).toNat
/-- The record that some bytes begin with, and the bytes of its frame. -/
def nextB (bs : Bytes) : Option (Bytes × Nat) :=
  if bs.length < 8 then none else if 1048576 < num4 bs ∨ bs.length < num4 bs + 8 then none else (openB (bs.take (num4 bs + 8))).map (fun x => (x.drop 4, num4 bs + 8))

theorem le4_length (x : Nat) : (le4 x).length = 4 := rfl
theorem sealB_length (bs : Bytes) : (sealB bs).length = bs.length + 4 := by unfold sealB; rw [List.length_append, le4_length]
theorem frameB_length (r : Bytes) : (frameB r).length = r.length + 8 := by unfold frameB; rw [sealB_length, List.length_append, le4_length]; omega
theorem openB_length {bs x : Bytes} (h : openB bs = some x) : x.length + 4 = bs.length := by
  unfold openB at h
  split at h
  · cases h
  · split at h
    · cases h; rw [List.length_take]; omega
    · cases h
theorem nextB_pos {bs x : Bytes} {n : Nat} (h : nextB bs = some (x, n)) : 8 ≤ n ∧ n ≤ bs.length ∧ x.length + 8 = n := by
  unfold nextB at h
  split at h
  · cases h
  · split at h
    · cases h
    · rename_i h1 h2
      rw [Option.map_eq_some_iff] at h
      obtain ⟨y, hy, e⟩ := h
      cases e
      have := openB_length hy
      rw [List.length_take] at this
      rw [List.length_drop]
      omega

/-- The records at the beginning of some bytes, and the bytes of their frames. -/
def splitB (bs : Bytes) : List Bytes × Nat :=
  match h : nextB bs with
  | none => ([], 0)
  | some (x, n) => (x :: (splitB (bs.drop n)).1, n + (splitB (bs.drop n)).2)
termination_by bs.length
decreasing_by all_goals (have := nextB_pos h; rw [List.length_drop]; omega)

/-- The records at the beginning of some bytes, each with the place where its frame ends. -/
def endsB (at_ : Nat) (bs : Bytes) : List (Bytes × Nat) :=
  match h : nextB bs with
  | none => []
  | some (x, n) => (x, at_ + n) :: endsB (at_ + n) (bs.drop n)
termination_by bs.length
decreasing_by have := nextB_pos h; rw [List.length_drop]; omega

theorem endsB_none {at_ : Nat} {bs : Bytes} (h : nextB bs = none) : endsB at_ bs = [] := by
  rw [endsB]; split
  · rfl
  · rename_i h'; rw [h] at h'; cases h'
theorem endsB_some {at_ : Nat} {bs x : Bytes} {n : Nat} (h : nextB bs = some (x, n)) : endsB at_ bs = (x, at_ + n) :: endsB (at_ + n) (bs.drop n) := by
  rw [endsB]; split
  · rename_i h'; rw [h] at h'; cases h'
  · rename_i h'; rw [h] at h'; cases h'; rfl
theorem splitB_none {bs : Bytes} (h : nextB bs = none) : splitB bs = ([], 0) := by
  rw [splitB]; split
  · rfl
  · rename_i h'; rw [h] at h'; cases h'
theorem splitB_some {bs x : Bytes} {n : Nat} (h : nextB bs = some (x, n)) : splitB bs = (x :: (splitB (bs.drop n)).1, n + (splitB (bs.drop n)).2) := by
  rw [splitB]; split
  · rename_i h'; rw [h] at h'; cases h'
  · rename_i h'; rw [h] at h'; cases h'; rfl

theorem endsB_fst (k : Nat) : ∀ (bs : Bytes) (at_ : Nat), bs.length ≤ k → (endsB at_ bs).map (·.1) = (splitB bs).1 := by
  induction k with
  | zero =>
    intro bs at_ h
    have hn : nextB bs = none := by
      cases hn : nextB bs with
      | none => rfl
      | some p => obtain ⟨x, n⟩ := p; have := nextB_pos hn; omega
    rw [endsB_none hn, splitB_none hn]; rfl
  | succ k ih =>
    intro bs at_ h
    cases hn : nextB bs with
    | none => rw [endsB_none hn, splitB_none hn]; rfl
    | some p =>
      obtain ⟨x, n⟩ := p
      have := nextB_pos hn
      rw [endsB_some hn, splitB_some hn, List.map_cons, ih _ _ (by rw [List.length_drop]; omega)]

/-- The place behind the last frame. -/
def lastEnd (d : Nat) : List (Bytes × Nat) → Nat
  | [] => d
  | p :: r => lastEnd p.2 r

theorem lastEnd_snoc (d : Nat) (l : List (Bytes × Nat)) (p : Bytes × Nat) : lastEnd d (l ++ [p]) = p.2 := by
  induction l generalizing d with
  | nil => rfl
  | cons q r ih => exact ih q.2

theorem endsB_last (k : Nat) : ∀ (bs : Bytes) (at_ : Nat), bs.length ≤ k → lastEnd at_ (endsB at_ bs) = at_ + (splitB bs).2 := by
  induction k with
  | zero =>
    intro bs at_ h
    have hn : nextB bs = none := by
      cases hn : nextB bs with
      | none => rfl
      | some p => obtain ⟨x, n⟩ := p; have := nextB_pos hn; omega
    rw [endsB_none hn, splitB_none hn]; rfl
  | succ k ih =>
    intro bs at_ h
    cases hn : nextB bs with
    | none => rw [endsB_none hn, splitB_none hn]; rfl
    | some p =>
      obtain ⟨x, n⟩ := p
      have := nextB_pos hn
      rw [endsB_some hn, splitB_some hn]
      show lastEnd (at_ + n) _ = _
      rw [ih _ _ (by rw [List.length_drop]; omega)]
      show _ = at_ + (n + _)
      omega

theorem splitB_le (k : Nat) : ∀ (bs : Bytes), bs.length ≤ k → (splitB bs).2 ≤ bs.length := by
  induction k with
  | zero =>
    intro bs h
    have hn : nextB bs = none := by
      cases hn : nextB bs with
      | none => rfl
      | some p => obtain ⟨x, n⟩ := p; have := nextB_pos hn; omega
    rw [splitB_none hn]; exact Nat.zero_le _
  | succ k ih =>
    intro bs h
    cases hn : nextB bs with
    | none => rw [splitB_none hn]; exact Nat.zero_le _
    | some p =>
      obtain ⟨x, n⟩ := p
      have := nextB_pos hn
      rw [splitB_some hn]
      have := ih (bs.drop n) (by rw [List.length_drop]; omega)
      rw [List.length_drop] at this
      show n + _ ≤ _
      omega

theorem splitB_count (k : Nat) : ∀ (bs : Bytes), bs.length ≤ k → (splitB bs).1.length * 8 ≤ bs.length := by
  induction k with
  | zero =>
    intro bs h
    have hn : nextB bs = none := by
      cases hn : nextB bs with
      | none => rfl
      | some p => obtain ⟨x, n⟩ := p; have := nextB_pos hn; omega
    rw [splitB_none hn]; exact Nat.zero_le _
  | succ k ih =>
    intro bs h
    cases hn : nextB bs with
    | none => rw [splitB_none hn]; exact Nat.zero_le _
    | some p =>
      obtain ⟨x, n⟩ := p
      have := nextB_pos hn
      rw [splitB_some hn]
      have := ih (bs.drop n) (by rw [List.length_drop]; omega)
      rw [List.length_drop] at this
      simp only [List.length_cons]
      omega

theorem endsB_count (bs : Bytes) (at_ : Nat) : (endsB at_ bs).length * 8 ≤ bs.length := by
  have h1 := congrArg List.length (endsB_fst bs.length bs at_ (Nat.le_refl _))
  rw [List.length_map] at h1
  rw [h1]
  exact splitB_count bs.length bs (Nat.le_refl _)

end CW

namespace CW

structure LogA where
  D : DiskA
  most : Int
  n : Nat
  size : Nat
  waiting : Nat

/-- On to the next segment. -/
def rotA (L : LogA) : LogA × Int :=
  let r := doA L.D .sync (nameB L.n)
  if r.2 ≠ 0 then ({ L with D := r.1 }, r.2) else
  let s := doA r.1 .create (nameB (L.n + 1))
  if s.2 ≠ 0 then ({ L with D := s.1 }, s.2) else (⟨s.1, L.most, L.n + 1, 0, 0⟩, 0)

/-- The frame's bytes, laid behind. -/
def appA (L : LogA) (b : Bytes) : LogA × Int :=
  let r := doA L.D (.append b) (nameB L.n)
  if r.2 ≠ 0 then ({ L with D := r.1 }, r.2) else (⟨r.1, L.most, L.n, L.size + b.length, L.waiting + 1⟩, 0)

def putA (L : LogA) (x : Bytes) : LogA × Int :=
  if x.length = 0 then (L, 2) else
  match makeB x with
  | none => (L, 4)
  | some b => if L.most < (b.length : Int) then (L, 4) else
    if 0 < L.size ∧ L.most < (L.size : Int) + (b.length : Int) then
      let r := rotA L
      if r.2 ≠ 0 then r else appA r.1 b
    else appA L b

end CW

namespace CW
open Go

theorem num4_le4 (n : Nat) (h : n < 4294967296) (t : Bytes) : num4 (le4 n ++ t) = n := by
  show (UInt8.ofNat n).toNat + 256 * (UInt8.ofNat (n / 256)).toNat + 65536 * (UInt8.ofNat (n / 65536)).toNat + 16777216 * (UInt8.ofNat (n / 16777216)).toNat = n
  simp only [UInt8.toNat_ofNat']
  omega

theorem openB_sealB (b : Bytes) : openB (sealB b) = some b := by
  unfold openB
  have h : (sealB b).length = b.length + 4 := sealB_length b
  have ht : (sealB b).take ((sealB b).length - 4) = b := by
    rw [h, Nat.add_sub_cancel]
    unfold sealB
    exact List.take_left
  have hd : (sealB b).drop ((sealB b).length - 4) = le4 (CW.sum b) := by
    rw [h, Nat.add_sub_cancel]
    unfold sealB
    exact List.drop_left
  rw [ht, hd, if_neg (by omega), if_pos rfl]

theorem nextB_frame (r t : Bytes) (h : r.length ≤ 1048576) : nextB (frameB r ++ t) = some (r, r.length + 8) := by
  have hl : (frameB r ++ t).length = r.length + 8 + t.length := by rw [List.length_append, frameB_length]
  have hn : num4 (frameB r ++ t) = r.length := by
    have e : frameB r ++ t = le4 r.length ++ (r ++ le4 (CW.sum (le4 r.length ++ r)) ++ t) := by simp [frameB, sealB]
    rw [e]
    exact num4_le4 _ (by omega) _
  have ht : (frameB r ++ t).take (r.length + 8) = frameB r := by
    rw [← frameB_length r]
    exact List.take_left
  unfold nextB
  rw [hn, hl, ht, if_neg (by omega), if_neg (by omega)]
  unfold frameB
  rw [openB_sealB]
  rfl

theorem nextB_short (b : Bytes) (h : b.length < 8) : nextB b = none := by
  unfold nextB
  rw [if_pos h]

/-- The frames of some records. -/
def framesB (rs : List Bytes) : Bytes := rs.flatMap frameB
theorem framesB_append (a b : List Bytes) : framesB (a ++ b) = framesB a ++ framesB b := by simp [framesB]
theorem framesB_one (a : Bytes) : framesB [a] = frameB a := by simp [framesB]
theorem framesB_cons (a : Bytes) (l : List Bytes) : framesB (a :: l) = frameB a ++ framesB l := by simp [framesB]
theorem framesB_len (rs : List Bytes) : (framesB rs).length = (rs.map (fun r => r.length + 8)).sum := by
  induction rs with
  | nil => rfl
  | cons r l ih => rw [framesB_cons, List.length_append, frameB_length, ih]; simp

theorem splitB_frames (rs : List Bytes) (h : ∀ r ∈ rs, r.length ≤ 1048576) : splitB (framesB rs) = (rs, (framesB rs).length) := by
  induction rs with
  | nil => rw [splitB_none (nextB_short _ (by decide))]; rfl
  | cons r l ih =>
    rw [framesB_cons, splitB_some (nextB_frame r (framesB l) (h r (by simp)))]
    have hd : (frameB r ++ framesB l).drop (r.length + 8) = framesB l := by rw [← frameB_length r]; exact List.drop_left
    rw [hd, ih (fun q hq => h q (by simp [hq])), List.length_append, frameB_length]

/-- Frames, and bytes behind them that are no frame. -/
theorem splitB_frames_tail (rs : List Bytes) (t : Bytes) (h : ∀ r ∈ rs, r.length ≤ 1048576) (ht : nextB t = none) : splitB (framesB rs ++ t) = (rs, (framesB rs).length) := by
  induction rs with
  | nil => show splitB t = _; rw [splitB_none ht]; rfl
  | cons r l ih =>
    rw [framesB_cons, List.append_assoc, splitB_some (nextB_frame r (framesB l ++ t) (h r (by simp)))]
    have hd : (frameB r ++ (framesB l ++ t)).drop (r.length + 8) = framesB l ++ t := by rw [← frameB_length r]; exact List.drop_left
    rw [hd, ih (fun q hq => h q (by simp [hq])), List.length_append, frameB_length]

theorem before_append (p a b : Bytes) : bytesBefore (p ++ a) (p ++ b) = bytesBefore a b := by
  induction p with
  | nil => rfl
  | cons c p ih =>
    show (decide (c < c) || (c == c && bytesBefore (p ++ a) (p ++ b))) = _
    rw [ih]
    have : ¬ c < c := UInt8.lt_irrefl c
    simp [this]

theorem low_lt (k : Nat) : ∀ n m, n % 10 ^ k < m % 10 ^ k → bytesBefore (low k n) (low k m) = true := by
  induction k with
  | zero => intro n m h; simp [Nat.mod_one] at h
  | succ k ih =>
    intro n m h
    have hn : n % 10 ^ (k + 1) = n % 10 ^ k + 10 ^ k * (n / 10 ^ k % 10) := by rw [Nat.pow_succ]; exact Nat.mod_mul
    have hm : m % 10 ^ (k + 1) = m % 10 ^ k + 10 ^ k * (m / 10 ^ k % 10) := by rw [Nat.pow_succ]; exact Nat.mod_mul
    rw [hn, hm] at h
    have hp : 0 < 10 ^ k := Nat.pow_pos (by decide)
    have h1 : n % 10 ^ k < 10 ^ k := Nat.mod_lt _ hp
    have h2 : m % 10 ^ k < 10 ^ k := Nat.mod_lt _ hp
    have ha : n / 10 ^ k % 10 < 10 := Nat.mod_lt _ (by decide)
    have hb : m / 10 ^ k % 10 < 10 := Nat.mod_lt _ (by decide)
    show (decide (UInt8.ofNat (48 + n / 10 ^ k % 10) < UInt8.ofNat (48 + m / 10 ^ k % 10)) || (UInt8.ofNat (48 + n / 10 ^ k % 10) == UInt8.ofNat (48 + m / 10 ^ k % 10) && bytesBefore (low k n) (low k m))) = true
    have ih1 := ih n m
    generalize n / 10 ^ k % 10 = a at *
    generalize m / 10 ^ k % 10 = b at *
    generalize 10 ^ k = p at *
    rcases Nat.lt_trichotomy a b with hab | hab | hab
    · have : UInt8.ofNat (48 + a) < UInt8.ofNat (48 + b) := by
        rw [UInt8.lt_iff_toNat_lt, UInt8.toNat_ofNat', UInt8.toNat_ofNat']
        omega
      rw [decide_eq_true this]
      rfl
    · subst hab
      have h3 := ih1 (by omega)
      rw [h3, Bool.and_true, beq_self_eq_true, Bool.or_true]
    · exfalso
      have : p * (b + 1) ≤ p * a := Nat.mul_le_mul_left p hab
      rw [Nat.mul_succ] at this
      omega

theorem nameB_lt {n m : Nat} (h : n < m) (hm : m ≤ 99999999) : ltB (nameB n) (nameB m) = true := by
  show bytesBefore (pre4 ++ low 8 n) (pre4 ++ low 8 m) = true
  rw [before_append]
  refine low_lt 8 n m ?_
  rw [Nat.mod_eq_of_lt (by omega), Nat.mod_eq_of_lt (by omega)]
  exact h

theorem numB_some {s : Bytes} {n : Nat} (h : numB s = some n) : 1 ≤ n ∧ n ≤ 99999999 ∧ s = nameB n := by
  have h' := h
  unfold numB at h'
  split at h'
  · rename_i hc
    obtain ⟨hl, hp, hd, hv⟩ := hc
    have hb := valB_lt (s.drop 4) hd
    have h8 : (s.drop 4).length = 8 := by rw [List.length_drop]; omega
    rw [h8] at hb
    have he := numB_eq s hl hd
    rw [h] at he
    split at he
    · rename_i hc2
      cases he
      exact ⟨hc2.1, by omega, hc2.2.symm⟩
    · cases he
  · cases h'

theorem numB_lt {s t : Bytes} {n m : Nat} (hs : numB s = some n) (ht : numB t = some m) (h : ltB s t = true) : n < m := by
  obtain ⟨h1, h2, rfl⟩ := numB_some hs
  obtain ⟨h3, h4, rfl⟩ := numB_some ht
  rcases Nat.lt_trichotomy n m with k | k | k
  · exact k
  · subst k; rw [ltB_irrefl] at h; cases h
  · rw [ltB_asymm (nameB_lt k h2)] at h; cases h

theorem nameB_named (n : Nat) : namedB (nameB n) = true := by
  have hd : ∀ k, (low k n).all okC = true := by
    intro k
    induction k with
    | zero => rfl
    | succ k ih =>
      rw [low, List.all_cons, ih, Bool.and_true]
      unfold okC
      simp only [UInt8.toNat_ofNat', Bool.or_eq_true, Bool.and_eq_true, decide_eq_true_eq]
      omega
  unfold namedB
  rw [nameB_length]
  show (true && (pre4 ++ low 8 n).all okC) = true
  rw [List.all_append, hd 8]
  rfl

end CW

namespace CW
open Go Go.RowKit

/-- 'string(b)'. -/
theorem run_str_of {P : Program} {src dst e : TypeId} (hs : P.underlying src = some (.slice e)) (he : P.underlying e = some (.int .u8)) (hd : P.underlying dst = some .string)
    {M : Nat → Prop} {w : World} {v : Value} {bs : Bytes} (h : SlB M w v bs) : (convert src dst v).run P w = .ok (.string ⟨bs.toArray⟩) w := by
  rcases h with ⟨⟨a0, rfl⟩, _, h⟩ | ⟨b, off, cap, rfl, _, _, _, _, hc⟩
  · obtain rfl : bs = [] := by simpa using h
    cases a0 with
    | none => exact run_convert_bytes_nil w src e hs he 0 0 dst hd
    | some a0 => exact run_convert_bytes_back w src dst e a0 0 [] hs he hd (fun j hj => by simp at hj)
  · exact run_convert_bytes_back w src dst e ⟨b, off, none⟩ cap bs hs he hd fun j hj => by
      rw [Addr.add_lit]
      exact hc j (encB bs[j]) (by simp [hj])

/-- 'b[k:]', whatever slice b is. -/
theorem run_from_any {P : Program} {t e : TypeId} (ht : P.underlying t = some (.slice e)) (hsz : (P.info? e).map (·.size) = some 1) {M : Nat → Prop} {w : World} {a : Option Addr} {n cap : Nat} {bs : Bytes} (h : SlB M w (.slice a n cap) bs) (k : Nat) (hk : k ≤ bs.length) :
    ∃ a' c', (∀ W, (Instr.sliceAt t (.slice a n cap) (some (.int .i64 (k : Int))) none none).run P W = .ok (.slice a' (bs.length - k) c') W) ∧ SlB M w (.slice a' (bs.length - k) c') (bs.drop k) := by
  have hsize : ∀ W, (Go.sizeOf e).run P W = .ok 1 W := fun W => by
    cases hq : P.info? e with
    | none => simp [hq] at hsz
    | some i => simp [hq] at hsz; simp [Go.sizeOf, typeInfo, hq, hsz]
  rcases h with ⟨⟨a0, h⟩, h0, h1⟩ | ⟨b, off, cap', h, hn, hc, hb, hm, hcell⟩
  · cases h
    have hbs : bs = [] := by simpa using h1
    subst hbs
    obtain rfl : k = 0 := by simpa using hk
    refine ⟨a, 0, fun W => ?_, .inl ⟨⟨_, rfl⟩, by simp, by simp⟩⟩
    cases a <;> simp [Instr.sliceAt, Instr.slice, Instr.sliceBounds, run_underlying ht, hsize, asIntOf, Instr.sliceBound]
  · cases h
    by_cases hck : cap = k
    · refine ⟨some ⟨b, off, none⟩, cap - k, fun W => ?_, ?_⟩
      · simp [Instr.sliceAt, Instr.slice, Instr.sliceBounds, run_underlying ht, hsize, asIntOf, Instr.sliceBound, hck]
        intro h; omega
      · exact SlB.dropCap (.inr ⟨b, off, cap, rfl, hn, hc, hb, hm, hcell⟩) k hk hck
    · refine ⟨some ⟨b, off + k, none⟩, cap - k, fun W => ?_, ?_⟩
      · simp [Instr.sliceAt, Instr.slice, Instr.sliceBounds, run_underlying ht, hsize, asIntOf, Instr.sliceBound, hck, Addr.add_lit]
        intro h; omega
      · exact SlB.drop (.inr ⟨b, off, cap, rfl, hn, hc, hb, hm, hcell⟩) k hk

/-- A slice type and its element type, as the program's table has them. -/
structure SlTy (P : Program) (t e : TypeId) (size bytes : Nat) (z : Value) : Prop where
  ht : P.underlying t = some (.slice e)
  info : ∃ i, P.info? e = some i ∧ i.zero = some z ∧ i.size = size ∧ i.bytes = bytes
  zs : z.cells.size = size
  pos : 0 < size

theorem SlTy.mk' {P : Program} {t e : TypeId} {size bytes : Nat} {z : Value} (ht : P.underlying t = some (.slice e)) (h : (P.info? e).map (fun i => (i.zero, i.size, i.bytes)) = some (some z, size, bytes)) (zs : z.cells.size = size) (pos : 0 < size) : SlTy P t e size bytes z :=
  ⟨ht, by obtain ⟨i, a, b, c, d⟩ := info_parts h; exact ⟨i, a, b, c, d⟩, zs, pos⟩

theorem cells_add {w : World} {b off : Nat} {cs : List Value} (h : ∀ j u, cs[j]? = some u → w.cell? ⟨b, off + j, none⟩ = some u) : ∀ j u, cs[j]? = some u → w.cell? ((⟨b, off, none⟩ : Addr).add j) = some u := by
  intro j u hu
  rw [Addr.add_lit]
  exact h j u hu

theorem run_app {P : Program} {t e : TypeId} {size bytes : Nat} {z : Value} (T : SlTy P t e size bytes z) (w : World) (ty base : TypeId) (v : Value) (n : Nat) (xs : List Value) (hown : w.ownsRow base e size v n xs)
    {M : Nat → Prop} {vx : Value} {m : Nat} {news : List Value} (hrow : Row M w vx m news) (hl : news.length = m * size) (h1 : ∀ u ∈ news, u.oneCell' = true)
    (h63 : n + m ≤ maxLen) (hbytes : (n + m) * bytes ≤ 140737488355328) (hbase : base ≤ w.heap.size) :
    ∃ v' w', (Builtin.append_ #[t, t] ty #[v, vx]).run P w = .ok v' w' ∧ w'.ownsRow base e size v' (n + m) (xs ++ news) ∧ w.grownBy w' v.ownBlock := by
  obtain ⟨i, hi, hz, hsz, hby⟩ := T.info
  rcases hrow with ⟨⟨a0, rfl⟩, rfl, rfl⟩ | ⟨b, off, cap, rfl, _, _, _, _, hc⟩
  · cases a0 with
    | none => exact ⟨v, w, run_append_owned_none w base t ty e i size T.ht hi v n xs hown, by simpa using hown, World.grownBy.refl _ _⟩
    | some a0 =>
      obtain ⟨v', w', hr, h2, h3, _⟩ := run_append_own w base t ty e i z size bytes T.ht hi hz hsz hby T.zs T.pos v n xs hown a0 0 0 [] hl (by intro j u hu; simp at hu) h1 h63 hbytes hbase
      exact ⟨v', w', hr, h2, h3⟩
  · obtain ⟨v', w', hr, h2, h3, _⟩ := run_append_own w base t ty e i z size bytes T.ht hi hz hsz hby T.zs T.pos v n xs hown ⟨b, off, none⟩ m cap news hl (cells_add hc) h1 h63 hbytes hbase
    exact ⟨v', w', hr, h2, h3⟩

theorem wpList_app {P : Program} {t e : TypeId} {size bytes : Nat} {z : Value} (T : SlTy P t e size bytes z) {w : World} {ops : Array Oper} {rest : List Oper} {o : Oper} {a : Act} {Q : Exit → Act → World → Prop} (hgd : o.guard = none) {s x : Operand}
    (ho : o.op = .call { callee := .builtin .append, args := #[s, x], argTypes := #[t, t] }) {v vx : Value} (hs : a.eval s = v) (hx : a.eval x = vx)
    {base n : Nat} {xs : List Value} (hown : w.ownsRow base e size v n xs)
    {M : Nat → Prop} {m : Nat} {news : List Value} (hrow : Row M w vx m news) (hl : news.length = m * size) (h1 : ∀ u ∈ news, u.oneCell' = true)
    (h63 : n + m ≤ maxLen) (hbytes : (n + m) * bytes ≤ 140737488355328) (hbase : base ≤ w.heap.size)
    (h : ∀ v' w', w'.ownsRow base e size v' (n + m) (xs ++ news) → w.grownBy w' v.ownBlock → wpList P ops Q rest (a.put o.dst v') w') : wpList P ops Q (o :: rest) a w := by
  refine wpList_plain hgd fun K hK => ?_
  obtain ⟨v', w', hr, h2, h3⟩ := run_app T w o.type base v n xs hown hrow hl h1 h63 hbytes hbase
  unfold Oper.wp execOp
  simp only [ho, resolve, invoke, builtin, Sem.run_bind, Sem.run_pure, Result.andThen_ok, List.map_toArray, List.map_cons, List.map_nil, hs, hx, hr]
  exact hK _ _ (h v' w' h2 h3)

/-- The same, with the place of the new slice: in the old one's row, or in the block just made. -/
theorem run_app_at {P : Program} {t e : TypeId} {size bytes : Nat} {z : Value} (T : SlTy P t e size bytes z) (w : World) (ty base : TypeId) (v : Value) (n : Nat) (xs : List Value) (hown : w.ownsRow base e size v n xs)
    {M : Nat → Prop} {vx : Value} {m : Nat} {news : List Value} (hrow : Row M w vx m news) (hl : news.length = m * size) (h1 : ∀ u ∈ news, u.oneCell' = true)
    (h63 : n + m ≤ maxLen) (hbytes : (n + m) * bytes ≤ 140737488355328) (hbase : base ≤ w.heap.size) :
    ∃ v' w', (Builtin.append_ #[t, t] ty #[v, vx]).run P w = .ok v' w' ∧ w'.ownsRow base e size v' (n + m) (xs ++ news) ∧ w.grownBy w' v.ownBlock ∧ (v'.ownBlock = v.ownBlock ∨ v'.ownBlock = some w.heap.size) := by
  obtain ⟨i, hi, hz, hsz, hby⟩ := T.info
  rcases hrow with ⟨⟨a0, rfl⟩, rfl, rfl⟩ | ⟨b, off, cap, rfl, _, _, _, _, hc⟩
  · cases a0 with
    | none => exact ⟨v, w, run_append_owned_none w base t ty e i size T.ht hi v n xs hown, by simpa using hown, World.grownBy.refl _ _, .inl rfl⟩
    | some a0 =>
      obtain ⟨v', w', hr, h2, h3, _, h5⟩ := run_append_own_at w base t ty e i z size bytes T.ht hi hz hsz hby T.zs T.pos v n xs hown a0 0 0 [] hl (by intro j u hu; simp at hu) h1 h63 hbytes hbase
      exact ⟨v', w', hr, h2, h3, h5⟩
  · obtain ⟨v', w', hr, h2, h3, _, h5⟩ := run_append_own_at w base t ty e i z size bytes T.ht hi hz hsz hby T.zs T.pos v n xs hown ⟨b, off, none⟩ m cap news hl (cells_add hc) h1 h63 hbytes hbase
    exact ⟨v', w', hr, h2, h3, h5⟩

theorem wpList_app_at {P : Program} {t e : TypeId} {size bytes : Nat} {z : Value} (T : SlTy P t e size bytes z) {w : World} {ops : Array Oper} {rest : List Oper} {o : Oper} {a : Act} {Q : Exit → Act → World → Prop} (hgd : o.guard = none) {s x : Operand}
    (ho : o.op = .call { callee := .builtin .append, args := #[s, x], argTypes := #[t, t] }) {v vx : Value} (hs : a.eval s = v) (hx : a.eval x = vx)
    {base n : Nat} {xs : List Value} (hown : w.ownsRow base e size v n xs)
    {M : Nat → Prop} {m : Nat} {news : List Value} (hrow : Row M w vx m news) (hl : news.length = m * size) (h1 : ∀ u ∈ news, u.oneCell' = true)
    (h63 : n + m ≤ maxLen) (hbytes : (n + m) * bytes ≤ 140737488355328) (hbase : base ≤ w.heap.size)
    (h : ∀ v' w', w'.ownsRow base e size v' (n + m) (xs ++ news) → w.grownBy w' v.ownBlock → (v'.ownBlock = v.ownBlock ∨ v'.ownBlock = some w.heap.size) → wpList P ops Q rest (a.put o.dst v') w') : wpList P ops Q (o :: rest) a w := by
  refine wpList_plain hgd fun K hK => ?_
  obtain ⟨v', w', hr, h2, h3, h4⟩ := run_app_at T w o.type base v n xs hown hrow hl h1 h63 hbytes hbase
  unfold Oper.wp execOp
  simp only [ho, resolve, invoke, builtin, Sem.run_bind, Sem.run_pure, Result.andThen_ok, List.map_toArray, List.map_cons, List.map_nil, hs, hx, hr]
  exact hK _ _ (h v' w' h2 h3 h4)

theorem wpListIn_app_at {F : Fence} {n0 : Nat} {P : Program} {t e : TypeId} {size bytes : Nat} {z : Value} (T : SlTy P t e size bytes z) {w : World} {ops : Array Oper} {rest : List Oper} {o : Oper} {a : Act} {Q : Exit → Act → World → Prop} (hgd : o.guard = none) {s x : Operand}
    (ho : o.op = .call { callee := .builtin .append, args := #[s, x], argTypes := #[t, t] }) {v vx : Value} (hs : a.eval s = v) (hx : a.eval x = vx)
    {base n : Nat} {xs : List Value} (hown : w.ownsRow base e size v n xs)
    {M : Nat → Prop} {m : Nat} {news : List Value} (hrow : Row M w vx m news) (hl : news.length = m * size) (h1 : ∀ u ∈ news, u.oneCell' = true)
    (h63 : n + m ≤ maxLen) (hbytes : (n + m) * bytes ≤ 140737488355328) (hbase : base ≤ w.heap.size)
    (h : ∀ v' w', w'.ownsRow base e size v' (n + m) (xs ++ news) → w.grownBy w' v.ownBlock → (v'.ownBlock = v.ownBlock ∨ v'.ownBlock = some w.heap.size) → wpListIn F n0 P ops Q rest (a.put o.dst v') w') : wpListIn F n0 P ops Q (o :: rest) a w := by
  refine wpListIn_plain hgd fun K hK => ?_
  obtain ⟨v', w', hr, h2, h3, h4⟩ := run_app_at T w o.type base v n xs hown hrow hl h1 h63 hbytes hbase
  unfold Oper.wpIn
  refine ⟨?_, ?_⟩
  · simp [Oper.about, ho, resolve, Target.leads, Sem.run_pure]
  · rw [Oper.semAt_plain F _ _ (by rw [ho]; intro c hc'; cases hc')]
    simp [execOp, ho, resolve, invoke, builtin, hs, hx, hr, Result.andThen]
    exact hK _ _ (h v' w' h2 h3 h4)

/-- A literal of one value, as a slice. -/
theorem Row.lit1 (w : World) (x : Value) (e : TypeId) : Row (fun _ => False) (w.alloc (.cells #[x] e)) (.slice (some ⟨w.heap.size, 0, none⟩) 1 1) 1 [x] := (Row.lit (size := 1) (Nat.le_refl _) (by decide) rfl rfl).mono (fun _ _ h => h.elim)

/-- A slice expression 'b[k:]' whose run is known. -/
theorem wpList_from {P : Program} {w : World} {ops : Array Oper} {rest : List Oper} {o : Oper} {a : Act} {Q : Exit → Act → World → Prop} (hgd : o.guard = none) {x lo : Operand} {t : TypeId}
    (ho : o.op = .slice t x (some lo) none none) {vx : Value} {k : Int} (hx : a.eval x = vx) (hl : a.eval lo = .int .i64 k)
    {v' : Value} (hr : ∀ W, (Instr.sliceAt t vx (some (.int .i64 k)) none none).run P W = .ok v' W) (h : wpList P ops Q rest (a.put o.dst v') w) : wpList P ops Q (o :: rest) a w := by
  refine wpList_plain hgd fun K hK => ?_
  unfold Oper.wp execOp
  simp only [ho, hx, hl, Option.map_some, Option.map_none, Sem.run_bind, Sem.run_pure, Result.andThen_ok, hr]
  exact hK _ _ h

/-- An append whose run is known. -/
theorem wpList_app_run {P : Program} {w : World} {ops : Array Oper} {rest : List Oper} {o : Oper} {a : Act} {Q : Exit → Act → World → Prop} (hgd : o.guard = none) {s x : Operand} {t tx : TypeId}
    (ho : o.op = .call { callee := .builtin .append, args := #[s, x], argTypes := #[t, tx] }) {v vx : Value} (hs : a.eval s = v) (hx : a.eval x = vx)
    {v' : Value} {w' : World} (hr : ∀ ty, (Builtin.append_ #[t, tx] ty #[v, vx]).run P w = .ok v' w') (h : wpList P ops Q rest (a.put o.dst v') w') : wpList P ops Q (o :: rest) a w := by
  refine wpList_plain hgd fun K hK => ?_
  unfold Oper.wp execOp
  simp only [ho, resolve, invoke, builtin, Sem.run_bind, Sem.run_pure, Result.andThen_ok, List.map_toArray, List.map_cons, List.map_nil, hs, hx, hr]
  exact hK _ _ h

/-- Onto a slice that is full: a new row. -/
theorem run_app_full {P : Program} {t e : TypeId} {size bytes : Nat} {z : Value} (T : SlTy P t e size bytes z) (w : World) (ty : TypeId) {M : Nat → Prop} {a : Option Addr} {n cap : Nat} {xs : List Value} (hv : Row M w (.slice a n cap) n xs) (hxl : xs.length = n * size)
    {vx : Value} {m : Nat} {news : List Value} (hrow : Row M w vx m news) (hl : news.length = m * size) (hfull : cap < n + m)
    (h63 : n + m ≤ maxLen) (hbytes : (n + m) * bytes ≤ 140737488355328) (h1 : ∀ u ∈ news, u.oneCell' = true) :
    ∃ v' w', (Builtin.append_ #[t, t] ty #[.slice a n cap, vx]).run P w = .ok v' w' ∧ w'.ownsRow w.heap.size e size v' (n + m) (xs ++ news) ∧ w.grownBy w' none := by
  obtain ⟨i, hi, hz, hsz, hby⟩ := T.info
  rcases hrow with ⟨⟨a0, rfl⟩, rfl, rfl⟩ | ⟨b, off, cap', rfl, _, _, _, _, hc⟩
  · rcases hv with ⟨⟨a1, h⟩, rfl, rfl⟩ | ⟨_, _, _, h, hn, _⟩
    · cases h; omega
    · cases h; omega
  · rcases hv with ⟨⟨a1, h⟩, rfl, rfl⟩ | ⟨b', off', cap'', h, _, _, _, _, hc'⟩
    · cases h
      cases a with
      | some a1 => exact run_append_arg_grows w t ty e i z size bytes T.ht hi hz hsz hby T.zs T.pos a1 0 0 [] hxl (by intro j u hu; simp at hu) ⟨b, off, none⟩ m cap' news hl (cells_add hc) hfull h63 hbytes
      | none =>
      obtain ⟨v', w', hr, h2, h3, _⟩ := run_append_own w w.heap.size t ty e i z size bytes T.ht hi hz hsz hby T.zs T.pos (.slice none 0 0) 0 [] (World.ownsRow_nil w _ e size) ⟨b, off, none⟩ m cap' news hl (cells_add hc) h1 h63 hbytes (Nat.le_refl _)
      exact ⟨v', w', hr, h2, h3⟩
    · cases h
      exact run_append_arg_grows w t ty e i z size bytes T.ht hi hz hsz hby T.zs T.pos ⟨b', off', none⟩ n cap xs hxl (cells_add hc') ⟨b, off, none⟩ m cap' news hl (cells_add hc) hfull h63 hbytes

theorem wpList_app_full {P : Program} {t e : TypeId} {size bytes : Nat} {z : Value} (T : SlTy P t e size bytes z) {w : World} {ops : Array Oper} {rest : List Oper} {o : Oper} {act : Act} {Q : Exit → Act → World → Prop} (hgd : o.guard = none) {s x : Operand}
    (ho : o.op = .call { callee := .builtin .append, args := #[s, x], argTypes := #[t, t] }) {a : Option Addr} {n cap : Nat} {vx : Value} (hs : act.eval s = .slice a n cap) (hx : act.eval x = vx)
    {M : Nat → Prop} {xs : List Value} (hv : Row M w (.slice a n cap) n xs) (hxl : xs.length = n * size)
    {m : Nat} {news : List Value} (hrow : Row M w vx m news) (hl : news.length = m * size) (hfull : cap < n + m)
    (h63 : n + m ≤ maxLen) (hbytes : (n + m) * bytes ≤ 140737488355328) (h1 : ∀ u ∈ news, u.oneCell' = true)
    (h : ∀ v' w', w'.ownsRow w.heap.size e size v' (n + m) (xs ++ news) → w.grownBy w' none → wpList P ops Q rest (act.put o.dst v') w') : wpList P ops Q (o :: rest) act w := by
  refine wpList_plain hgd fun K hK => ?_
  obtain ⟨v', w', hr, h2, h3⟩ := run_app_full T w o.type hv hxl hrow hl hfull h63 hbytes h1
  unfold Oper.wp execOp
  simp only [ho, resolve, invoke, builtin, Sem.run_bind, Sem.run_pure, Result.andThen_ok, List.map_toArray, List.map_cons, List.map_nil, hs, hx, hr]
  exact hK _ _ (h v' w' h2 h3)

/-- A store of a whole row or struct into its variable. -/
theorem run_storeVar_whole {P : Program} (w : World) (g : Nat) (ty t : TypeId) (cells cur : Array Value) (hg : w.heap[g]? = some (.cells cur t (0, 0))) (hs : cells.size = cur.size) (hi : (P.info? ty).map (·.size) = some cells.size) (h1 : ∀ v ∈ cells.toList, v.oneCell' = true) :
    (storeVar ty ⟨g, 0, none⟩ (.agg cells)).run P w = .ok () (w.setRow g cells) := by
  have h := run_storeCells_at P g 0 t cells.toList 0 cur w hg (by simp [hs]) h1
  have hd : cur.toList.drop cells.size = [] := List.drop_eq_nil_of_le (by simp [hs])
  simp only [Nat.add_zero, List.take_zero, List.nil_append, Nat.zero_add, Array.length_toList, hd, List.append_nil, Array.toArray_toList] at h
  cases hq : P.info? ty with
  | none => simp [hq] at hi
  | some i =>
    have hs : cells.size = i.size := by simp [hq] at hi; omega
    simp [storeVar, Go.sizeOf, typeInfo, hq, Value.cells, hs, h]

theorem wpList_store_whole {P : Program} {ops : Array Oper} {rest : List Oper} {op : Oper} {a : Act} {w : World} {Q : Exit → Act → World → Prop} (hgd : op.guard = none) {ty : TypeId} {x y : Operand} (ho : op.op = .store ty x y)
    (g : Nat) (t : TypeId) (cells cur : Array Value) (hx : a.eval x = .pointer (some ⟨g, 0, none⟩)) (hy : a.eval y = .agg cells)
    (hg : w.heap[g]? = some (.cells cur t (0, 0))) (hs : cells.size = cur.size) (hi : (P.info? ty).map (·.size) = some cells.size) (h1 : ∀ v ∈ cells.toList, v.oneCell' = true)
    (h : wpList P ops Q rest (a.put op.dst undef) (w.setRow g cells)) : wpList P ops Q (op :: rest) a w :=
  wpList_plain hgd fun K hK => by
    unfold Oper.wp execOp
    simp only [ho, hx, hy, Instr.storeAt, Instr.sureAddr, Sem.run_bind, Sem.run_pure, Result.andThen_ok, run_storeVar_whole w g ty t cells cur hg hs hi h1]
    exact hK _ _ h

end CW

namespace Go.Proofs.YtepceidajmedeaaGreatDoor
open Go.RowKit CW

theorem u32_xor_nat' (a b : Nat) (ha : a < 4294967296) (hb : b < 4294967296) : bits .xor .u32 (a : Int) (b : Int) = ((a ^^^ b : Nat) : Int) := u32_xor_nat a b ha hb

theorem feed_any (r : Nat) (c : UInt8) (w : World) (hr : r < 4294967296) :
    Calls Tryz.prog 229 #[.int .u32 (r : Int), .int .u8 (c.toNat : Int)] w fun e w' => e = .returned (.int .u32 (feed r c : Nat)) ∧ w = w' := by
  have hc := c.toNat_lt
  have hx := u32_xor_nat r c.toNat hr (by omega)
  have hxl : r ^^^ c.toNat < 4294967296 := xor_lt32 hr (by omega)
  unfold feed
  generalize r ^^^ c.toNat = x at hx hxl
  go_enter Tryz.func229, Tryz.ntmps229
  go_wp2
  go_loop [0, 5] (fun a i => ∃ k : Nat, k ≤ 8 ∧ i = .int .i64 k ∧ a = .int .u32 ((halves k x : Nat) : Int)) (fun _ i => 8 - (intOf i).toNat)
  case atStart => exact ⟨0, by omega, rfl, rfl⟩
  case round =>
    obtain ⟨k, hk, rfl, rfl⟩ := hrel
    have hl := halves_lt k hxl
    have hs := halves_succ k x
    have HS : Hid (halves (k + 1) x = half (halves k x)) := hs
    clear hs hx
    generalize hy : halves k x = y at hl HS
    have HY : Hid (halves k x = y) := hy
    clear hy
    by_cases hlt : k < 8
    · have hxo : bits .xor .u32 ((y : Int) / 2) 2197175160 = (((y / 2) ^^^ 2197175160 : Nat) : Int) := by
        have h := u32_xor_nat (y / 2) 2197175160 (by omega) (by decide)
        rwa [Int.natCast_ediv] at h
      by_cases hp : y % 2 = 1
      · have hh : half y = (y / 2) ^^^ 2197175160 := by unfold half; rw [if_pos hp]
        have HH : Hid (half y = (y / 2) ^^^ 2197175160) := hh
        have ha : bits .and .u32 (y : Int) 1 = 1 := by
          have h := u32_and_nat y 1 hl (by decide)
          rwa [nat_mask1, hp] at h
        clear hh hp
        go_wp2
        go_round
        case rel => exact ⟨k + 1, by omega, by go_num, by rw [HS.out, HH.out]⟩
        case measure => simp [intOf]; omega
      · have hh : half y = y / 2 := by unfold half; rw [if_neg hp]
        have HH : Hid (half y = y / 2) := hh
        have ha : bits .and .u32 (y : Int) 1 = 0 := by
          have h := u32_and_nat y 1 hl (by decide)
          rwa [nat_mask1, show y % 2 = 0 by omega] at h
        clear hh hp
        go_wp2
        go_round
        case rel => exact ⟨k + 1, by omega, by go_num, by rw [HS.out, HH.out]; go_num⟩
        case measure => simp [intOf]; omega
    · go_wp2
      go_ret
      obtain rfl : k = 8 := by omega
      exact ⟨by rw [HY.out]; rfl, rfl⟩

theorem flip_bits (s : Nat) (hs : s < 4294967296) : bits .xor .u32 IntKind.u32.max (s : Int) = ((flip s : Nat) : Int) := by
  have h := u32_xor_nat 4294967295 s (by decide) hs
  have e : 4294967295 ^^^ s = flip s := by
    have h1 := BitVec.toNat_not (x := BitVec.ofNat 32 s)
    rw [BitVec.not_def] at h1
    simp only [BitVec.toNat_xor, BitVec.toNat_allOnes, BitVec.toNat_ofNat] at h1
    rw [Nat.mod_eq_of_lt (show s < 2 ^ 32 from hs)] at h1
    exact h1
  rw [e] at h
  exact h

theorem more1_any (s : Nat) (v : Value) (bs : Bytes) (w : World) (hs : s < 4294967296) (hv : SlB (fun _ => False) w v bs) :
    Calls Tryz.prog 195 #[.int .u32 (s : Int), v] w fun e w' => e = .returned (.int .u32 (more s bs : Nat)) ∧ w = w' := by
  obtain ⟨a, cap, rfl, hn, hcap, _, hcell⟩ := Row.open hv
  have hx := flip_bits s hs
  have hfl := flip_lt s
  unfold more
  generalize flip s = f at hx hfl
  go_enter Tryz.func195, Tryz.ntmps195
  go_wp2
  go_loop [5, 6] (fun a i => ∃ k : Nat, k ≤ bs.length ∧ i = .int .i64 k ∧ a = .int .u32 (((bs.take k).foldl feed f : Nat) : Int)) (fun _ i => bs.length - (intOf i).toNat)
  case atStart => exact ⟨0, by omega, rfl, rfl⟩
  case round =>
    obtain ⟨k, hk, rfl, rfl⟩ := hrel
    have hl := fold_lt (bs.take k) hfl
    by_cases hlt : k < bs.length
    · obtain ⟨b, off, rfl, _, _, hc⟩ := hcell (by omega)
      have hck := hc k (encB bs[k]) (by simp [hlt])
      have hnext : (bs.take (k + 1)).foldl feed f = feed ((bs.take k).foldl feed f) bs[k] := by
        rw [List.take_succ_eq_append_getElem hlt, List.foldl_append]; rfl
      have HN : Hid ((bs.take (k + 1)).foldl feed f = feed ((bs.take k).foldl feed f) bs[k]) := hnext
      clear hnext hc hcell hx
      unfold encB at hck
      go_wp2_with (go_at_call 229; refine (feed_any _ _ _ hl).mono ?_; rintro e w' ⟨rfl, rfl⟩)
      go_round
      case rel => exact ⟨k + 1, by omega, by go_num, by rw [HN.out]⟩
      case measure => simp [intOf]; omega
    · have hfin := flip_bits _ hl
      obtain rfl : k = bs.length := by omega
      rw [List.take_length] at hfin ⊢
      go_wp2
      go_ret
      exact ⟨rfl, rfl⟩

theorem sum1_any (v : Value) (bs : Bytes) (w : World) (hv : SlB (fun _ => False) w v bs) :
    Calls Tryz.prog 163 #[v] w fun e w' => e = .returned (.int .u32 (CW.sum bs : Nat)) ∧ w = w' := by
  have hm : Calls Tryz.prog 195 #[.int .u32 0, v] w fun e w' => e = .returned (.int .u32 (more 0 bs : Nat)) ∧ w = w' := more1_any 0 v bs w (by decide) hv
  unfold CW.sum
  go_enter Tryz.func163, Tryz.ntmps163
  go_wp2_with (go_at_call 195; refine hm.mono ?_; rintro e w' ⟨rfl, rfl⟩)
  go_ret
  exact ⟨rfl, rfl⟩

theorem little_any (x : Nat) (w : World) (hx : x < 4294967296) :
    Calls Tryz.prog 133 #[.int .u32 (x : Int)] w fun e w' => ∃ v, e = .returned v ∧ w'.ownsRow w.heap.size 5 1 v (le4 x).length ((le4 x).map encB) ∧ Below w.heap.size w w' := by
  go_enter Tryz.func133, Tryz.ntmps133
  go_wp2
  go_ret
  have h1 := u32_and_nat x 255 hx (by decide)
  have h2 := u32_and_nat (x / 256) 255 (by omega) (by decide)
  have h3 := u32_and_nat (x / 65536) 255 (by omega) (by decide)
  rw [nat_mask8] at h1 h2 h3
  refine ⟨_, rfl, ?_, (Below.refl _ _).alloc (Nat.le_refl _) _⟩
  have e1 : bits .and .u32 (x : Int) 255 % 256 = ((x % 256 : Nat) : Int) := by rw [show (255 : Int) = ((255 : Nat) : Int) from rfl, h1]; omega
  have e2 : bits .and .u32 ((x : Int) / 256) 255 % 256 = ((x / 256 % 256 : Nat) : Int) := by rw [show (255 : Int) = ((255 : Nat) : Int) from rfl, show (x : Int) / 256 = ((x / 256 : Nat) : Int) by omega, h2]; omega
  have e3 : bits .and .u32 ((x : Int) / 65536) 255 % 256 = ((x / 65536 % 256 : Nat) : Int) := by rw [show (255 : Int) = ((255 : Nat) : Int) from rfl, show (x : Int) / 65536 = ((x / 65536 : Nat) : Int) by omega, h3]; omega
  have e4 : (x : Int) / 16777216 = ((x / 16777216 % 256 : Nat) : Int) := by omega
  rw [e1, e2, e3, e4]
  have h := World.ownsRow_lit (e := 5) (size := 1) w ((le4 x).map encB).toArray 4 (Nat.le_refl w.heap.size) (by decide) rfl
  simp only [le4, List.map_cons, List.map_nil, encB_ofNat] at h ⊢
  exact h

theorem tyB : SlTy Tryz.prog 30 5 1 1 (.int .u8 0) := SlTy.mk' Tryz.underlying30 (by kernel_rfl) rfl (by decide)

set_option maxHeartbeats 400000 in
theorem seal1_any (v : Value) (bs : Bytes) (w : World) (hv : SlB (fun _ => False) w v bs) (hl : bs.length ≤ 70368744177664) :
    Calls Tryz.prog 132 #[v] w fun e w' => ∃ v', e = .returned v' ∧ SlB (fun k => k < w.heap.size) w' v' (sealB bs) ∧ Below w.heap.size w w' := by
  have h0 : (w.alloc (.cells #[] 5)).ownsRow w.heap.size 5 1 (.slice (some ⟨w.heap.size, 0, none⟩) 0 0) 0 [] := World.ownsRow_made w #[] 0 (Nat.le_refl _) (by decide) rfl
  have hb0 : Below w.heap.size w (w.alloc (.cells #[] 5)) := (Below.refl _ _).alloc (Nat.le_refl _) _
  have hv0 : SlB (fun _ => False) (w.alloc (.cells #[] 5)) v bs := hv.below hb0
  go_enter Tryz.func132, Tryz.ntmps132
  go_wp2_with (first
    | (at_builtin; refine wpList_app tyB rfl rfl rfl rfl h0 hv0 (by simp) (bytes_one _) (by unfold maxLen; omega) (by omega) hb0.size ?_; intro v1 w1 ho1 hg1; have hb1 := hb0.trans (below_grown h0 hg1 hb0.size); have hv1 := hv.below hb1; clear h0 hg1 hv0 hb0)
    | (go_at_call 163; refine (sum1_any _ _ _ hv1).mono ?_; rintro e w' ⟨rfl, rfl⟩)
    | (go_at_call 133; refine (little_any _ _ (sum_lt _)).mono ?_; rintro e w2 ⟨v2, rfl, hs2', hb2⟩; have hs2 := SlB.of_owns hs2'; have ho2 := owns_below ho1 hb2; have hb3 := hb1.trans (hb2.mono hb1.size); clear ho1 hb1 hb2 hv1)
    | (at_builtin; refine wpList_app tyB rfl rfl rfl rfl ho2 hs2 (by simp [le4]) (bytes_one _) (by unfold maxLen; simp [le4]; omega) (by simp [le4]; omega) hb3.size ?_; intro v1 w4 ho4 hg4; have hb4 := hb3.trans (below_grown ho2 hg4 hb3.size); clear ho2 hg4 hb3))
  go_ret
  refine ⟨_, rfl, ?_, hb4⟩
  have h := Row.of_owns ho4
  unfold SlB sealB
  rw [List.map_append, List.length_append]
  simpa [le4] using h

end Go.Proofs.YtepceidajmedeaaGreatDoor

namespace Go.Proofs.YtepceidajmedeaaGreatDoor
open Go.RowKit CW

theorem digit_extract (D : Nat) (h : D < 10) : (ByteArray.mk #[48, 49, 50, 51, 52, 53, 54, 55, 56, 57]).extract D (D + 1) = ByteArray.mk #[UInt8.ofNat (48 + D)] := by
  match D, h with
  | 0, _ => rfl
  | 1, _ => rfl
  | 2, _ => rfl
  | 3, _ => rfl
  | 4, _ => rfl
  | 5, _ => rfl
  | 6, _ => rfl
  | 7, _ => rfl
  | 8, _ => rfl
  | 9, _ => rfl
  | n + 10, h => omega

set_option maxHeartbeats 400000 in
theorem name7_any (n : Nat) (w : World) (hn : n ≤ 9223372036854775807) :
    Calls Tryz.prog 73 #[.int .i64 n] w fun e w' => w = w' ∧ (1 ≤ n ∧ n ≤ 99999999 ∧ e = .returned (.tuple #[.string ⟨(nameB n).toArray⟩, .bool true]) ∨ ¬ (1 ≤ n ∧ n ≤ 99999999) ∧ e = .returned (.tuple #[.string ⟨#[]⟩, .bool false])) := by
  by_cases h1 : n < 1
  · have d1 : (n : Int) < 1 := by omega
    go_enter Tryz.func73, Tryz.ntmps73
    go_wp2
    go_ret2
    exact ⟨rfl, .inr ⟨by omega, rfl⟩⟩
  · have d1 : ¬ (n : Int) < 1 := by omega
    by_cases h2 : 99999999 < n
    · have d2 : (99999999 : Int) < (n : Int) := by omega
      go_enter Tryz.func73, Tryz.ntmps73
      go_wp2
      go_ret2
      exact ⟨rfl, Or.inr rfl⟩
    · have d2 : ¬ (99999999 : Int) < (n : Int) := by omega
      go_enter Tryz.func73, Tryz.ntmps73
      go_wp2
      go_loopw [0, 4, 5] (fun m s i wr => ∃ k : Nat, k ≤ 8 ∧ i = .int .i64 k ∧ m = .int .i64 (n / 10 ^ k : Nat) ∧ s = .string ⟨(low k n).toArray⟩ ∧ wr = w) (fun _ _ i _ => 8 - (intOf i).toNat)
      case atStart => exact ⟨0, by omega, rfl, by simp, rfl, rfl⟩
      case round =>
        obtain ⟨k, hk, rfl, rfl, rfl, rfl⟩ := hrel
        by_cases hlt : k < 8
        · have i1 : (k : Int) < 8 := by omega
          have HL : Hid (low (k + 1) n = UInt8.ofNat (48 + n / 10 ^ k % 10) :: low k n) := rfl
          have HD : Hid (n / 10 ^ (k + 1) = n / 10 ^ k / 10) := by show _ = _; rw [Nat.pow_succ, Nat.div_div_eq_div_mul]
          have hm : n / 10 ^ k ≤ 99999999 := Nat.le_trans (Nat.div_le_self _ _) (by omega)
          generalize n / 10 ^ k = m at *
          have hLL : (low k n).length = k := low_length k n
          generalize low k n = L at *
          have hmod : ((m : Nat) : Int).tmod 10 = ((m % 10 : Nat) : Int) := by rw [Int.tmod_eq_emod_of_nonneg (by omega)]; omega
          have hdiv : ((m : Nat) : Int).tdiv 10 = ((m / 10 : Nat) : Int) := by rw [Int.tdiv_eq_ediv_of_nonneg (by omega)]; omega
          have hD : m % 10 < 10 := by omega
          have hQ : m / 10 ≤ 99999999 := by omega
          generalize m % 10 = D at *
          generalize m / 10 = Q at *
          have g1 : (0 : Int) ≤ (D : Int) := by omega
          have g2 : (D : Int) + 1 ≤ 10 := by omega
          have hov : ¬ 9223372036854775807 < min (D + 1) 10 - D + L.length := by omega
          have hq : wrap64 (Q : Int) = (Q : Int) := by have := hm; unfold wrap64; omega
          have hst : Hid ((ByteArray.mk #[48, 49, 50, 51, 52, 53, 54, 55, 56, 57]).extract D (D + 1) ++ (ByteArray.mk (List.toArray L)) = ByteArray.mk (List.toArray (low (k + 1) n))) := by
            show _ = _
            rw [HL.out, digit_extract D hD]
            exact ByteArray.ext (by simp)
          go_wp2
          go_roundw
          case rel => exact ⟨k + 1, by omega, by go_num, by rw [HD.out], by rw [hst.out], trivial⟩
          case measure => simp [intOf]; omega
        · obtain rfl : k = 8 := by omega
          have HN : Hid (ByteArray.mk #[108, 111, 103, 45] ++ ByteArray.mk (List.toArray (low 8 n)) = ByteArray.mk (List.toArray (nameB n))) := by
            show _ = _
            exact ByteArray.ext (by simp [nameB, pre4])
          have hLL : (low 8 n).length = 8 := low_length 8 n
          generalize low 8 n = L at *
          go_wp2
          go_ret2
          exact ⟨rfl, .inl ⟨by omega, by omega, by rw [HN.out] <;> rfl⟩⟩

end Go.Proofs.YtepceidajmedeaaGreatDoor

namespace Go.Proofs.YtepceidajmedeaaGreatDoor
open Go.RowKit CW

theorem rep_48 (k : Nat) : Lib.repeatL [48] k = List.replicate k 48 := by
  induction k with
  | zero => rfl
  | succ k ih => rw [Lib.repeatL, ih, List.replicate_succ]; rfl

theorem low_digits (k : Nat) : ∀ n, n < 10 ^ (k + 1) → (Lib.decDigits n).length ≤ k + 1 ∧ low (k + 1) n = Lib.repeatL [48] (k + 1 - (Lib.decDigits n).length) ++ Lib.decDigits n := by
  induction k with
  | zero =>
    intro n h
    rw [Lib.decDigits_one (by omega)]
    have : n % 10 = n := by omega
    simp [low, Lib.repeatL, this]
  | succ k ih =>
    intro n h
    by_cases h10 : n < 10
    · rw [Lib.decDigits_one h10, rep_48, low_snoc, show n / 10 = 0 by omega, low_zero, show n % 10 = n by omega]
      exact ⟨by simp, rfl⟩
    · obtain ⟨h1, h2⟩ := ih (n / 10) (by rw [Nat.pow_succ] at h; omega)
      have e : Lib.decDigits n = Lib.decDigits (n / 10) ++ [UInt8.ofNat (48 + n % 10)] := by rw [Lib.decDigits, dif_neg h10]
      rw [e, low_snoc, h2]
      refine ⟨by simp; omega, ?_⟩
      rw [List.length_append, List.length_singleton, Nat.add_sub_add_right, List.append_assoc]

theorem name_digits (n : Nat) (h : n ≤ 99999999) : (Lib.decDigits n).length ≤ 8 ∧ nameB n = pre4 ++ Lib.repeatL [48] (8 - (Lib.decDigits n).length) ++ Lib.decDigits n := by
  obtain ⟨h1, h2⟩ := low_digits 7 n (by omega)
  exact ⟨h1, by rw [nameB, h2, List.append_assoc]⟩

theorem name_any (n : Nat) (w : World) (h1 : 1 ≤ n) (hn : n < 100) :
    Calls Tryz.prog 55 #[.int .i64 n] w fun e w' => e = .returned (.tuple #[.string ⟨(nameB n).toArray⟩, .bool true]) ∧ Below w.heap.size w w' := by
  obtain ⟨hd, he⟩ := name_digits n (by omega)
  have d1 : ¬ (n : Int) < 1 := by omega
  have d2 : ¬ (99999999 : Int) < (n : Int) := by omega
  have HE : Hid (ByteArray.mk #[108, 111, 103, 45] ++ ByteArray.mk (Lib.repeatL [48] (8 - (Lib.decDigits n).length)).toArray ++ ByteArray.mk (Lib.decDigits n).toArray = ByteArray.mk (nameB n).toArray) := by
    show _ = _
    rw [he]
    exact ByteArray.ext (by simp [pre4])
  clear he
  go_enter Tryz.func55, Tryz.ntmps55
  go_wp2_with (first
    | (go_at_call 116; refine (Tryz.strconv_Itoa_small n hn _).mono ?_; rintro e w1 ⟨rfl, rfl⟩; generalize Lib.decDigits n = L at *; have hsub : (8 : Int) - (L.length : Int) = ((8 - L.length : Nat) : Int) := (by omega); have hr := Lib.repeatL_length [48] (8 - L.length); rw [List.length_singleton, Nat.mul_one] at hr; have hv1 : ¬ 9223372036854775807 < 4 + (Lib.repeatL [48] (8 - L.length)).length := (by omega); have hv2 : ¬ 9223372036854775807 < 4 + (Lib.repeatL [48] (8 - L.length)).length + L.length := (by omega))
    | (go_at_call 117; refine (Tryz.strings_Repeat ⟨#[48]⟩ (8 - L.length) _ (by omega) (by simp [ByteArray.size]; omega)).mono ?_; rintro e w2 ⟨rfl, hb⟩))
  go_ret2
  exact ⟨by rw [HE.out] <;> rfl, hb⟩

end Go.Proofs.YtepceidajmedeaaGreatDoor

namespace Go.Proofs.YtepceidajmedeaaGreatDoor
open Go.RowKit CW

theorem wrap8 {c : Nat} (h : c < 256) : IntKind.u8.wrap (c : Int) = (c : Int) := by
  show (c : Int) % 256 = _
  omega

theorem iter_below (w : World) (s : ByteArray) (p : Nat) : Below w.heap.size w (w.iter s p) := (Below.refl _ _).alloc (Nat.le_refl _) _

set_option maxHeartbeats 1000000 in
theorem number_any (s : Bytes) (w : World) :
    Calls Tryz.prog 78 #[.string ⟨s.toArray⟩] w fun e w' => e = .returned (.tuple #[.int .i64 ((numB s).getD 0 : Nat), .bool (numB s).isSome]) ∧ Below w.heap.size w w' := by
  have hcut := Tryz.strings_CutPrefix ⟨s.toArray⟩ ⟨#[108, 111, 103, 45]⟩ w
  have e1 : (ByteArray.mk s.toArray).data.toList = s := rfl
  have e2 : (ByteArray.mk #[108, 111, 103, 45]).data.toList = pre4 := rfl
  rw [e1, e2] at hcut
  by_cases hp : Lib.hasPrefix s pre4 = true
  · have htk : s.take 4 = pre4 := by
      have h := List.isPrefixOf_iff_prefix.1 hp
      exact (List.prefix_iff_eq_take.1 h).symm
    have htr : Lib.trimPrefix s pre4 = s.drop 4 := by unfold Lib.trimPrefix; rw [if_pos hp]; rfl
    rw [hp, htr] at hcut
    have hle : 4 ≤ s.length := by
      have h := congrArg List.length htk
      rw [List.length_take] at h
      simp only [pre4, List.length_cons, List.length_nil] at h
      omega
    have HN : Hid (numB s = if s.length = 12 ∧ (s.drop 4).all isDig = true ∧ 0 < valB (s.drop 4) then some (valB (s.drop 4)) else none) := by
      show numB s = _
      unfold numB
      simp only [htk, true_and]
    have HL : Hid ((s.drop 4).length + 4 = s.length) := by show _ = _; rw [List.length_drop]; omega
    generalize s.drop 4 = L at *
    clear hp htr htk e1 e2
    by_cases h8 : L.length = 8
    · have HN2 : Hid (numB s = if L.all isDig = true ∧ 0 < valB L then some (valB L) else none) := by
        show numB s = _
        rw [HN.out]
        simp only [show s.length = 12 by have := HL.out; omega, true_and]
      have hq : ((L.length : Int) != 8) = false := by simp; omega
      clear HN hle
      go_enter Tryz.func78, Tryz.ntmps78
      go_wp2_with (go_at_call 139; refine hcut.mono ?_; rintro e w1 ⟨rfl, rfl⟩)
      go_loopw [6] (fun n wr => ∃ k : Nat, k ≤ 8 ∧ n = .int .i64 (valB (L.take k) : Nat) ∧ (L.take k).all isDig = true ∧ wr = w1.iter ⟨L.toArray⟩ k) (fun _ wr => 8 - wr.iterPos w1.heap.size)
      case atStart => exact ⟨0, by omega, rfl, rfl, rfl⟩
      case round =>
        obtain ⟨k, hk, rfl, hall, rfl⟩ := hrel
        have HA : Hid ((L.take k).all isDig = true) := hall
        clear hall
        by_cases hlt : k < 8
        · have hks : k < (ByteArray.mk L.toArray).size := by show k < L.toArray.size; simp; omega
          have hkl : k < L.length := by omega
          have HT : Hid (L.take (k + 1) = L.take k ++ [L[k]]) := List.take_succ_eq_append_getElem hkl
          have hget : (ByteArray.mk L.toArray)[k]'hks = L[k] := rfl
          have HX : Hid (L[k]? = some L[k]) := by show L[k]? = _; simp [hkl]
          have hno : isDig L[k] = false → Hid (numB s = none) := fun h => by
            show numB s = none
            rw [HN2.out, if_neg]
            rintro ⟨ha, _⟩
            have := List.all_eq_true.1 ha L[k] (List.getElem_mem hkl)
            rw [h] at this
            cases this
          have hvl := valB_lt (L.take k) HA.out
          rw [List.length_take, show min k L.length = k by omega] at hvl
          have hv7 : valB (L.take k) < 10000000 := Nat.lt_of_lt_of_le hvl (Nat.pow_le_pow_right (by decide) (show k ≤ 7 by omega))
          clear hvl
          have HV : Hid (valB (L.take (k + 1)) = 10 * valB (L.take k) + (L[k].toNat - 48)) := by show _ = _; rw [HT.out, valB_snoc]
          have HA2 : isDig L[k] = true → Hid ((L.take (k + 1)).all isDig = true) := fun h => by show _ = _; rw [HT.out, List.all_append, HA.out]; simp [h]
          generalize valB (L.take k) = V at *
          by_cases ha : L[k].toNat < 128
          · have hnx : ∀ ty, (Instr.next (.pointer (some ⟨w1.heap.size, 0, none⟩)) true ty).run Tryz.prog (w1.iter ⟨L.toArray⟩ k) = _ := fun ty => run_next_ascii w1 ⟨L.toArray⟩ k ty hks (by rw [hget]; exact ha)
            rw [hget] at hnx
            clear hget HX
            generalize hc : L[k] = c at *
            clear hc
            by_cases hd1 : c.toNat < 48
            · have HE := hno (by simp [isDig]; omega)
              have d1 : (c.toNat : Int) < 48 := by omega
              clear hno HA2 HV
              generalize c.toNat = cn at *
              go_wp2
              go_ret2
              exact ⟨by rw [HE.out] <;> rfl, iter_below _ _ _⟩
            · have d1 : ¬ (c.toNat : Int) < 48 := by omega
              by_cases hd2 : 57 < c.toNat
              · have HE := hno (by simp [isDig]; omega)
                have d2 : (57 : Int) < (c.toNat : Int) := by omega
                clear hno HA2 HV
                generalize c.toNat = cn at *
                go_wp2
                go_ret2
                exact ⟨by rw [HE.out] <;> rfl, iter_below _ _ _⟩
              · have d2 : ¬ (57 : Int) < (c.toNat : Int) := by omega
                have HA3 := HA2 (by simp [isDig]; omega)
                clear hno HA2
                generalize c.toNat = cn at *
                go_wp2
                go_roundw
                case rel => exact ⟨k + 1, by omega, by rw [HV.out]; go_num, HA3.out, rfl⟩
                case measure => simp; omega
          · have hnx : ∀ ty, (Instr.next (.pointer (some ⟨w1.heap.size, 0, none⟩)) true ty).run Tryz.prog (w1.iter ⟨L.toArray⟩ k) = _ := fun ty => run_next_any w1 ⟨L.toArray⟩ k ty hks
            have HE := hno (by simp [isDig]; omega)
            have hdh := (decode_high ⟨L.toArray⟩ k hks (by rw [hget]; omega)).1
            clear hno HA2 HV hget
            generalize (Utf8.decode ⟨L.toArray⟩ k).1 = r at *
            generalize k + (Utf8.decode ⟨L.toArray⟩ k).2 = k2 at *
            have d1 : ¬ (r : Int) < 48 := by omega
            have d2 : (57 : Int) < (r : Int) := by omega
            go_wp2
            go_ret2
            exact ⟨by rw [HE.out] <;> rfl, iter_below _ _ _⟩
        · obtain rfl : k = 8 := by omega
          have hnx : ∀ ty, (Instr.next (.pointer (some ⟨w1.heap.size, 0, none⟩)) true ty).run Tryz.prog (w1.iter ⟨L.toArray⟩ 8) = _ := fun ty => run_next_end w1 ⟨L.toArray⟩ 8 ty (by show ¬ 8 < L.toArray.size; simp; omega)
          have htk : L.take 8 = L := List.take_of_length_le (by omega)
          have HE : Hid (numB s = if 0 < valB (L.take 8) then some (valB (L.take 8)) else none) := by
            have h := HA.out
            rw [htk] at h
            show numB s = _
            rw [HN2.out, htk, h]
            simp only [true_and]
          clear HN2 htk
          have hvl := valB_lt (L.take 8) HA.out
          rw [List.length_take, show min 8 L.length = 8 by omega] at hvl
          clear HA
          generalize valB (L.take 8) = V at *
          by_cases hz : 0 < V
          · have HE2 : Hid (numB s = some V) := by show numB s = _; rw [HE.out, if_pos hz]
            have d1 : (0 : Int) < (V : Int) := by omega
            clear HE
            go_wp2
            go_ret2
            exact ⟨by rw [HE2.out] <;> rfl, iter_below _ _ _⟩
          · obtain rfl : V = 0 := by omega
            have HE2 : Hid (numB s = none) := by show numB s = _; rw [HE.out, if_neg hz]
            clear HE
            go_wp2
            go_ret2
            exact ⟨by rw [HE2.out] <;> rfl, iter_below _ _ _⟩
    · have HN2 : Hid (numB s = none) := by
        show numB s = _
        rw [HN.out, if_neg (by have := HL.out; omega)]
      have hq : ((L.length : Int) != 8) = true := by simp; omega
      clear HN hle h8
      go_enter Tryz.func78, Tryz.ntmps78
      go_wp2_with (go_at_call 139; refine hcut.mono ?_; rintro e w1 ⟨rfl, rfl⟩)
      go_ret2
      exact ⟨by rw [HN2.out] <;> rfl, Below.refl _ _⟩
  · have hpf : Lib.hasPrefix s pre4 = false := by simpa using hp
    have HN : Hid (numB s = none) := by
      show numB s = none
      unfold numB
      rw [if_neg]
      rintro ⟨_, h, _⟩
      apply hp
      exact List.isPrefixOf_iff_prefix.2 (h ▸ List.take_prefix 4 s)
    rw [hpf] at hcut
    clear hp hpf e1 e2
    generalize Lib.trimPrefix s pre4 = L at *
    go_enter Tryz.func78, Tryz.ntmps78
    go_wp2_with (go_at_call 139; refine hcut.mono ?_; rintro e w1 ⟨rfl, rfl⟩)
    go_ret2
    exact ⟨by rw [HN.out] <;> rfl, Below.refl _ _⟩

end Go.Proofs.YtepceidajmedeaaGreatDoor

namespace Go.Proofs.YtepceidajmedeaaGreatDoor
open Go.RowKit CW

/-- Name, at any number. -/
theorem name7_all (n : Nat) (w : World) (hn : n ≤ 9223372036854775807) :
    Calls Tryz.prog 73 #[.int .i64 n] w fun e w' => ∃ x ok, e = .returned (.tuple #[.string ⟨x⟩, .bool ok]) ∧ w = w' ∧ ok = (decide (1 ≤ n) && decide (n ≤ 99999999)) ∧ (ok = true → x = (nameB n).toArray) := by
  refine (name7_any n w hn).mono ?_
  rintro e w' ⟨rfl, ⟨h1, h2, rfl⟩ | ⟨h, rfl⟩⟩
  · exact ⟨_, true, rfl, rfl, by simp [h1, h2], fun _ => rfl⟩
  · refine ⟨_, false, rfl, rfl, ?_, fun h => by cases h⟩
    rw [eq_comm, ← Bool.not_eq_true, Bool.and_eq_true, decide_eq_true_eq, decide_eq_true_eq]
    exact h

set_option maxHeartbeats 1000000 in
theorem number7_any (s : Bytes) (w : World) :
    Calls Tryz.prog 119 #[.string ⟨s.toArray⟩] w fun e w' => e = .returned (.tuple #[.int .i64 ((numB s).getD 0 : Nat), .bool (numB s).isSome]) ∧ w = w' := by
  by_cases hl : s.length = 12
  · have hq : ((s.length : Int) != 12) = false := by simp; omega
    have HL : Hid (s.length = 12) := hl
    have hsz : (ByteArray.mk s.toArray).size = 12 := by show s.toArray.size = 12; simpa using hl
    go_enter Tryz.func119, Tryz.ntmps119
    go_wp2
    go_loopw [4, 5] (fun n i wr => ∃ k : Nat, k ≤ 8 ∧ n = .int .i64 (valB ((s.drop 4).take k) : Nat) ∧ i = .int .i64 ((4 + k : Nat) : Int) ∧ ((s.drop 4).take k).all isDig = true ∧ wr = w) (fun _ i _ => 12 - (intOf i).toNat)
    case atStart => exact ⟨0, by omega, rfl, rfl, rfl, rfl⟩
    case round =>
      obtain ⟨k, hk, rfl, rfl, hall, rfl⟩ := hrel
      have HA : Hid (((s.drop 4).take k).all isDig = true) := hall
      clear hall
      by_cases hlt : k < 8
      · have hkl : k < (s.drop 4).length := by rw [List.length_drop]; omega
        have HT : Hid ((s.drop 4).take (k + 1) = (s.drop 4).take k ++ [(s.drop 4)[k]]) := List.take_succ_eq_append_getElem hkl
        have hno : isDig (s.drop 4)[k] = false → Hid (numB s = none) := fun h => by
          show numB s = none
          unfold numB
          rw [if_neg]
          rintro ⟨_, _, ha, _⟩
          have := List.all_eq_true.1 ha (s.drop 4)[k] (List.getElem_mem hkl)
          rw [h] at this
          cases this
        have hvl := valB_lt ((s.drop 4).take k) HA.out
        rw [List.length_take, show min k (s.drop 4).length = k by omega] at hvl
        have hv7 : valB ((s.drop 4).take k) < 10000000 := Nat.lt_of_lt_of_le hvl (Nat.pow_le_pow_right (by decide) (show k ≤ 7 by omega))
        clear hvl
        have HV : Hid (valB ((s.drop 4).take (k + 1)) = 10 * valB ((s.drop 4).take k) + ((s.drop 4)[k].toNat - 48)) := by show _ = _; rw [HT.out, valB_snoc]
        have HA2 : isDig (s.drop 4)[k] = true → Hid (((s.drop 4).take (k + 1)).all isDig = true) := fun h => by show _ = _; rw [HT.out, List.all_append, HA.out, Bool.true_and, List.all_cons, h]; rfl
        have hx : ∀ (h : 4 + k < (ByteArray.mk s.toArray).size), ((ByteArray.mk s.toArray)[4 + k]'h).toNat = (s.drop 4)[k].toNat := fun h => by simp; rfl
        generalize valB ((s.drop 4).take k) = V at *
        have i0 : (0 : Int) ≤ 4 + (k : Int) := by omega
        have i1 : 4 + (k : Int) < 12 := by omega
        have i2 : (4 + (k : Int)).toNat = 4 + k := by omega
        generalize hc : (s.drop 4)[k] = c at *
        clear hc HT HA hkl

        by_cases hd1 : c.toNat < 48
        · have HE := hno (by simp [isDig]; omega)
          have d1 : (c.toNat : Int) < 48 := by omega
          clear hno HA2 HV
          generalize c.toNat = cn at *
          go_wp2
          go_ret2
          exact ⟨by rw [HE.out] <;> rfl, rfl⟩
        · have d1 : ¬ (c.toNat : Int) < 48 := by omega
          by_cases hd2 : 57 < c.toNat
          · have HE := hno (by simp [isDig]; omega)
            have d2 : (57 : Int) < (c.toNat : Int) := by omega
            clear hno HA2 HV
            generalize c.toNat = cn at *
            go_wp2
            go_ret2
            exact ⟨by rw [HE.out] <;> rfl, rfl⟩
          · have d2 : ¬ (57 : Int) < (c.toNat : Int) := by omega
            have HA3 := HA2 (by simp [isDig]; omega)
            clear hno HA2
            generalize c.toNat = cn at *
            go_wp2
            go_roundw
            case rel => exact ⟨k + 1, by omega, by rw [HV.out]; go_num, by go_num, HA3.out, trivial⟩
            case measure => simp [intOf]; omega
      · obtain rfl : k = 8 := by omega
        have htk : (s.drop 4).take 8 = s.drop 4 := List.take_of_length_le (by rw [List.length_drop]; omega)
        have h := HA.out
        rw [htk] at h
        have HE : Hid (numB s = if 1 ≤ valB ((s.drop 4).take 8) ∧ nameB (valB ((s.drop 4).take 8)) = s then some (valB ((s.drop 4).take 8)) else none) := by
          show numB s = _
          rw [htk]
          exact numB_eq s hl h
        have hvl := valB_lt (s.drop 4) h
        rw [List.length_drop, hl, ← htk] at hvl
        clear htk h HA hlt
        generalize valB ((s.drop 4).take 8) = V at *
        have hV : V ≤ 99999999 := by omega
        go_wp2_with (go_at_call 73; refine (name7_all V _ (by omega)).mono ?_; rintro e w1 ⟨x, ok, rfl, rfl, hok, hx⟩; have HOK : Hid (ok = (decide (1 ≤ V) && decide (V ≤ 99999999))) := hok; clear hok; have HXX : Hid (ok = true → x = (nameB V).toArray) := hx; clear hx)
        · have ho : ok = true := by assumption
          have hne : (!(ByteArray.mk x).toList == s) = true := by assumption
          have h1 := HOK.out
          rw [ho, eq_comm, Bool.and_eq_true, decide_eq_true_eq, decide_eq_true_eq] at h1
          have hE : Hid (numB s = none) := by
            show numB s = none
            rw [HE.out, if_neg]
            rintro ⟨_, h⟩
            rw [HXX.out ho, h, ByteArray.toList_eq] at hne
            simp at hne
          go_ret2
          exact ⟨by rw [hE.out] <;> rfl, rfl⟩
        · have ho : ok = true := by assumption
          have hne : (!(ByteArray.mk x).toList == s) = false := by assumption
          have h1 := HOK.out
          rw [ho, eq_comm, Bool.and_eq_true, decide_eq_true_eq, decide_eq_true_eq] at h1
          have hE : Hid (numB s = some V) := by
            show numB s = some V
            rw [HXX.out ho, ByteArray.toList_eq] at hne
            simp at hne
            rw [HE.out, if_pos ⟨h1.1, hne⟩]
          go_ret2
          exact ⟨by rw [hE.out] <;> rfl, rfl⟩
        · have ho : ¬ ok = true := by assumption
          have hE : Hid (numB s = none) := by
            show numB s = none
            rw [HE.out, if_neg]
            rintro ⟨h, _⟩
            apply ho
            rw [HOK.out, decide_eq_true h, decide_eq_true hV]; rfl
          go_ret2
          exact ⟨by rw [hE.out] <;> rfl, rfl⟩
  · have hq : ((s.length : Int) != 12) = true := by simp; omega
    have HE : Hid (numB s = none) := by show numB s = none; unfold numB; rw [if_neg (fun h => hl h.1)]
    clear hl
    go_enter Tryz.func119, Tryz.ntmps119
    go_wp2
    go_ret2
    exact ⟨by rw [HE.out] <;> rfl, rfl⟩

end Go.Proofs.YtepceidajmedeaaGreatDoor

namespace Go.Proofs.YtepceidajmedeaaGreatDoor
open Go.RowKit CW

def ints (zs : List Int) : List Value := zs.map (Value.int .i64)

theorem sortI_own {base n : Nat} (v : Value) (zs : List Int) (w : World) (h : w.ownsRow base 3 1 v n (ints zs)) (hsz : n < 4611686018427387904) :
    Calls Tryz.prog 77 #[v] w fun e w' => e = .returned (.tuple #[]) ∧ w'.ownsRow base 3 1 v n (ints (zs.mergeSort fun x y => decide (x ≤ y))) ∧ w.grownBy w' v.ownBlock := by
  have hlen : zs.length = n := by have := h.1; simpa [ints] using this
  by_cases hv : v = .slice none 0 0
  · subst hv
    rcases h.2 with ⟨_, rfl⟩ | ⟨g, cap, cur, hv, _⟩
    · have hz : zs = [] := List.length_eq_zero_iff.1 hlen
      subst hz
      refine (Tryz.slices_Sort_int_none none 0 w).mono ?_
      rintro e w' ⟨rfl, rfl⟩
      exact ⟨rfl, by rw [List.mergeSort_nil]; exact h, World.grownBy.refl _ _⟩
    · cases hv
  · obtain ⟨g, cap, rfl, hb, hlt, hn, hm, hl, hH⟩ := Lib.holds_of_ownsRow h hv
    subst hlen
    refine (Tryz.slices_Sort_int g 0 cap zs w hH hlt (by omega)).mono ?_
    rintro e w' ⟨rfl, k, os, rfl⟩
    refine ⟨rfl, ?_, Go.grownBy_sortedI _⟩
    rcases h.2 with ⟨hv, _⟩ | ⟨g', cap', cur, hv, hg, hh, hn', hm', hsz', ht⟩
    · cases hv
    · cases hv
      exact Go.ownsRow_sortedI (by rw [List.length_mergeSort]) hg hh hn' hm' hsz'

theorem compactI_own {base n : Nat} (v : Value) (zs : List Int) (w : World) (h : w.ownsRow base 3 1 v n (ints zs)) (hsz : n ≤ 9223372036854775807) :
    Calls Tryz.prog 79 #[v] w fun e w' => ∃ v', e = .returned v' ∧ w'.ownsRow base 3 1 v' (Lib.compact zs).length (ints (Lib.compact zs)) ∧ w.grownBy w' v.ownBlock := by
  have hlen : zs.length = n := by have := h.1; simpa [ints] using this
  by_cases hv : v = .slice none 0 0
  · subst hv
    rcases h.2 with ⟨_, rfl⟩ | ⟨g, cap, cur, hv, _⟩
    · have hz : zs = [] := List.length_eq_zero_iff.1 hlen
      subst hz
      refine (Tryz.slices_Compact_int_empty none 0 w).mono ?_
      rintro e w' ⟨rfl, rfl⟩
      exact ⟨_, rfl, h, World.grownBy.refl _ _⟩
    · cases hv
  · obtain ⟨g, cap, rfl, hb, hlt, hn, hm, hl, hH⟩ := Lib.holds_of_ownsRow h hv
    subst hlen
    have hle : (Lib.compact zs).length ≤ zs.length := Lib.compact_length_le zs
    refine (Tryz.slices_Compact_int g 0 cap zs w hH hsz hn).mono ?_
    rintro e w' ⟨rfl, k, rfl⟩
    refine ⟨_, rfl, ?_, ?_⟩
    · have h2 := Lib.ownsRow_putRow (q := k) (k := (Lib.compact zs).length) (ys := Lib.compact zs ++ List.replicate (zs.length - (Lib.compact zs).length) 0) h (by simp; omega) hle
      rw [List.take_left] at h2
      exact h2
    · have h3 := Go.grownBy_sortedI (w := w) (g := g) (n := k) (os := #[]) (Lib.compact zs ++ List.replicate (zs.length - (Lib.compact zs).length) 0).toArray
      rwa [Sort.grow_empty] at h3

theorem tyI : SlTy Tryz.prog 45 3 1 8 (.int .i64 0) := SlTy.mk' Tryz.underlying45 (by kernel_rfl) rfl (by decide)

/-- A slice of strings. -/
def SlS (M : Nat → Prop) (w : World) (v : Value) (ss : List Bytes) : Prop := Row M w v ss.length (ss.map stV)

/-- The numbers of the segments among some names. -/
def numsB (ss : List Bytes) : List Int := ss.filterMap (fun s => (numB s).map Int.ofNat)
def segsB (ss : List Bytes) : List Int := Lib.compact ((numsB ss).mergeSort fun x y => decide (x ≤ y))
theorem numsB_take (ss : List Bytes) (k : Nat) (h : k < ss.length) : numsB (ss.take (k + 1)) = numsB (ss.take k) ++ (match numB ss[k] with | some n => [(n : Int)] | none => []) := by
  unfold numsB
  rw [List.take_succ_eq_append_getElem h, List.filterMap_append]
  congr 1
  simp only [List.filterMap_cons, List.filterMap_nil]
  cases numB ss[k] <;> rfl
theorem numsB_len (ss : List Bytes) : (numsB ss).length ≤ ss.length := List.length_filterMap_le _ _

set_option maxHeartbeats 1000000 in
set_option maxRecDepth 100000 in
theorem seglist_any (v : Value) (ss : List Bytes) (w : World) (hv : SlS (fun _ => False) w v ss) (hl : ss.length ≤ 4398046511104) :
    Calls Tryz.prog 24 #[v] w fun e w' => ∃ v', e = .returned v' ∧ w'.ownsRow w.heap.size 3 1 v' (segsB ss).length (ints (segsB ss)) ∧ Below w.heap.size w w' := by
  obtain ⟨a, cap, rfl, hn, hc, hnone, hcell⟩ := Row.open hv
  go_enter Tryz.func24, Tryz.ntmps24
  go_wp2
  go_loopw [3, 10] (fun out i wr => ∃ k : Nat, k ≤ ss.length ∧ i = .int .i64 k ∧ wr.ownsRow w.heap.size 3 1 out (numsB (ss.take k)).length (ints (numsB (ss.take k))) ∧ Below w.heap.size w wr) (fun _ i _ => ss.length - (intOf i).toNat)
  case atStart => exact ⟨0, by omega, rfl, World.ownsRow_nil _ _ _ _, Below.refl _ _⟩
  case round =>
    obtain ⟨k, hk, rfl, hown, hb⟩ := hrel
    by_cases hlt : k < ss.length
    · obtain ⟨b, off, rfl, hbl, _, hcc⟩ := hcell (by omega)
      have h1 := (hb.cell (p := ⟨b, off + k, none⟩) hbl).trans (hcc k (stV ss[k]) (by simp [hlt]))
      have HT : Hid (numsB (ss.take (k + 1)) = numsB (ss.take k) ++ (match numB ss[k] with | some n => [(n : Int)] | none => [])) := numsB_take ss k hlt
      have hnl : (numsB (ss.take k)).length ≤ 4398046511104 := Nat.le_trans (numsB_len _) (by rw [List.length_take]; omega)
      generalize hx : ss[k] = x at *
      clear hx hcc hcell
      unfold stV at h1
      have i1 : (k : Int) < (ss.length : Int) := by omega
      generalize numsB (ss.take k) = zs at *
      rcases hnum : numB x with _ | n
      · have HN : Hid (numB x = none) := hnum
        have hc1 := number_any x wr
        rw [hnum] at hc1
        have HT2 : Hid (numsB (ss.take (k + 1)) = zs) := by show _ = _; rw [HT.out, hnum, List.append_nil]
        clear hnum HT
        go_wp2_with (go_at_call 78; refine hc1.mono ?_; rintro e w1 ⟨rfl, hb1⟩; have hown1 := owns_below hown hb1; have hb2 := hb.trans (hb1.mono hb.size))
        go_roundw
        case rel => exact ⟨k + 1, by omega, by go_num, by rw [HT2.out]; exact hown1, hb2⟩
        case measure => simp [intOf]; omega
      · have HN : Hid (numB x = some n) := hnum
        have hc1 := number_any x wr
        rw [hnum] at hc1
        have HT2 : Hid (numsB (ss.take (k + 1)) = zs ++ [(n : Int)]) := by show _ = _; rw [HT.out, hnum]
        clear hnum HT
        go_wp2_with (first
          | (go_at_call 78; refine hc1.mono ?_; rintro e w1 ⟨rfl, hb1⟩; have hown1 := owns_below hown hb1; have hb2 := hb.trans (hb1.mono hb.size))
          | (at_builtin; refine wpList_app tyI rfl rfl rfl rfl (hown1.alloc _) (Row.lit1 w1 (.int .i64 (n : Nat)) 3) rfl (by intro u hu; simp at hu; subst hu; rfl) (by unfold maxLen; omega) (by omega) (by simp; have := hb2.size; omega) ?_; intro v2 w2 ho2 hg2))
        have hb3 : Below w.heap.size w w2 := (hb2.alloc hb2.size _).trans (below_grown (hown1.alloc _) hg2 (by simp; have := hb2.size; omega))
        go_roundw
        case rel => exact ⟨k + 1, by omega, by go_num, by rw [HT2.out]; simpa [ints] using ho2, hb3⟩
        case measure => simp [intOf]; omega
    · have htk : ss.take k = ss := List.take_of_length_le (by omega)
      have HS : Hid (segsB ss = Lib.compact ((numsB (ss.take k)).mergeSort fun x y => decide (x ≤ y))) := by show _ = _; rw [htk]; rfl
      have hnl : (numsB (ss.take k)).length ≤ 4398046511104 := Nat.le_trans (numsB_len _) (by rw [List.length_take]; omega)
      clear htk
      generalize numsB (ss.take k) = zs at *
      have hlm : (zs.mergeSort fun x y => decide (x ≤ y)).length = zs.length := List.length_mergeSort _
      go_wp2_with (first
        | (go_at_call 77; refine (sortI_own _ zs _ hown (by omega)).mono ?_; rintro e w1 ⟨rfl, ho1, hg1⟩; have hb1 := hb.trans (below_grown hown hg1 hb.size); generalize (zs.mergeSort fun x y => decide (x ≤ y)) = ys at *)
        | (go_at_call 79; refine (compactI_own _ ys _ ho1 (by omega)).mono ?_; rintro e w2 ⟨v2, rfl, ho2, hg2⟩; have hb2 := hb1.trans (below_grown ho1 hg2 hb1.size)))
      go_ret
      exact ⟨_, rfl, by rw [HS.out]; exact ho2, hb2⟩

end Go.Proofs.YtepceidajmedeaaGreatDoor

namespace Go.Proofs.YtepceidajmedeaaGreatDoor
open Go.RowKit CW

theorem cloneI_any (v : Value) (zs : List Int) (w : World) (hv : RowS (fun _ => False) w v zs.length (ints zs)) (hl : zs.length ≤ 4398046511104) :
    Calls Tryz.prog 76 #[v] w fun e w' => ∃ v', e = .returned v' ∧ w'.ownsRow w.heap.size 3 1 v' zs.length (ints zs) ∧ Below w.heap.size w w' := by
  rcases hv with ⟨rfl, hz, hz'⟩ | ⟨b, off, cap, rfl, hn, hc, hb, hm, hcell⟩
  · obtain rfl : zs = [] := List.length_eq_zero_iff.1 hz
    refine (Tryz.slices_Clone_int_nil 0 0 w).mono ?_
    rintro e w' ⟨rfl, rfl⟩
    exact ⟨_, rfl, World.ownsRow_nil _ _ _ _, Below.refl _ _⟩
  · refine (Tryz.slices_Clone_int b off zs.length cap zs w (Nat.le_refl _) (by omega) (fun j hj => ?_)).mono ?_
    · rw [hcell j (.int .i64 (zs.getD j 0)) (by simp [ints, hj])]
    · rintro e w' ⟨v', rfl, ho, _, hb'⟩
      rw [List.take_length] at ho
      exact ⟨v', rfl, ho, hb'⟩

/-- The first number that is missing in a sorted list. -/
def gapS : List Int → Int
  | a :: b :: r => if a + 1 < b then a + 1 else gapS (b :: r)
  | _ => 0
def gapB (zs : List Int) : Int := gapS (zs.mergeSort fun x y => decide (x ≤ y))

theorem gapS_drop (zs : List Int) (k : Nat) (h : k + 1 < zs.length) : gapS (zs.drop k) = if zs[k] + 1 < zs[k + 1] then zs[k] + 1 else gapS (zs.drop (k + 1)) := by
  rw [List.drop_eq_getElem_cons (by omega), List.drop_eq_getElem_cons (i := k + 1) (by omega)]
  rfl
theorem gapS_end (zs : List Int) (k : Nat) (h : zs.length ≤ k + 1) : gapS (zs.drop k) = 0 := by
  match h1 : zs.drop k with
  | [] => rfl
  | [a] => rfl
  | a :: b :: r =>
    have := congrArg List.length h1
    rw [List.length_drop] at this
    simp at this
    omega

set_option maxHeartbeats 1000000 in
set_option maxRecDepth 100000 in
theorem gap_any (v : Value) (zs : List Int) (w : World) (hv : RowS (fun _ => False) w v zs.length (ints zs)) (hl : zs.length ≤ 4398046511104) (hz : ∀ z ∈ zs, 0 ≤ z ∧ z ≤ 99999999) :
    Calls Tryz.prog 23 #[v] w fun e w' => e = .returned (.int .i64 (gapB zs)) ∧ Below w.heap.size w w' := by
  have hlm : (zs.mergeSort fun x y => decide (x ≤ y)).length = zs.length := List.length_mergeSort _
  have hzm : ∀ z ∈ zs.mergeSort fun x y => decide (x ≤ y), 0 ≤ z ∧ z ≤ 99999999 := fun z h => hz z (List.mem_mergeSort.1 h)
  have HG : Hid (gapB zs = gapS (zs.mergeSort fun x y => decide (x ≤ y))) := rfl
  have hv2 : ∀ u w1, w1.ownsRow w.heap.size 3 1 u zs.length (ints zs) → Calls Tryz.prog 77 #[u] w1 fun e w' => e = .returned (.tuple #[]) ∧ w'.ownsRow w.heap.size 3 1 u zs.length (ints (zs.mergeSort fun x y => decide (x ≤ y))) ∧ w1.grownBy w' u.ownBlock := fun u w1 h => sortI_own u zs w1 h (by omega)
  generalize (zs.mergeSort fun x y => decide (x ≤ y)) = ys at *
  go_enter Tryz.func23, Tryz.ntmps23
  go_wp2_with (first
    | (go_at_call 76; refine (cloneI_any _ zs _ hv hl).mono ?_; rintro e w1 ⟨v1, rfl, ho1, hb1⟩)
    | (go_at_call 77; refine (hv2 _ _ ho1).mono ?_; rintro e w2 ⟨rfl, ho2, hg2⟩; have hb2 := hb1.trans (below_grown ho1 hg2 hb1.size); have hr := Row.of_owns ho2; obtain ⟨a1, cap1, rfl, hn1, hc1, hnone1, hcell1⟩ := hr.open))
  have hmax : max ((zs.length : Int) - 1) 0 = ((zs.length - 1 : Nat) : Int) := by omega
  rw [hmax]
  obtain ⟨m, hm⟩ : ∃ m, zs.length - 1 = m := ⟨_, rfl⟩
  have hm2 : m + 1 ≤ zs.length ∨ m = 0 := by omega
  have hm3 : zs.length ≤ m + 1 := by omega
  rw [hm]
  clear hmax hm
  go_loopw [13] (fun i wr => ∃ k : Nat, k ≤ m ∧ i = .int .i64 k ∧ gapB zs = gapS (ys.drop k) ∧ wr = w2) (fun i _ => m - (intOf i).toNat)
  case atStart => exact ⟨0, by omega, rfl, HG.out, rfl⟩
  case round =>
    obtain ⟨k, hk, rfl, hg, rfl⟩ := hrel
    have HGK : Hid (gapB zs = gapS (ys.drop k)) := hg
    clear hg
    by_cases hlt : k < m
    · obtain ⟨b, off, rfl, hbl, _, hcc⟩ := hcell1 (by omega)
      have hk1 : k + 1 < ys.length := by omega
      have h1 := hcc k (.int .i64 ys[k]) (by simp [ints, show k < ys.length by omega])
      have h2 := hcc (k + 1) (.int .i64 ys[k + 1]) (by simp [ints, hk1])
      have HD : Hid (gapS (ys.drop k) = if ys[k] + 1 < ys[k + 1] then ys[k] + 1 else gapS (ys.drop (k + 1))) := gapS_drop ys k hk1
      have b1 := hzm ys[k] (List.getElem_mem _)
      have b2 := hzm ys[k + 1] (List.getElem_mem _)
      generalize ys[k] = x at *
      generalize ys[k + 1] = y at *
      clear hcc hcell1 hzm
      have i1 : (k : Int) < (m : Int) := by omega
      have i2 : (k : Int) < (zs.length : Int) := by omega
      have i3 : (k : Int) + 1 < (zs.length : Int) := by omega
      have i4 : x < x + 1 := by omega
      by_cases hxy : x + 1 < y
      · go_wp2
        go_ret
        exact ⟨by rw [HGK.out, HD.out, if_pos hxy] <;> rfl, hb2⟩
      · go_wp2
        go_roundw
        case rel => exact ⟨k + 1, by omega, by go_num, by rw [HGK.out, HD.out, if_neg hxy], trivial⟩
        case measure => simp [intOf]; omega
    · have HE : Hid (gapB zs = 0) := by show gapB zs = 0; rw [HGK.out]; exact gapS_end ys k (by omega)
      go_wp2
      go_ret
      exact ⟨by rw [HE.out] <;> rfl, hb2⟩

end Go.Proofs.YtepceidajmedeaaGreatDoor

namespace CW
open Go Go.RowKit

theorem wpH_app {P : Program} {t e : TypeId} {size bytes : Nat} {z : Value} (T : SlTy P t e size bytes z) {w : World} {o : Oper} {a : Act} {K : Act → World → Prop} {Q : Exit → Act → World → Prop} {b : Bool} (hb : b = true) {E : Prop} {s x : Operand}
    (ho : o.op = .call { callee := .builtin .append, args := #[s, x], argTypes := #[t, t] }) {v vx : Value} (hs : a.eval s = v) (hx : a.eval x = vx)
    {base n : Nat} {xs : List Value} (hown : w.ownsRow base e size v n xs)
    {M : Nat → Prop} {m : Nat} {news : List Value} (hrow : Row M w vx m news) (hl : news.length = m * size) (h1 : ∀ u ∈ news, u.oneCell' = true)
    (h63 : n + m ≤ maxLen) (hbytes : (n + m) * bytes ≤ 140737488355328) (hbase : base ≤ w.heap.size)
    (h : ∀ v' w', w'.ownsRow base e size v' (n + m) (xs ++ news) → w.grownBy w' v.ownBlock → K (a.put o.dst v') w') : if b = true then Oper.wp P o a w K Q else E := by
  rw [if_pos hb]
  obtain ⟨v', w', hr, h2, h3⟩ := run_app T w o.type base v n xs hown hrow hl h1 h63 hbytes hbase
  unfold Oper.wp execOp
  simp only [ho, resolve, invoke, builtin, Sem.run_bind, Sem.run_pure, Result.andThen_ok, List.map_toArray, List.map_cons, List.map_nil, hs, hx, hr]
  exact h v' w' h2 h3

theorem wpH_appB {P : Program} {t e : TypeId} {size bytes : Nat} {z : Value} (T : SlTy P t e size bytes z) {w : World} {o : Oper} {a : Act} {K : Act → World → Prop} {Q : Exit → Act → World → Prop} {b : Bool} (hb : b = true) {E : Prop} {s x : Operand}
    (ho : o.op = .call { callee := .builtin .append, args := #[s, x], argTypes := #[t, t] }) {v vx : Value} (hs : a.eval s = v) (hx : a.eval x = vx)
    {base n : Nat} {xs : List Value} (hown : w.ownsRow base e size v n xs)
    {M : Nat → Prop} {m : Nat} {news : List Value} (hrow : Row M w vx m news) (hl : news.length = m * size) (h1 : ∀ u ∈ news, u.oneCell' = true)
    (h63 : n + m ≤ maxLen) (hbytes : (n + m) * bytes ≤ 140737488355328) (hbase : base ≤ w.heap.size)
    (h : ∀ v' w', w'.ownsRow base e size v' (n + m) (xs ++ news) → w.grownBy w' v.ownBlock → Below base w w' → K (a.put o.dst v') w') : if b = true then Oper.wp P o a w K Q else E :=
  wpH_app T hb ho hs hx hown hrow hl h1 h63 hbytes hbase fun v' w' h2 h3 => h v' w' h2 h3 (below_grown hown h3 hbase)

theorem Row.drew {M : Nat → Prop} {w : World} {v : Value} {n : Nat} {cs : List Value} (h : Row M w v n cs) : Row M w.drew v n cs := h.below ⟨rfl, rfl, rfl, Nat.le_refl _, fun _ _ => rfl⟩
/-- A literal's row, behind an append elsewhere. -/
theorem Row.grown {M : Nat → Prop} {w w' : World} {b : Option Nat} {g n cap : Nat} {cs : List Value} (h : Row M w (.slice (some ⟨g, 0, none⟩) n cap) n cs) (hg : w.grownBy w' b) (hne : some g ≠ b) : Row M w' (.slice (some ⟨g, 0, none⟩) n cap) n cs := by
  rcases h with ⟨⟨a0, h⟩, h0, h1⟩ | ⟨b', off, cap', h, hn, hc, hb, hm, hcell⟩
  · cases h
    exact .inl ⟨⟨_, rfl⟩, h0, h1⟩
  · cases h
    refine .inr ⟨g, 0, cap, rfl, hn, hc, Nat.lt_of_lt_of_le hb hg.size, hm, fun j u hu => ?_⟩
    rw [World.cell?_of_block (w := w) (a := ⟨g, 0 + j, none⟩) (hg.block g hb hne)]
    exact hcell j u hu

theorem SlTy.size_run {P : Program} {t e : TypeId} {size bytes : Nat} {z : Value} (T : SlTy P t e size bytes z) (W : World) : (Go.sizeOf e).run P W = .ok size W := by
  obtain ⟨i, hi, _, hs, _⟩ := T.info
  simp [Go.sizeOf, typeInfo, hi, hs]

theorem Row.cap_le {M : Nat → Prop} {w : World} {a : Option Addr} {n cap : Nat} {cs : List Value} (h : Row M w (.slice a n cap) n cs) : n ≤ cap ∧ (a = none → n = 0 ∧ cap = 0) := by
  rcases h with ⟨⟨a0, h⟩, h0, h1⟩ | ⟨b, off, cap', h, hn, hc, hb, hm, hcell⟩
  · cases h; exact ⟨Nat.le_refl _, fun _ => ⟨rfl, rfl⟩⟩
  · cases h; exact ⟨hn, fun h => by cases h⟩

/-- 's[:k]'. -/
theorem run_upto {P : Program} {t e : TypeId} {size bytes : Nat} {z : Value} (T : SlTy P t e size bytes z) {M : Nat → Prop} {w : World} {a : Option Addr} {n cap : Nat} {cs : List Value} (h : Row M w (.slice a n cap) n cs) (k : Nat) (hk : k ≤ n) (hcl : cs.length = n * size) :
    (∀ W, (Instr.sliceAt t (.slice a n cap) none (some (.int .i64 (k : Int))) none).run P W = .ok (.slice a k cap) W) ∧ Row M w (.slice a k cap) k (cs.take (k * size)) := by
  rcases h with ⟨⟨a0, h⟩, h0, h1⟩ | ⟨b, off, cap', h, hn, hc, hb, hm, hcell⟩
  · cases h
    obtain rfl : k = 0 := by omega
    refine ⟨fun W => ?_, .inl ⟨⟨_, rfl⟩, rfl, by simp [h1]⟩⟩
    cases a <;> simp [Instr.sliceAt, Instr.slice, Instr.sliceBounds, run_underlying T.ht, T.size_run, asIntOf, Instr.sliceBound]
  · cases h
    refine ⟨fun W => ?_, .inr ⟨b, off, cap, rfl, by omega, hc, hb, hm, fun j u hu => hcell j u ?_⟩⟩
    · have g2 : k ≤ cap := by omega
      simp [Instr.sliceAt, Instr.slice, Instr.sliceBounds, run_underlying T.ht, T.size_run, asIntOf, Instr.sliceBound, g2]
      exact fun _ => Addr.add_lit ..
    · rw [List.getElem?_take] at hu
      split at hu
      · exact hu
      · cases hu

/-- 's[k:]'. -/
theorem run_after {P : Program} {t e : TypeId} {size bytes : Nat} {z : Value} (T : SlTy P t e size bytes z) {M : Nat → Prop} {w : World} {a : Option Addr} {n cap : Nat} {cs : List Value} (h : Row M w (.slice a n cap) n cs) (k : Nat) (hk : k ≤ n) (hcl : cs.length = n * size) :
    ∃ a' c', (∀ W, (Instr.sliceAt t (.slice a n cap) (some (.int .i64 (k : Int))) none none).run P W = .ok (.slice a' (n - k) c') W) ∧ Row M w (.slice a' (n - k) c') (n - k) (cs.drop (k * size)) := by
  rcases h with ⟨⟨a0, h⟩, h0, h1⟩ | ⟨b, off, cap', h, hn, hc, hb, hm, hcell⟩
  · cases h
    obtain rfl : k = 0 := by omega
    refine ⟨a, 0, fun W => ?_, .inl ⟨⟨_, rfl⟩, by simp, by simp [h1]⟩⟩
    cases a <;> simp [Instr.sliceAt, Instr.slice, Instr.sliceBounds, run_underlying T.ht, T.size_run, asIntOf, Instr.sliceBound]
  · cases h
    by_cases hck : cap = k
    · refine ⟨some ⟨b, off, none⟩, cap - k, fun W => ?_, ?_⟩
      · simp [Instr.sliceAt, Instr.slice, Instr.sliceBounds, run_underlying T.ht, T.size_run, asIntOf, Instr.sliceBound, hck]
        omega
      · obtain rfl : n = k := by omega
        refine .inr ⟨b, off, cap - n, rfl, by simp, by omega, hb, hm, fun j u hu => ?_⟩
        rw [List.drop_eq_nil_of_le (by omega)] at hu
        simp at hu
    · refine ⟨some ⟨b, off + k * size, none⟩, cap - k, fun W => ?_, ?_⟩
      · simp [Instr.sliceAt, Instr.slice, Instr.sliceBounds, run_underlying T.ht, T.size_run, asIntOf, Instr.sliceBound, hck, Addr.add_lit]
        omega
      · refine .inr ⟨b, off + k * size, cap - k, rfl, by omega, by omega, hb, hm, fun j u hu => ?_⟩
        rw [List.getElem?_drop] at hu
        rw [Nat.add_assoc]
        exact hcell _ u hu

end CW

namespace Go.Proofs.YtepceidajmedeaaGreatDoor
open Go.RowKit CW

set_option maxHeartbeats 400000 in
theorem has7_any (v : Value) (zs : List Int) (x : Int) (w : World) (hv : Row (fun _ => False) w v zs.length (ints zs)) :
    Calls Tryz.prog 135 #[v, .int .i64 x] w fun e w' => e = .returned (.bool (decide (x ∈ zs))) ∧ w = w' := by
  obtain ⟨a, cap, rfl, hn, hc, hnone, hcell⟩ := Row.open hv
  go_enter Tryz.func135, Tryz.ntmps135
  go_wp2
  go_loopw [5] (fun i wr => ∃ k : Nat, k ≤ zs.length ∧ i = .int .i64 k ∧ x ∉ zs.take k ∧ wr = w) (fun i _ => zs.length - (intOf i).toNat)
  case atStart => exact ⟨0, by omega, rfl, by simp, rfl⟩
  case round =>
    obtain ⟨k, hk, rfl, hnot, rfl⟩ := hrel
    have HNOT : Hid (x ∉ zs.take k) := hnot
    clear hnot
    by_cases hlt : k < zs.length
    · obtain ⟨b, off, rfl, hbl, _, hcc⟩ := hcell (by omega)
      have h1 := hcc k (.int .i64 zs[k]) (by simp [ints, hlt])
      have HT : Hid (zs.take (k + 1) = zs.take k ++ [zs[k]]) := List.take_succ_eq_append_getElem hlt
      have HM : Hid (zs[k] ∈ zs) := List.getElem_mem hlt
      generalize zs[k] = y at *
      clear hcc hcell
      have i1 : (k : Int) < (zs.length : Int) := by omega
      by_cases hxy : y = x
      · have HE : Hid (decide (x ∈ zs) = true) := by show _ = _; rw [decide_eq_true (hxy ▸ HM.out)]
        have hd : (y == x) = true := by simp [hxy]
        clear hxy
        go_wp2
        go_ret
        exact ⟨by rw [HE.out] <;> rfl, rfl⟩
      · have HN : Hid (x ∉ zs.take (k + 1)) := by
          show _
          rw [HT.out, List.mem_append]
          rintro (h | h)
          · exact HNOT.out h
          · simp at h; exact hxy h.symm
        have hd : (y == x) = false := by simp [hxy]
        clear hxy
        go_wp2
        go_roundw
        case rel => exact ⟨k + 1, by omega, by go_num, HN.out, trivial⟩
        case measure => simp [intOf]; omega
    · have HE : Hid (decide (x ∈ zs) = false) := by
        show _ = _
        have h := HNOT.out
        rw [List.take_of_length_le (by omega)] at h
        exact decide_eq_false h
      go_wp2
      go_ret
      exact ⟨by rw [HE.out] <;> rfl, rfl⟩

/-- A number, laid into a sorted list. -/
def insU (zs : List Int) (n : Int) : List Int := if n ∈ zs then zs else zs.takeWhile (fun z => decide (z < n)) ++ n :: zs.dropWhile (fun z => decide (z < n))
def list7 (ss : List Bytes) : List Int := ss.foldl (fun zs s => match numB s with | some n => insU zs n | none => zs) []
theorem list7_take (ss : List Bytes) (k : Nat) (h : k < ss.length) : list7 (ss.take (k + 1)) = match numB ss[k] with | some n => insU (list7 (ss.take k)) n | none => list7 (ss.take k) := by
  unfold list7
  rw [List.take_succ_eq_append_getElem h, List.foldl_append]
  rfl
theorem insU_len (zs : List Int) (n : Int) : (insU zs n).length ≤ zs.length + 1 := by
  unfold insU
  split
  · omega
  · have h : (zs.takeWhile (fun z => decide (z < n)) ++ zs.dropWhile (fun z => decide (z < n))).length = zs.length := congrArg List.length List.takeWhile_append_dropWhile
    rw [List.length_append] at h
    rw [List.length_append, List.length_cons]
    omega
theorem list7_len (ss : List Bytes) : (list7 ss).length ≤ ss.length := by
  suffices H : ∀ (ss : List Bytes) (zs : List Int), (ss.foldl (fun zs s => match numB s with | some n => insU zs n | none => zs) zs).length ≤ zs.length + ss.length by
    have := H ss []
    simpa [list7] using this
  intro ss
  induction ss with
  | nil => intro zs; simp
  | cons s ss ih =>
    intro zs
    rw [List.foldl_cons, List.length_cons]
    refine Nat.le_trans (ih _) ?_
    split
    · have := insU_len zs (‹Nat› : Int); omega
    · omega

theorem takeWhile_at (zs : List Int) (n : Int) (j : Nat) (hj : j ≤ zs.length) (h1 : (zs.take j).all (fun z => decide (z < n)) = true) (h2 : ∀ (h : j < zs.length), ¬ zs[j] < n) :
    zs.takeWhile (fun z => decide (z < n)) = zs.take j ∧ zs.dropWhile (fun z => decide (z < n)) = zs.drop j := by
  induction zs generalizing j with
  | nil => simp
  | cons z zs ih =>
    cases j with
    | zero =>
      have h3 := h2 (by simp)
      rw [List.getElem_cons_zero] at h3
      rw [List.takeWhile_cons, List.dropWhile_cons, decide_eq_false h3]
      exact ⟨rfl, rfl⟩
    | succ j =>
      simp only [List.take_succ_cons, List.all_cons, Bool.and_eq_true] at h1
      obtain ⟨i1, i2⟩ := ih j (by simpa using hj) h1.2 (fun h => h2 (by simpa using h))
      rw [List.takeWhile_cons, List.dropWhile_cons, h1.1]
      simp [i1, i2]

set_option maxHeartbeats 2000000 in
set_option maxRecDepth 100000 in
theorem list7_any (v : Value) (ss : List Bytes) (w : World) (hv : SlS (fun _ => False) w v ss) (hl : ss.length ≤ 4398046511104) :
    Calls Tryz.prog 72 #[v] w fun e w' => ∃ v', e = .returned v' ∧ w'.ownsRow w.heap.size 3 1 v' (list7 ss).length (ints (list7 ss)) ∧ Below w.heap.size w w' := by
  obtain ⟨a, cap, rfl, hn, hc, hnone, hcell⟩ := Row.open hv
  go_enter Tryz.func72, Tryz.ntmps72
  go_wp2
  go_loopw [3, 4] (fun out i wr => ∃ k : Nat, k ≤ ss.length ∧ i = .int .i64 k ∧ wr.ownsRow w.heap.size 3 1 out (list7 (ss.take k)).length (ints (list7 (ss.take k))) ∧ Below w.heap.size w wr) (fun _ i _ => ss.length - (intOf i).toNat)
  case atStart => exact ⟨0, by omega, rfl, World.ownsRow_nil _ _ _ _, Below.refl _ _⟩
  case round =>
    obtain ⟨k, hk, rfl, hown, hb⟩ := hrel
    by_cases hlt : k < ss.length
    · obtain ⟨b, off, rfl, hbl, _, hcc⟩ := hcell (by omega)
      have h1 := (hb.cell (p := ⟨b, off + k, none⟩) hbl).trans (hcc k (stV ss[k]) (by simp [hlt]))
      have HT : Hid (list7 (ss.take (k + 1)) = match numB ss[k] with | some n => insU (list7 (ss.take k)) n | none => list7 (ss.take k)) := list7_take ss k hlt
      have hnl : (list7 (ss.take k)).length ≤ 4398046511104 := Nat.le_trans (list7_len _) (by rw [List.length_take]; omega)
      generalize hx : ss[k] = x at *
      clear hx hcc hcell
      unfold stV at h1
      have i1 : (k : Int) < (ss.length : Int) := by omega
      generalize list7 (ss.take k) = zs at *
      rcases hnum : numB x with _ | n
      · have hc1 := number7_any x wr
        rw [hnum] at hc1
        have HT2 : Hid (list7 (ss.take (k + 1)) = zs) := by show _ = _; rw [HT.out, hnum]
        clear hnum HT
        go_wp2_with (go_at_call 119; refine hc1.mono ?_; rintro e w1 ⟨rfl, rfl⟩)
        go_roundw
        case rel => exact ⟨k + 1, by omega, by go_num, by rw [HT2.out]; exact hown, hb⟩
        case measure => simp [intOf]; omega
      · have hc1 := number7_any x wr
        rw [hnum] at hc1
        have hrow := Row.of_owns hown
        by_cases hmem : (n : Int) ∈ zs
        · have hc2 := has7_any _ zs (n : Int) wr (hrow.mono (fun _ _ h => h.elim))
          rw [decide_eq_true hmem] at hc2
          have HT2 : Hid (list7 (ss.take (k + 1)) = zs) := by show _ = _; rw [HT.out, hnum]; exact if_pos hmem
          clear hnum HT hmem hrow
          go_wp2_with (first
            | (go_at_call 119; refine hc1.mono ?_; rintro e w1 ⟨rfl, rfl⟩)
            | (go_at_call 135; refine hc2.mono ?_; rintro e w1 ⟨rfl, rfl⟩))
          go_roundw
          case rel => exact ⟨k + 1, by omega, by go_num, by rw [HT2.out]; exact hown, hb⟩
          case measure => simp [intOf]; omega
        · have hc2 := has7_any _ zs (n : Int) wr (hrow.mono (fun _ _ h => h.elim))
          rw [decide_eq_false hmem] at hc2
          have HT2 : Hid (list7 (ss.take (k + 1)) = zs.takeWhile (fun z => decide (z < (n : Int))) ++ (n : Int) :: zs.dropWhile (fun z => decide (z < (n : Int)))) := by show _ = _; rw [HT.out, hnum]; exact if_neg hmem
          clear hnum HT hmem
          obtain ⟨az, cz, rfl, hz1, hz2, hz3, hz4⟩ := hrow.open
          go_wp2_with (first
            | (go_at_call 119; refine hc1.mono ?_; rintro e w1 ⟨rfl, rfl⟩)
            | (go_at_call 135; refine hc2.mono ?_; rintro e w1 ⟨rfl, rfl⟩))
          go_loopw [7] (fun at_ W => ∃ j : Nat, j ≤ zs.length ∧ at_ = .int .i64 j ∧ (zs.take j).all (fun z => decide (z < (n : Int))) = true ∧ W = wr) (fun at_ _ => zs.length - (intOf at_).toNat)
          case atStart => exact ⟨0, by omega, rfl, rfl, rfl⟩
          case round =>
            obtain ⟨j, hj, rfl, hall, rfl⟩ := hrel
            have HALL : Hid ((zs.take j).all (fun z => decide (z < (n : Int))) = true) := hall
            clear hall
            by_cases hjl : j < zs.length ∧ zs.getD j 0 < (n : Int)
            · obtain ⟨hj1, hj2⟩ := hjl
              obtain ⟨bz, oz, rfl, hbz, _, hcz⟩ := hz4 (by omega)
              have e1 : zs.getD j 0 = zs[j] := by simp [List.getD, hj1]
              rw [e1] at hj2
              have c1 := hcz j (.int .i64 zs[j]) (by simp [ints, hj1])
              have HT3 : Hid (zs.take (j + 1) = zs.take j ++ [zs[j]]) := List.take_succ_eq_append_getElem hj1
              clear e1 hcz hz4
              generalize zs[j] = y at *
              have HA : Hid ((zs.take (j + 1)).all (fun z => decide (z < (n : Int))) = true) := by show _ = _; rw [HT3.out, List.all_append, HALL.out]; simp [hj2]
              have i2 : (j : Int) < (zs.length : Int) := by omega
              go_wp2
              go_roundw
              case rel => exact ⟨j + 1, by omega, by go_num, HA.out, trivial⟩
              case measure => simp [intOf]; omega
            · have htw := takeWhile_at zs (n : Int) j hj HALL.out (fun h hlt => hjl ⟨h, by simpa [List.getD, h] using hlt⟩)
              have HT3 : Hid (list7 (ss.take (k + 1)) = zs.take j ++ (n : Int) :: zs.drop j) := by show _ = _; rw [HT2.out, htw.1, htw.2]
              clear htw HT2 HALL
              have hrw : Row (fun _ => False) wr (.slice az zs.length cz) zs.length (ints zs) := (Row.of_owns hown).mono (fun _ _ h => h.elim)
              obtain ⟨hup, hrup⟩ := run_upto tyI hrw j hj (by simp [ints])
              obtain ⟨ad, cd, hdn, hrdn⟩ := run_after tyI hrw j hj (by simp [ints])
              rw [Nat.mul_one, show (ints zs).take j = ints (zs.take j) from List.map_take.symm] at hrup
              rw [Nat.mul_one, show (ints zs).drop j = ints (zs.drop j) from List.map_drop.symm] at hrdn
              by_cases hj1 : j < zs.length
              · have hj2 : ¬ zs.getD j 0 < (n : Int) := fun h => hjl ⟨hj1, h⟩
                obtain ⟨bz, oz, rfl, hbz, _, hcz⟩ := hz4 (by omega)
                have e1 : zs.getD j 0 = zs[j] := by simp [List.getD, hj1]
                rw [e1] at hj2
                have c1 := hcz j (.int .i64 zs[j]) (by simp [ints, hj1])
                clear e1 hcz hz4 hjl
                generalize zs[j] = y at *
                have i2 : (j : Int) < (zs.length : Int) := by omega
                have i3 : (j : Int) ≤ (cz : Int) := by omega
                have i4 : ¬ cz = j := by omega
                go_wp2
                have hS0 : Below wr.heap.size wr wr.drew := (Below.refl _ _).drew
                have hone1 : ∀ u ∈ ints (zs.take j), u.oneCell' = true := by intro u hu; obtain ⟨q, _, rfl⟩ := List.mem_map.1 hu; rfl
                have hone2 : ∀ u ∈ ints (zs.drop j), u.oneCell' = true := by intro u hu; obtain ⟨q, _, rfl⟩ := List.mem_map.1 hu; rfl
                have hl1 : (ints (zs.take j)).length = j * 1 := by simp [ints]; omega
                have hl2 : (ints (zs.drop j)).length = (zs.length - j) * 1 := by simp [ints]
                have hx1 : ∀ u ∈ [Value.int .i64 (n : Int)], u.oneCell' = true := by intro u hu; simp at hu; subst hu; rfl
                have hz0 : wr.heap.size ≤ wr.heap.size := Nat.le_refl _
                have hown3 : ((wr.alloc (.cells #[.int .i64 (n : Int)] 3)).alloc (.cells #[] 3)).ownsRow wr.heap.size 3 1 (.slice (some ⟨wr.heap.size + 1, 0, none⟩) 0 0) 0 [] := by
                  have h := World.ownsRow_made (base := wr.heap.size) (e := 3) (size := 1) (wr.alloc (.cells #[.int .i64 (n : Int)] 3)) #[] 0 (by simp) (by decide) rfl
                  rwa [show (wr.alloc (.cells #[.int .i64 (n : Int)] 3)).heap.size = wr.heap.size + 1 from by simp] at h
                go_region_held3 (fun W => Below wr.heap.size wr W) (first | assumption | exact Below.alloc (by assumption) (Below.size (by assumption)) _)
                  (first
                    | (refine wpH_appB (base := wr.heap.size) tyI rfl (s := .tmp 43) (x := .tmp 46) rfl rfl rfl (n := 0) (xs := []) (World.ownsRow_made wr #[] 0 hz0 (by decide) rfl) (hrup.below (by assumption)) hl1 hone1 (by unfold maxLen; omega) (by omega) (Below.size (by assumption)) ?_; intro v1 w1 ho1 hg1 hb1; have hS1 : Below wr.heap.size wr w1 := Below.trans (by assumption) hb1)
                    | (refine wpH_appB (base := wr.heap.size) tyI rfl (s := .tmp 43) (x := .tmp 46) rfl (v := .slice (some ⟨wr.heap.size, 0, none⟩) 0 0) rfl rfl (n := 0) (xs := []) ((World.ownsRow_made wr #[] 0 hz0 (by decide) rfl).alloc _) (hrup.below (by assumption)) hl1 hone1 (by unfold maxLen; omega) (by omega) (Below.size (by assumption)) ?_; intro v1 w1 ho1 hg1 hb1; have hS1 : Below wr.heap.size wr w1 := Below.trans (by assumption) hb1; have hlit := Row.grown (Row.lit1 (wr.alloc (.cells #[] 3)) (.int .i64 (n : Int)) 3).drew hg1 (by simp [Value.ownBlock]); rw [show (wr.alloc (.cells #[] 3)).heap.size = wr.heap.size + 1 from (by simp)] at hlit)
                    | (refine wpH_appB (base := wr.heap.size) tyI rfl (s := .tmp 43) (x := .tmp 46) rfl (v := .slice (some ⟨wr.heap.size + 1, 0, none⟩) 0 0) rfl rfl (n := 0) (xs := []) hown3 (hrup.below (by assumption)) hl1 hone1 (by unfold maxLen; omega) (by omega) (Below.size (by assumption)) ?_; intro v1 w1 ho1 hg1 hb1; have hS1 : Below wr.heap.size wr w1 := Below.trans (by assumption) hb1; have hlit := Row.grown ((Row.lit1 wr (.int .i64 (n : Int)) 3).below ((Below.refl _ _).alloc (Nat.le_refl _) (.cells #[] 3))).drew hg1 (by simp [Value.ownBlock]))
                    | (refine wpH_appB (base := wr.heap.size) tyI rfl (s := .tmp 47) (x := .tmp 49) rfl rfl rfl (ho1.alloc _) (Row.lit1 w1 (.int .i64 (n : Int)) 3) rfl hx1 (by unfold maxLen; omega) (by omega) (Below.size (by assumption)) ?_; intro v2 w2 ho2 hg2 hb2; have hS2 : Below wr.heap.size wr w2 := Below.trans (by assumption) hb2)
                    | (refine wpH_appB (base := wr.heap.size) tyI rfl (s := .tmp 47) (x := .tmp 49) rfl rfl rfl ho1 hlit rfl hx1 (by unfold maxLen; omega) (by omega) (Below.size (by assumption)) ?_; intro v2 w2 ho2 hg2 hb2; have hS2 : Below wr.heap.size wr w2 := Below.trans (by assumption) hb2)
                    | (refine wpH_appB (base := wr.heap.size) tyI rfl (s := .tmp 50) (x := .tmp 53) rfl rfl rfl ho2 (hrdn.below (by assumption)) hl2 hone2 (by unfold maxLen; omega) (by omega) (Below.size (by assumption)) ?_; intro v3 w3 ho3 hg3 hb3; have hS3 : Below wr.heap.size wr w3 := Below.trans (by assumption) hb3))
                all_goals
                  have hE := owns_base ho3 hb.size
                  rw [show 0 + j + 1 + (zs.length - j) = (zs.take j ++ (n : Int) :: zs.drop j).length by simp; omega, show [] ++ ints (zs.take j) ++ [Value.int .i64 (n : Int)] ++ ints (zs.drop j) = ints (zs.take j ++ (n : Int) :: zs.drop j) by simp [ints]] at hE
                  rw [← HT3.out] at hE
                  have hbE := hb.trans (hS3.mono hb.size)
                  go_wp2
                  go_roundw
                  case rel => exact ⟨k + 1, by omega, by go_num, hE, hbE⟩
                  case measure => simp [intOf]; omega
              · have i2 : ¬ (j : Int) < (zs.length : Int) := by omega
                clear hjl hz4
                go_wp2
                have hS0 : Below wr.heap.size wr wr.drew := (Below.refl _ _).drew
                have hone1 : ∀ u ∈ ints (zs.take j), u.oneCell' = true := by intro u hu; obtain ⟨q, _, rfl⟩ := List.mem_map.1 hu; rfl
                have hone2 : ∀ u ∈ ints (zs.drop j), u.oneCell' = true := by intro u hu; obtain ⟨q, _, rfl⟩ := List.mem_map.1 hu; rfl
                have hl1 : (ints (zs.take j)).length = j * 1 := by simp [ints]; omega
                have hl2 : (ints (zs.drop j)).length = (zs.length - j) * 1 := by simp [ints]
                have hx1 : ∀ u ∈ [Value.int .i64 (n : Int)], u.oneCell' = true := by intro u hu; simp at hu; subst hu; rfl
                have hz0 : wr.heap.size ≤ wr.heap.size := Nat.le_refl _
                have hown3 : ((wr.alloc (.cells #[.int .i64 (n : Int)] 3)).alloc (.cells #[] 3)).ownsRow wr.heap.size 3 1 (.slice (some ⟨wr.heap.size + 1, 0, none⟩) 0 0) 0 [] := by
                  have h := World.ownsRow_made (base := wr.heap.size) (e := 3) (size := 1) (wr.alloc (.cells #[.int .i64 (n : Int)] 3)) #[] 0 (by simp) (by decide) rfl
                  rwa [show (wr.alloc (.cells #[.int .i64 (n : Int)] 3)).heap.size = wr.heap.size + 1 from by simp] at h
                go_region_held3 (fun W => Below wr.heap.size wr W) (first | assumption | exact Below.alloc (by assumption) (Below.size (by assumption)) _)
                  (first
                    | (refine wpH_appB (base := wr.heap.size) tyI rfl (s := .tmp 43) (x := .tmp 46) rfl rfl rfl (n := 0) (xs := []) (World.ownsRow_made wr #[] 0 hz0 (by decide) rfl) (hrup.below (by assumption)) hl1 hone1 (by unfold maxLen; omega) (by omega) (Below.size (by assumption)) ?_; intro v1 w1 ho1 hg1 hb1; have hS1 : Below wr.heap.size wr w1 := Below.trans (by assumption) hb1)
                    | (refine wpH_appB (base := wr.heap.size) tyI rfl (s := .tmp 43) (x := .tmp 46) rfl (v := .slice (some ⟨wr.heap.size, 0, none⟩) 0 0) rfl rfl (n := 0) (xs := []) ((World.ownsRow_made wr #[] 0 hz0 (by decide) rfl).alloc _) (hrup.below (by assumption)) hl1 hone1 (by unfold maxLen; omega) (by omega) (Below.size (by assumption)) ?_; intro v1 w1 ho1 hg1 hb1; have hS1 : Below wr.heap.size wr w1 := Below.trans (by assumption) hb1; have hlit := Row.grown (Row.lit1 (wr.alloc (.cells #[] 3)) (.int .i64 (n : Int)) 3).drew hg1 (by simp [Value.ownBlock]); rw [show (wr.alloc (.cells #[] 3)).heap.size = wr.heap.size + 1 from (by simp)] at hlit)
                    | (refine wpH_appB (base := wr.heap.size) tyI rfl (s := .tmp 43) (x := .tmp 46) rfl (v := .slice (some ⟨wr.heap.size + 1, 0, none⟩) 0 0) rfl rfl (n := 0) (xs := []) hown3 (hrup.below (by assumption)) hl1 hone1 (by unfold maxLen; omega) (by omega) (Below.size (by assumption)) ?_; intro v1 w1 ho1 hg1 hb1; have hS1 : Below wr.heap.size wr w1 := Below.trans (by assumption) hb1; have hlit := Row.grown ((Row.lit1 wr (.int .i64 (n : Int)) 3).below ((Below.refl _ _).alloc (Nat.le_refl _) (.cells #[] 3))).drew hg1 (by simp [Value.ownBlock]))
                    | (refine wpH_appB (base := wr.heap.size) tyI rfl (s := .tmp 47) (x := .tmp 49) rfl rfl rfl (ho1.alloc _) (Row.lit1 w1 (.int .i64 (n : Int)) 3) rfl hx1 (by unfold maxLen; omega) (by omega) (Below.size (by assumption)) ?_; intro v2 w2 ho2 hg2 hb2; have hS2 : Below wr.heap.size wr w2 := Below.trans (by assumption) hb2)
                    | (refine wpH_appB (base := wr.heap.size) tyI rfl (s := .tmp 47) (x := .tmp 49) rfl rfl rfl ho1 hlit rfl hx1 (by unfold maxLen; omega) (by omega) (Below.size (by assumption)) ?_; intro v2 w2 ho2 hg2 hb2; have hS2 : Below wr.heap.size wr w2 := Below.trans (by assumption) hb2)
                    | (refine wpH_appB (base := wr.heap.size) tyI rfl (s := .tmp 50) (x := .tmp 53) rfl rfl rfl ho2 (hrdn.below (by assumption)) hl2 hone2 (by unfold maxLen; omega) (by omega) (Below.size (by assumption)) ?_; intro v3 w3 ho3 hg3 hb3; have hS3 : Below wr.heap.size wr w3 := Below.trans (by assumption) hb3))
                all_goals
                  have hE := owns_base ho3 hb.size
                  rw [show 0 + j + 1 + (zs.length - j) = (zs.take j ++ (n : Int) :: zs.drop j).length by simp; omega, show [] ++ ints (zs.take j) ++ [Value.int .i64 (n : Int)] ++ ints (zs.drop j) = ints (zs.take j ++ (n : Int) :: zs.drop j) by simp [ints]] at hE
                  rw [← HT3.out] at hE
                  have hbE := hb.trans (hS3.mono hb.size)
                  go_wp2
                  go_roundw
                  case rel => exact ⟨k + 1, by omega, by go_num, hE, hbE⟩
                  case measure => simp [intOf]; omega
    · have htk : ss.take k = ss := List.take_of_length_le (by omega)
      rw [htk] at hown
      go_wp2
      go_ret
      exact ⟨_, rfl, hown, hb⟩

end Go.Proofs.YtepceidajmedeaaGreatDoor

namespace CW
open Go Go.RowKit

/-- The cells of a block, with some of them written. -/
def patch (cur : List Value) (o : Nat) (vs : List Value) : Array Value := (cur.take o ++ vs ++ cur.drop (o + vs.length)).toArray

theorem run_storeVar_at {P : Program} (w : World) (g o : Nat) (ty t : TypeId) (val : Value) (cur : Array Value) (hg : w.heap[g]? = some (.cells cur t (0, 0))) (hs : o + val.cells.size ≤ cur.size) (hi : (P.info? ty).map (·.size) = some val.cells.size) (h1 : ∀ v ∈ val.cells.toList, v.oneCell' = true) :
    (storeVar ty ⟨g, o, none⟩ val).run P w = .ok () (w.setRow g (patch cur.toList o val.cells.toList)) := by
  have h := run_storeCells_at P g o t val.cells.toList 0 cur w hg (by simpa using hs) h1
  simp only [Nat.add_zero] at h
  cases hq : P.info? ty with
  | none => simp [hq] at hi
  | some i =>
    have hs : val.cells.size = i.size := by simp [hq] at hi; omega
    simp [storeVar, Go.sizeOf, typeInfo, hq, hs, h, patch]

theorem fr_setRow (w : World) (g : Nat) (cs : Array Value) : Fr (fun k => k = g) w (w.setRow g cs) := ⟨rfl, rfl, rfl, by simp, fun k _ hk => setRow_other _ _ _ _ hk⟩

theorem wpList_store_in {P : Program} {ops : Array Oper} {rest : List Oper} {op : Oper} {a : Act} {w : World} {Q : Exit → Act → World → Prop} (hgd : op.guard = none) {ty : TypeId} {x y : Operand} (ho : op.op = .store ty x y)
    (g o : Nat) (t : TypeId) (val : Value) (cur : List Value) (hx : a.eval x = .pointer (some ⟨g, o, none⟩)) (hy : a.eval y = val)
    (hg : w.heap[g]? = some (.cells cur.toArray t (0, 0))) (hs : o + val.cells.size ≤ cur.length) (hi : (P.info? ty).map (·.size) = some val.cells.size) (h1 : ∀ v ∈ val.cells.toList, v.oneCell' = true)
    (h : ∀ W, W.heap[g]? = some (.cells (patch cur o val.cells.toList) t (0, 0)) → Fr (fun k => k = g) w W → W.heap.size = w.heap.size → wpList P ops Q rest (a.put op.dst undef) W) : wpList P ops Q (op :: rest) a w :=
  wpList_plain hgd fun K hK => by
    unfold Oper.wp execOp
    simp only [ho, hx, hy, Instr.storeAt, Instr.sureAddr, Sem.run_bind, Sem.run_pure, Result.andThen_ok, run_storeVar_at w g o ty t val cur.toArray hg (by simpa using hs) hi h1]
    exact hK _ _ (h _ (setRow_heap _ _ _ _ _ _ hg) (fr_setRow w g _) (by simp))

theorem wpList_store4 {P : Program} {ops : Array Oper} {rest : List Oper} {op : Oper} {a : Act} {w : World} {Q : Exit → Act → World → Prop} (hgd : op.guard = none) {ty : TypeId} {x y : Operand} (ho : op.op = .store ty x y)
    (g : Nat) (t : TypeId) (c0 c1 c2 c3 v0 v1 v2 v3 : Value) (hx : a.eval x = .pointer (some ⟨g, 0, none⟩)) (hy : a.eval y = .agg #[v0, v1, v2, v3])
    (hg : w.heap[g]? = some (.cells #[c0, c1, c2, c3] t (0, 0))) (hi : (P.info? ty).map (·.size) = some 4) (h0 : v0.oneCell' = true) (h1 : v1.oneCell' = true) (h2 : v2.oneCell' = true) (h3 : v3.oneCell' = true)
    (h : ∀ W, W.heap[g]? = some (.cells #[v0, v1, v2, v3] t (0, 0)) → Fr (fun k => k = g) w W → W.heap.size = w.heap.size → wpList P ops Q rest (a.put op.dst undef) W) : wpList P ops Q (op :: rest) a w :=
  wpList_store_in hgd ho g 0 t (.agg #[v0, v1, v2, v3]) [c0, c1, c2, c3] hx hy hg (Nat.le_refl _) hi (fun u hu => by
    simp only [Value.cells, List.mem_cons, List.not_mem_nil, or_false] at hu
    rcases hu with rfl | rfl | rfl | rfl <;> assumption) h

theorem wpList_store3 {P : Program} {ops : Array Oper} {rest : List Oper} {op : Oper} {a : Act} {w : World} {Q : Exit → Act → World → Prop} (hgd : op.guard = none) {ty : TypeId} {x y : Operand} (ho : op.op = .store ty x y)
    (g : Nat) (t : TypeId) (c0 c1 c2 v0 v1 v2 : Value) (hx : a.eval x = .pointer (some ⟨g, 0, none⟩)) (hy : a.eval y = .agg #[v0, v1, v2])
    (hg : w.heap[g]? = some (.cells #[c0, c1, c2] t (0, 0))) (hi : (P.info? ty).map (·.size) = some 3) (h0 : v0.oneCell' = true) (h1 : v1.oneCell' = true) (h2 : v2.oneCell' = true)
    (h : ∀ W, W.heap[g]? = some (.cells #[v0, v1, v2] t (0, 0)) → Fr (fun k => k = g) w W → W.heap.size = w.heap.size → wpList P ops Q rest (a.put op.dst undef) W) : wpList P ops Q (op :: rest) a w :=
  wpList_store_in hgd ho g 0 t (.agg #[v0, v1, v2]) [c0, c1, c2] hx hy hg (Nat.le_refl _) hi (fun u hu => by
    simp only [Value.cells, List.mem_cons, List.not_mem_nil, or_false] at hu
    rcases hu with rfl | rfl | rfl <;> assumption) h

/-- A store of one cell. -/
theorem wpList_store_fld {P : Program} {ops : Array Oper} {rest : List Oper} {op : Oper} {a : Act} {w : World} {Q : Exit → Act → World → Prop} (hgd : op.guard = none) {ty : TypeId} {x y : Operand} (ho : op.op = .store ty x y)
    (g o : Nat) (t : TypeId) (u : Value) (cur : List Value) (hx : a.eval x = .pointer (some ⟨g, o, none⟩)) (hy : a.eval y = u)
    (hg : w.heap[g]? = some (.cells cur.toArray t (0, 0))) (hs : o < cur.length) (hi : (P.info? ty).map (·.size) = some 1) (hu : u.cells = #[u]) (h1 : u.oneCell' = true)
    (h : ∀ W, W.heap[g]? = some (.cells (cur.set o u).toArray t (0, 0)) → Fr (fun k => k = g) w W → W.heap.size = w.heap.size → wpList P ops Q rest (a.put op.dst undef) W) : wpList P ops Q (op :: rest) a w :=
  wpList_store_in hgd ho g o t u cur hx hy hg (by rw [hu]; exact hs) (by rw [hu]; exact hi) (fun x hx => by rw [hu] at hx; simp at hx; subst hx; exact h1) (fun W hW => h W (by
    rw [hW, hu]
    have e : patch cur o #[u].toList = (cur.set o u).toArray := by
      unfold patch
      rw [List.set_eq_take_append_cons_drop, if_pos hs]
      simp
    rw [e]))

/-- .. inside a region that draws its order. -/
theorem wpH_store_fld {P : Program} {op : Oper} {a : Act} {w : World} {K : Act → World → Prop} {Q : Exit → Act → World → Prop} {b : Bool} (hb : b = true) {E : Prop} {ty : TypeId} {x y : Operand} (ho : op.op = .store ty x y)
    (g o : Nat) (t : TypeId) (u : Value) (cur : List Value) (hx : a.eval x = .pointer (some ⟨g, o, none⟩)) (hy : a.eval y = u)
    (hg : w.heap[g]? = some (.cells cur.toArray t (0, 0))) (hs : o < cur.length) (hi : (P.info? ty).map (·.size) = some 1) (hu : u.cells = #[u]) (h1 : u.oneCell' = true)
    (h : ∀ W, W.heap[g]? = some (.cells (cur.set o u).toArray t (0, 0)) → Fr (fun k => k = g) w W → W.heap.size = w.heap.size → K (a.put op.dst undef) W) : if b = true then Oper.wp P op a w K Q else E := by
  rw [if_pos hb]
  unfold Oper.wp execOp
  have hr := run_storeVar_at (P := P) w g o ty t u cur.toArray hg (by rw [hu]; exact hs) (by rw [hu]; exact hi) (fun x hx => by rw [hu] at hx; simp at hx; subst hx; exact h1)
  simp only [ho, hx, hy, Instr.storeAt, Instr.sureAddr, Sem.run_bind, Sem.run_pure, Result.andThen_ok, hr]
  refine h _ ?_ (fr_setRow w g _) (by simp)
  rw [setRow_heap _ _ _ _ _ _ hg, hu]
  have e : patch cur.toArray.toList o #[u].toList = (cur.set o u).toArray := by
    unfold patch
    rw [List.set_eq_take_append_cons_drop, if_pos hs]
    simp
  rw [e]

/-- For 'with_reducible refine at_sto ?_': goes through where the next operation is a store, and nowhere else. -/
theorem at_sto {P : Program} {ops : Array Oper} {rest : List Oper} {a : Act} {w : World} {Q : Exit → Act → World → Prop} {d : Option Tmp} {ty t : TypeId} {x y : Operand} {p : String} {af : Array Edge} {gd : Option (Nat × Bool)}
    (h : wpList P ops Q ({ dst := d, op := .store ty x y, type := t, pos := p, after := af, guard := gd } :: rest) a w) : wpList P ops Q ({ dst := d, op := .store ty x y, type := t, pos := p, after := af, guard := gd } :: rest) a w := h

theorem fr_setCell (w : World) (g o : Nat) (u : Value) : Fr (fun k => k = g) w (w.setCell ⟨g, o, none⟩ u) := ⟨rfl, rfl, rfl, by simp [World.setCell], fun k _ hk => heap_setCell_other _ _ _ _ (fun e => hk e)⟩

theorem cells4 {w : World} {g : Nat} {t : TypeId} {fr : Nat × Nat} {a b c d : Value} (h : w.heap[g]? = some (.cells #[a, b, c, d] t fr)) :
    w.cell? ⟨g, 0, none⟩ = some a ∧ w.cell? ⟨g, 1, none⟩ = some b ∧ w.cell? ⟨g, 2, none⟩ = some c ∧ w.cell? ⟨g, 3, none⟩ = some d :=
  ⟨by rw [Go.cell_of_row _ g 0 _ _ _ h]; rfl, by rw [Go.cell_of_row _ g 1 _ _ _ h]; rfl, by rw [Go.cell_of_row _ g 2 _ _ _ h]; rfl, by rw [Go.cell_of_row _ g 3 _ _ _ h]; rfl⟩
theorem cells3 {w : World} {g : Nat} {t : TypeId} {fr : Nat × Nat} {a b c : Value} (h : w.heap[g]? = some (.cells #[a, b, c] t fr)) :
    w.cell? ⟨g, 0, none⟩ = some a ∧ w.cell? ⟨g, 1, none⟩ = some b ∧ w.cell? ⟨g, 2, none⟩ = some c :=
  ⟨by rw [Go.cell_of_row _ g 0 _ _ _ h]; rfl, by rw [Go.cell_of_row _ g 1 _ _ _ h]; rfl, by rw [Go.cell_of_row _ g 2 _ _ _ h]; rfl⟩
theorem cells2 {w : World} {g : Nat} {t : TypeId} {fr : Nat × Nat} {a b : Value} (h : w.heap[g]? = some (.cells #[a, b] t fr)) :
    w.cell? ⟨g, 0, none⟩ = some a ∧ w.cell? ⟨g, 1, none⟩ = some b :=
  ⟨by rw [Go.cell_of_row _ g 0 _ _ _ h]; rfl, by rw [Go.cell_of_row _ g 1 _ _ _ h]; rfl⟩

theorem heap3_0 (w : World) (A B C : Obj) : (((w.alloc A).alloc B).alloc C).heap[w.heap.size]? = some A := by
  rw [heap_alloc_old ((w.alloc A).alloc B) C (by simp; omega)]; exact heap_alloc2_old w A B
theorem heap3_1 (w : World) (A B C : Obj) : (((w.alloc A).alloc B).alloc C).heap[w.heap.size + 1]? = some B := by
  rw [heap_alloc_old ((w.alloc A).alloc B) C (by simp)]; exact heap_alloc2_new w A B
theorem heap3_2 (w : World) (A B C : Obj) : (((w.alloc A).alloc B).alloc C).heap[w.heap.size + 1 + 1]? = some C := by
  have h := heap_alloc_new ((w.alloc A).alloc B) C
  have e : ((w.alloc A).alloc B).heap.size = w.heap.size + 1 + 1 := by show ((w.heap.push A).push B).size = _; simp
  rwa [e] at h
theorem below3 (w : World) (A B C : Obj) : Below w.heap.size w (((w.alloc A).alloc B).alloc C) := (((Below.refl _ _).alloc (Nat.le_refl _) A).alloc (by simp) B).alloc (by simp; omega) C
theorem size3 (w : World) (A B C : Obj) : (((w.alloc A).alloc B).alloc C).heap.size = w.heap.size + 1 + 1 + 1 := by simp

theorem boxF (w : World) (C : Obj) : Below w.heap.size w (w.alloc C) ∧ (w.alloc C).heap.size = w.heap.size + 1 ∧ (w.alloc C).heap[w.heap.size]? = some C :=
  ⟨(Below.refl w.heap.size w).alloc (Nat.le_refl _) C, by simp, by show (w.heap.push C)[w.heap.size]? = _; simp⟩

/-- An append inside a region that draws its order, with the place of the new slice. -/
theorem wpH_app_at {P : Program} {t e : TypeId} {size bytes : Nat} {z : Value} (T : SlTy P t e size bytes z) {w : World} {o : Oper} {a : Act} {K : Act → World → Prop} {Q : Exit → Act → World → Prop} {b : Bool} (hb : b = true) {E : Prop} {s x : Operand}
    (ho : o.op = .call { callee := .builtin .append, args := #[s, x], argTypes := #[t, t] }) {v vx : Value} (hs : a.eval s = v) (hx : a.eval x = vx)
    {base n : Nat} {xs : List Value} (hown : w.ownsRow base e size v n xs)
    {M : Nat → Prop} {m : Nat} {news : List Value} (hrow : Row M w vx m news) (hl : news.length = m * size) (h1 : ∀ u ∈ news, u.oneCell' = true)
    (h63 : n + m ≤ maxLen) (hbytes : (n + m) * bytes ≤ 140737488355328) (hbase : base ≤ w.heap.size)
    (h : ∀ v' w', w'.ownsRow base e size v' (n + m) (xs ++ news) → w.grownBy w' v.ownBlock → (v'.ownBlock = v.ownBlock ∨ v'.ownBlock = some w.heap.size) → K (a.put o.dst v') w') : if b = true then Oper.wp P o a w K Q else E := by
  rw [if_pos hb]
  obtain ⟨v', w', hr, h2, h3, h4⟩ := run_app_at T w o.type base v n xs hown hrow hl h1 h63 hbytes hbase
  unfold Oper.wp execOp
  simp only [ho, resolve, invoke, builtin, Sem.run_bind, Sem.run_pure, Result.andThen_ok, List.map_toArray, List.map_cons, List.map_nil, hs, hx, hr]
  exact h v' w' h2 h3 h4

end CW

namespace Go.Proofs.YtepceidajmedeaaGreatDoor
open Go.RowKit CW

abbrev HU := Unit
/-- How a pointer to a file reads: as its block. -/
def ptrE : Value → Option (DataW HU × List MemPlace)
  | .pointer none => some (.nil, [])
  | .pointer (some ⟨b, 0, none⟩) => some (.lit (.int .i64 (b : Int)), [])
  | _ => none
theorem ptrE_inv {v : Value} {z : DataW HU × List MemPlace} (h : ptrE v = some z) : (v = .pointer none ∧ z = (.nil, [])) ∨ ∃ b : Nat, v = .pointer (some ⟨b, 0, none⟩) ∧ z = (.lit (.int .i64 (b : Int)), []) := by
  unfold ptrE at h
  split at h
  · exact .inl ⟨rfl, by cases h; rfl⟩
  · exact .inr ⟨_, rfl, by cases h; rfl⟩
  · cases h

/-- A file, its block, and the slice in it. -/
abbrev Ent := FileA × Nat × Value
abbrev nq (q : Ent) : Bytes := q.1.name
def dq (q : Ent) : DataW HU := .lit (.int .i64 (q.2.1 : Int))
abbrev mapQ (qs : List Ent) : DataW HU := mapK nq dq qs

structure DiskIn (S : Nat → Prop) (w : World) (d mb : Nat) (D : DiskA) (qs : List Ent) : Prop where
  files : qs.map (·.1) = D.files
  blk : w.heap[d]? = some (.cells #[.int .i64 D.room, .map (some mb), .int .i64 D.plan, .bool D.down] 134 (0, 0))
  map : w.ownsMap Tryz.prog 9 ptrE mb qs.length (mapQ qs)
  file : ∀ q ∈ qs, w.heap[q.2.1]? = some (.cells #[q.2.2, .int .i64 (q.1.dur : Int)] 151 (0, 0)) ∧ w.ownsRow 0 5 1 q.2.2 q.1.b.length (q.1.b.map encB)
  apart : qs.Pairwise (fun p q => p.2.1 ≠ q.2.1 ∧ ∀ g, p.2.2.ownBlock = some g → q.2.2.ownBlock ≠ some g)
  sorted : SortedK nq qs
  inD : S d
  inM : S mb
  inF : ∀ q ∈ qs, S q.2.1 ∧ ∀ g, q.2.2.ownBlock = some g → S g
  lt : ∀ k, S k → k < w.heap.size
  name : ∀ q ∈ qs, q.1.name.length ≤ 100

def DiskAt (S : Nat → Prop) (w : World) (d : Nat) (D : DiskA) : Prop := ∃ mb qs, DiskIn S w d mb D qs

theorem ownsMap_block {w w' : World} {b n : Nat} {D : DataW HU} (h : w.ownsMap Tryz.prog 9 ptrE b n D) (hb : w'.heap[b]? = w.heap[b]?) : w'.ownsMap Tryz.prog 9 ptrE b n D := by
  obtain ⟨es, clock, h1, r⟩ := h
  exact ⟨es, clock, hb.trans h1, r⟩
theorem ownsMap_tight {w : World} {b n : Nat} {D : DataW HU} (h : w.ownsMap Tryz.prog 9 ptrE b n D) : w.ownsMap Tryz.prog 9 ptrE b (Maps.size D) D := by
  obtain ⟨es, clock, h1, h2, h3, rfl⟩ := h
  exact ⟨es, clock, h1, h2, by simp [Maps.size, length_sorted], rfl⟩
theorem ownsRow_block {w w' : World} {base e size n : Nat} {v : Value} {cs : List Value} (h : w.ownsRow base e size v n cs) (hb : ∀ g, v.ownBlock = some g → w'.heap[g]? = w.heap[g]?) : w'.ownsRow base e size v n cs := by
  refine ⟨h.1, ?_⟩
  rcases h.2 with h | ⟨g, cap, cur, rfl, hg, hh, r⟩
  · exact .inl h
  · exact .inr ⟨g, cap, cur, rfl, hg, (hb g rfl).trans hh, r⟩

/-- A disk stays what it is while other blocks are written and new ones are made. -/
theorem DiskIn.fr {S F : Nat → Prop} {w w' : World} {d mb : Nat} {D : DiskA} {qs : List Ent} (h : DiskIn S w d mb D qs) (hf : Fr F w w') (hF : ∀ k, S k → ¬ F k) : DiskIn S w' d mb D qs :=
  have hb : ∀ k, S k → w'.heap[k]? = w.heap[k]? := fun k hk => hf.block k (h.lt k hk) (hF k hk)
  { files := h.files
    blk := (hb d h.inD).trans h.blk
    map := ownsMap_block h.map (hb mb h.inM)
    file := fun q hq => ⟨(hb _ (h.inF q hq).1).trans (h.file q hq).1, ownsRow_block (h.file q hq).2 (fun g hg => hb g ((h.inF q hq).2 g hg))⟩
    apart := h.apart
    sorted := h.sorted
    inD := h.inD
    inM := h.inM
    inF := h.inF
    lt := fun k hk => Nat.lt_of_lt_of_le (h.lt k hk) hf.size
    name := h.name }
theorem DiskIn.below {S : Nat → Prop} {w w' : World} {d mb : Nat} {D : DiskA} {qs : List Ent} (h : DiskIn S w d mb D qs) (hf : Below w.heap.size w w') : DiskIn S w' d mb D qs := h.fr (F := fun _ => False) (Fr.of_below hf) (fun _ _ h => h)
theorem DiskAt.fr {S F : Nat → Prop} {w w' : World} {d : Nat} {D : DiskA} (h : DiskAt S w d D) (hf : Fr F w w') (hF : ∀ k, S k → ¬ F k) : DiskAt S w' d D := by
  obtain ⟨mb, qs, h⟩ := h
  exact ⟨mb, qs, h.fr hf hF⟩
theorem DiskAt.below {S : Nat → Prop} {w w' : World} {d : Nat} {D : DiskA} (h : DiskAt S w d D) (hf : Below w.heap.size w w') : DiskAt S w' d D := h.fr (F := fun _ => False) (Fr.of_below hf) (fun _ _ h => h)

theorem keyS (n : Bytes) (h : n.length ≤ 1048576) : keyOf Tryz.prog 9 (.string ⟨n.toArray⟩) = some (.string n) := by
  have := Go.WideMaps.keyOf_string_mk (P := Tryz.prog) Tryz.underlying9 (s := ⟨n.toArray⟩) (by show n.toArray.size ≤ maxLen; unfold maxLen; simp; omega)
  simpa using this
theorem keyedS : Maps.Keyed Tryz.prog 9 := Maps.string_keyed Tryz.underlying9

/-- The pointer at a name. -/
theorem ent_ptr {S : Nat → Prop} {w : World} {d mb : Nat} {D : DiskA} {qs : List Ent} (h : DiskIn S w d mb D qs) (n : Bytes) (hn : n.length ≤ 1048576) :
    (findK nq qs n = none ∧ (Instr.lookup 131 (.map (some mb)) (.string ⟨n.toArray⟩) true).run Tryz.prog w = .ok (.tuple #[.pointer none, .bool false]) w) ∨
    ∃ i, ∃ hi : i < qs.length, findK nq qs n = some i ∧ (Instr.lookup 131 (.map (some mb)) (.string ⟨n.toArray⟩) true).run Tryz.prog w = .ok (.tuple #[.pointer (some ⟨qs[i].2.1, 0, none⟩), .bool true]) w := by
  obtain ⟨v, ps, hrun, hv⟩ := h.map.look_ok keyedS Tryz.underlying131 (z := .pointer none) (zd := .nil) (zp := []) (by kernel_rfl) rfl (keyS n hn)
  rw [mapK_has, mapK_at] at *
  rcases hf : findK nq qs n with _ | i
  · rw [hf] at hrun hv
    refine .inl ⟨rfl, ?_⟩
    rcases ptrE_inv hv with ⟨rfl, _⟩ | ⟨b, rfl, h2⟩
    · exact hrun
    · cases h2
  · rw [hf] at hrun hv
    obtain ⟨hi, _⟩ := findK_some hf
    refine .inr ⟨i, hi, rfl, ?_⟩
    simp only [List.getElem?_eq_getElem hi, dq] at hv
    rcases ptrE_inv hv with ⟨rfl, h2⟩ | ⟨b, rfl, h2⟩
    · cases h2
    · have : b = qs[i].2.1 := by
        have h3 := congrArg Prod.fst h2
        simp at h3
        omega
      rw [← this]
      exact hrun

end Go.Proofs.YtepceidajmedeaaGreatDoor

namespace Go.Proofs.YtepceidajmedeaaGreatDoor
open Go.RowKit CW

theorem indexByte_alw (c : UInt8) : (Lib.indexByte alw c < 0) ↔ okC c = false := by
  have h : ((List.range 256).all fun n => (decide (Lib.indexByte alw (UInt8.ofNat n) < 0)) == !okC (UInt8.ofNat n)) = true := by kernel_rfl
  have h2 := List.all_eq_true.1 h c.toNat (List.mem_range.2 c.toNat_lt)
  simp at h2
  cases hk : okC c <;> simp [hk] at h2 ⊢ <;> omega

theorem named1_any (c : UInt8) (w : World) :
    Calls Tryz.prog 185 #[.int .u8 (c.toNat : Int)] w fun e w' => e = .returned (.bool (!okC c)) ∧ w' = w := by
  have hi := Tryz.strings_IndexByte ⟨alw.toArray⟩ (c.toNat : Int) w
  have e1 : (ByteArray.mk alw.toArray).data.toList = alw := rfl
  have e2 : ((c.toNat : Int).toNat).toUInt8 = c := by simp
  rw [e1, e2] at hi
  have hk := indexByte_alw c
  have HD : Hid (decide (Lib.indexByte alw c < 0) = !okC c) := by
    show _ = _
    cases h : okC c with
    | true => exact decide_eq_false (fun h' => by rw [hk.1 h'] at h; cases h)
    | false => exact decide_eq_true (hk.2 h)
  clear hk e1 e2
  generalize Lib.indexByte alw c = z at *
  go_enter Tryz.func185, Tryz.ntmps185
  go_wp2_with (go_at_call 186; refine hi.mono ?_; rintro e w1 ⟨rfl, rfl⟩)
  go_ret
  exact ⟨by rw [← HD.out] <;> rfl, rfl⟩

set_option maxHeartbeats 400000 in
theorem indexFunc_all (v : Value) (bs : Bytes) (w : World) (hv : SlB (fun _ => False) w v bs) (hall : bs.all okC = true) :
    Calls Tryz.prog 220 #[v, .func (.func 185) #[] #[]] w fun e w' => e = .returned (.int .i64 (-1)) ∧ w' = w := by
  obtain ⟨a, cap, rfl, hn, hcap, _, hcell⟩ := Row.open hv
  have HALL : Hid (bs.all okC = true) := hall
  clear hall
  go_enter Tryz.func220, Tryz.ntmps220
  go_wp2
  go_loopw [8] (fun i wr => ∃ k : Nat, k ≤ bs.length ∧ i = .int .i64 k ∧ wr = w) (fun i _ => bs.length - (intOf i).toNat)
  case atStart => exact ⟨0, by omega, rfl, rfl⟩
  case round =>
    obtain ⟨k, hk, rfl, rfl⟩ := hrel
    by_cases hlt : k < bs.length
    · obtain ⟨b, off, rfl, hbl, _, hc⟩ := hcell (by omega)
      have h1 := hc k (encB bs[k]) (by simp [hlt])
      have hok : okC bs[k] = true := List.all_eq_true.1 HALL.out _ (List.getElem_mem hlt)
      have hn1 := named1_any bs[k] wr
      rw [hok] at hn1
      clear hok hc hcell
      unfold encB at h1
      generalize bs[k].toNat = cn at *
      have i1 : (k : Int) < (bs.length : Int) := by omega
      go_wp2_with (go_at_call 185; refine hn1.mono ?_; rintro e w1 ⟨rfl, rfl⟩)
      go_roundw
      case rel => exact ⟨k + 1, by omega, by go_num, trivial⟩
      case measure => simp [intOf]; omega
    · go_wp2
      go_ret
      exact ⟨rfl, rfl⟩

theorem containsFunc_all (v : Value) (bs : Bytes) (w : World) (hv : SlB (fun _ => False) w v bs) (hall : bs.all okC = true) :
    Calls Tryz.prog 184 #[v, .func (.func 185) #[] #[]] w fun e w' => e = .returned (.bool false) ∧ w' = w := by
  have hi := indexFunc_all v bs w hv hall
  go_enter Tryz.func184, Tryz.ntmps184
  go_wp2_with (go_at_call 220; refine hi.mono ?_; rintro e w1 ⟨rfl, rfl⟩)
  go_ret
  exact ⟨rfl, rfl⟩

theorem trim_any (s : Bytes) (w : World) (hs : s.length ≤ 9223372036854775807) :
    Calls Tryz.prog 183 #[.string ⟨s.toArray⟩, .string ⟨alw.toArray⟩] w fun e w' => ∃ t : Bytes, e = .returned (.string ⟨t.toArray⟩) ∧ (t == []) = s.all okC ∧ Below w.heap.size w w' := by
  have h := Any.strings_Trim_laid Tryz.lays160 (by kernel_rfl) ⟨s.toArray⟩ ⟨alw.toArray⟩ w (by show s.toArray.size ≤ _; simpa using hs) (by decide) (ascii_of_all (by decide))
  refine Calls.mono (show Calls Tryz.prog 183 #[.string ⟨s.toArray⟩, .string ⟨alw.toArray⟩] w _ from h) ?_
  rintro e w' ⟨rfl, hb⟩
  refine ⟨_, rfl, ?_, hb⟩
  have := trimS_nil s
  cases hk : s.all okC with
  | true => exact beq_iff_eq.2 (this.2 hk)
  | false => exact beq_eq_false_iff_ne.2 (fun h' => by rw [this.1 h'] at hk; cases hk)

/-- '[]byte(s)'. -/
theorem conv_bytes (s : Bytes) (w : World) (hs : s.length ≤ maxLen) : ∃ b cap w2, (convert 9 30 (.string ⟨s.toArray⟩)).run Tryz.prog w = .ok (.slice (some ⟨b, 0, none⟩) s.length cap) w2 ∧ SlB (fun _ => False) w2 (.slice (some ⟨b, 0, none⟩) s.length cap) s ∧ Below w.heap.size w w2 := by
  have h := run_bytes_of_string w 9 30 5 ⟨s.toArray⟩ Tryz.underlying9 Tryz.underlying30 Tryz.underlying5
  have hsz : (ByteArray.mk s.toArray).size = s.length := by show s.toArray.size = _; simp
  rw [hsz] at h
  refine ⟨_, _, _, h, ?_, (Below.refl _ _).drew.alloc (Nat.le_refl _) _⟩
  have h1 := grownCap_ge w s.length 0 5
  have h2 := grownCap_le_maxLen w s.length 0 5 hs
  generalize grownCap w s.length 0 5 = cap at *
  refine .inr ⟨w.heap.size, 0, cap, rfl, h1, by unfold maxLen at h2; omega, by simp, fun h => h, fun j u hu => ?_⟩
  have hh : ∀ o, (w.drew.alloc o).heap[w.heap.size]? = some o := fun o => by show (w.heap.push o)[w.heap.size]? = _; simp
  rw [Nat.zero_add, Go.cell_of_row _ w.heap.size j _ _ _ (hh _)]
  rw [List.getElem?_map] at hu
  have hj : j < s.length := by
    rcases Nat.lt_or_ge j s.length with h | h
    · exact h
    · rw [List.getElem?_eq_none h] at hu; cases hu
  rw [List.getElem?_eq_getElem hj] at hu
  cases hu
  simp [bytesRow, encB, Array.getElem?_append, hj]

set_option maxHeartbeats 400000 in
set_option maxRecDepth 100000 in
theorem named_any (s : Bytes) (w : World) (hs : s.length ≤ 9223372036854775807) :
    Calls Tryz.prog 150 #[.string ⟨s.toArray⟩] w fun e w' => e = .returned (.bool (namedB s)) ∧ Below w.heap.size w w' := by
  by_cases h1 : 1 ≤ s.length
  · have d1 : (1 : Int) ≤ (s.length : Int) := by omega
    by_cases h2 : s.length ≤ 100
    · have d2 : (s.length : Int) ≤ 100 := by omega
      have HN : Hid (namedB s = s.all okC) := by show _ = _; unfold namedB; rw [decide_eq_true h1, decide_eq_true h2]; rfl
      have ht := trim_any s w hs
      by_cases hk : s.all okC = true
      · rw [hk] at HN
        go_enter Tryz.func150, Tryz.ntmps150
        go_wp2_with (first
          | (go_at_call 183; refine ht.mono ?_; rintro e w1 ⟨t, rfl, ht2, hb⟩; rw [hk] at ht2; obtain ⟨b2, c2, w2, hcv, hs2, hb2⟩ := conv_bytes s w1 (by unfold maxLen; omega); have hcf := containsFunc_all _ s w2 hs2 hk; have hb3 := hb.trans (hb2.mono hb.size))
          | (go_at_call 184; refine hcf.mono ?_; rintro e w3 ⟨rfl, rfl⟩))
        go_ret
        exact ⟨by rw [HN.out] <;> rfl, hb3⟩
      · have hk' : s.all okC = false := by simpa using hk
        rw [hk'] at HN ht
        clear hk hk'
        go_enter Tryz.func150, Tryz.ntmps150
        go_wp2_with (go_at_call 183; refine ht.mono ?_; rintro e w1 ⟨t, rfl, ht2, hb⟩)
        go_ret
        exact ⟨by rw [HN.out] <;> rfl, hb⟩
    · have d2 : ¬ (s.length : Int) ≤ 100 := by omega
      have HN : Hid (namedB s = false) := by show _ = _; unfold namedB; rw [decide_eq_false h2, Bool.and_false]; rfl
      go_enter Tryz.func150, Tryz.ntmps150
      go_wp2
      go_ret
      exact ⟨by rw [HN.out] <;> rfl, Below.refl _ _⟩
  · have d1 : ¬ (1 : Int) ≤ (s.length : Int) := by omega
    have HN : Hid (namedB s = false) := by show _ = _; unfold namedB; rw [decide_eq_false h1]; rfl
    go_enter Tryz.func150, Tryz.ntmps150
    go_wp2
    go_ret
    exact ⟨by rw [HN.out] <;> rfl, Below.refl _ _⟩

end Go.Proofs.YtepceidajmedeaaGreatDoor

namespace Go.Proofs.YtepceidajmedeaaGreatDoor
open Go.RowKit CW

theorem run1_any (n : Bytes) (w : World) (hn : n.length ≤ 1048576) :
    Calls Tryz.prog 149 #[.string ⟨n.toArray⟩] w fun e w' => e = .returned (.bool (!namedB n)) ∧ Below w.heap.size w w' := by
  have h := named_any n w (by omega)
  generalize namedB n = b at *
  go_enter Tryz.func149, Tryz.ntmps149
  go_wp2_with (go_at_call 150; refine h.mono ?_; rintro e w1 ⟨rfl, hb⟩)
  go_ret
  exact ⟨rfl, hb⟩

set_option maxHeartbeats 400000 in
theorem indexNames_any (v : Value) (ns : List Bytes) (w : World) (hv : Row (fun _ => False) w v ns.length (ns.map stV)) (hl : ∀ n ∈ ns, n.length ≤ 1048576) :
    Calls Tryz.prog 182 #[v, .func (.func 149) #[] #[]] w fun e w' => ∃ z : Int, e = .returned (.int .i64 z) ∧ decide (0 ≤ z) = ns.any (fun n => !namedB n) ∧ Below w.heap.size w w' := by
  obtain ⟨a, cap, rfl, hn, hcap, _, hcell⟩ := Row.open hv
  go_enter Tryz.func182, Tryz.ntmps182
  go_wp2
  go_loopw [8] (fun i wr => ∃ k : Nat, k ≤ ns.length ∧ i = .int .i64 k ∧ Hid ((ns.take k).any (fun n => !namedB n) = false) ∧ Below w.heap.size w wr) (fun i _ => ns.length - (intOf i).toNat)
  case atStart => exact ⟨0, by omega, rfl, rfl, Below.refl _ _⟩
  case round =>
    obtain ⟨k, hk, rfl, HA, hB⟩ := hrel
    by_cases hlt : k < ns.length
    · obtain ⟨b, off, rfl, hbl, _, hc⟩ := hcell (by omega)
      have h1 := (hB.cell (p := ⟨b, off + k, none⟩) hbl).trans (hc k (stV ns[k]) (by simp [hlt]))
      have hn1 := run1_any ns[k] wr (hl _ (List.getElem_mem hlt))
      have HT : Hid (ns.take (k + 1) = ns.take k ++ [ns[k]]) := List.take_succ_eq_append_getElem hlt
      have hmem := List.getElem_mem hlt
      unfold stV at h1
      clear hc hcell
      have i1 : (k : Int) < (ns.length : Int) := by omega
      cases hnb : namedB ns[k] with
      | true =>
        have HA2 : Hid ((ns.take (k + 1)).any (fun n => !namedB n) = false) := by show _ = _; rw [HT.out, List.any_append, HA.out]; simp [hnb]
        rw [hnb] at hn1
        generalize ns[k] = y at *
        clear hnb HT HA
        go_wp2_with (go_at_call 149; refine hn1.mono ?_; rintro e w1 ⟨rfl, hb1⟩; have hB1 := hB.trans (hb1.mono hB.size))
        go_roundw
        case rel => exact ⟨k + 1, by omega, by go_num, HA2, hB1⟩
        case measure => simp [intOf]; omega
      | false =>
        have HE : Hid (decide ((0 : Int) ≤ (k : Int)) = ns.any (fun n => !namedB n)) := by
          show _ = _
          rw [decide_eq_true (by omega)]
          exact (List.any_eq_true.2 ⟨ns[k], hmem, by simp [hnb]⟩).symm
        rw [hnb] at hn1
        generalize ns[k] = y at *
        clear hnb HT HA
        go_wp2_with (go_at_call 149; refine hn1.mono ?_; rintro e w1 ⟨rfl, hb1⟩; have hB1 := hB.trans (hb1.mono hB.size))
        go_ret
        exact ⟨_, rfl, HE.out, hB1⟩
    · have htk : ns.take k = ns := List.take_of_length_le (by omega)
      have HE : Hid (ns.any (fun n => !namedB n) = false) := by have := HA.out; rw [htk] at this; exact this
      clear HA htk
      go_wp2
      go_ret
      exact ⟨-1, rfl, by rw [HE.out] <;> rfl, hB⟩

theorem containsNames_any (v : Value) (ns : List Bytes) (w : World) (hv : Row (fun _ => False) w v ns.length (ns.map stV)) (hl : ∀ n ∈ ns, n.length ≤ 1048576) :
    Calls Tryz.prog 148 #[v, .func (.func 149) #[] #[]] w fun e w' => e = .returned (.bool (ns.any (fun n => !namedB n))) ∧ Below w.heap.size w w' := by
  have hi := indexNames_any v ns w hv hl
  generalize ns.any (fun n => !namedB n) = b at *
  go_enter Tryz.func148, Tryz.ntmps148
  go_wp2_with (go_at_call 182; refine hi.mono ?_; rintro e w1 ⟨z, rfl, hz, hb⟩)
  go_ret
  exact ⟨by rw [← hz] <;> rfl, hb⟩

end Go.Proofs.YtepceidajmedeaaGreatDoor

namespace Go.Proofs.YtepceidajmedeaaGreatDoor
open Go.RowKit CW

theorem look_none {S : Nat → Prop} {w : World} {d mb : Nat} {D : DiskA} {qs : List Ent} (h : DiskIn S w d mb D qs) (n : Bytes) (hn : n.length ≤ 1048576) (hf : findK nq qs n = none) :
    (Instr.lookup 131 (.map (some mb)) (.string ⟨n.toArray⟩) true).run Tryz.prog w = .ok (.tuple #[.pointer none, .bool false]) w := by
  rcases ent_ptr h n hn with ⟨_, h⟩ | ⟨i, _, h, _⟩
  · exact h
  · rw [hf] at h; cases h
theorem look_some {S : Nat → Prop} {w : World} {d mb : Nat} {D : DiskA} {qs : List Ent} (h : DiskIn S w d mb D qs) (n : Bytes) (hn : n.length ≤ 1048576) (i : Nat) (hi : i < qs.length) (hf : findK nq qs n = some i) :
    (Instr.lookup 131 (.map (some mb)) (.string ⟨n.toArray⟩) true).run Tryz.prog w = .ok (.tuple #[.pointer (some ⟨qs[i].2.1, 0, none⟩), .bool true]) w := by
  rcases ent_ptr h n hn with ⟨h, _⟩ | ⟨j, hj, h, hr⟩
  · rw [hf] at h; cases h
  · rw [hf] at h; cases h; exact hr

/-- A change's result: the disk behind it, its code. -/
def DiskPost (S : Nat → Prop) (w : World) (d : Nat) (R : DiskA × Int) (e : Ending) (w' : World) : Prop :=
  ∃ S' : Nat → Prop, e = .returned (.int .i64 R.2) ∧ DiskAt S' w' d R.1 ∧ Fr S w w' ∧ ∀ k, k < w.heap.size → S' k → S k

def freshOf : OpA → Bool
  | .create => true
  | _ => false

theorem size134 : (Tryz.prog.info? 3).map (·.size) = some 1 := by kernel_rfl
theorem size4 : (Tryz.prog.info? 4).map (·.size) = some 1 := by kernel_rfl

theorem DiskIn.turn {S : Nat → Prop} {w w' : World} {d mb : Nat} {D : DiskA} {qs : List Ent} (h : DiskIn S w d mb D qs) (plan : Int) (down : Bool) (hf : Fr (fun k => k = d) w w')
    (hb : w'.heap[d]? = some (.cells #[.int .i64 D.room, .map (some mb), .int .i64 plan, .bool down] 134 (0, 0))) : DiskIn S w' d mb { D with plan := plan, down := down } qs :=
  have hm : ∀ k u, w.heap[k]? = some u → k ≠ d → w'.heap[k]? = some u := fun k u hk hne => (hf.block k (Array.getElem?_eq_some_iff.1 hk).1 hne).trans hk
  { files := h.files
    blk := hb
    map := by
      obtain ⟨es, clock, h1, r⟩ := h.map
      refine ⟨es, clock, hm mb _ h1 (fun e => ?_), r⟩
      rw [e, h.blk] at h1
      cases h1
    file := fun q hq => by
      refine ⟨hm _ _ (h.file q hq).1 (fun e => ?_), ?_⟩
      · have := (h.file q hq).1
        rw [e, h.blk] at this
        simp at this
      · refine ⟨(h.file q hq).2.1, ?_⟩
        rcases (h.file q hq).2.2 with h' | ⟨g, cap, cur, hv, hg, hh, r⟩
        · exact .inl h'
        · refine .inr ⟨g, cap, cur, hv, hg, hm g _ hh (fun e => ?_), r⟩
          rw [e, h.blk] at hh
          cases hh
    apart := h.apart
    sorted := h.sorted
    inD := h.inD
    inM := h.inM
    inF := h.inF
    lt := fun k hk => Nat.lt_of_lt_of_le (h.lt k hk) hf.size
    name := h.name }

set_option maxHeartbeats 2000000 in
set_option maxRecDepth 100000 in
theorem run_down {S : Nat → Prop} (D : DiskA) (d : Nat) (w : World) (h : DiskAt S w d D) (o : OpA) (n : Bytes) (c : Value) (cs : Array Value) (hc : c = .agg cs) (hd : D.down = true) :
    Calls Tryz.prog 103 #[.pointer (some ⟨d, 0, none⟩), c] w (DiskPost S w d (doA D o n)) := by
  have e : doA D o n = (D, 10) := by unfold doA; rw [if_pos hd]
  rw [e]
  subst hc
  obtain ⟨mb, qs, h⟩ := h
  have hb := h.blk
  rw [hd] at hb
  have hB := (boxF w (.cells cs 154)).1
  have hb1 := (hB.block d (h.lt d h.inD)).trans hb
  obtain ⟨c0, c1, c2, c3⟩ := cells4 hb1
  go_enter Tryz.func103, Tryz.ntmps103
  go_wp2
  go_ret
  exact ⟨S, rfl, ⟨mb, qs, h.below hB⟩, Fr.of_below hB, fun _ _ h => h⟩

theorem turn2 {W : World} {d : Nat} {a b c e u : Value} {t : TypeId} (h : W.heap[d]? = some (.cells ([a, b, c, e].set 2 u).toArray t (0, 0))) : W.heap[d]? = some (.cells #[a, b, u, e] t (0, 0)) := h
theorem turn3 {W : World} {d : Nat} {a b c e u : Value} {t : TypeId} (h : W.heap[d]? = some (.cells ([a, b, c, e].set 3 u).toArray t (0, 0))) : W.heap[d]? = some (.cells #[a, b, c, u] t (0, 0)) := h

set_option maxHeartbeats 2000000 in
set_option maxRecDepth 100000 in
theorem run_plan {S : Nat → Prop} (D : DiskA) (d : Nat) (w : World) (h : DiskAt S w d D) (o : OpA) (n : Bytes) (c : Value) (cs : Array Value) (hc : c = .agg cs) (hd : D.down = false) (hp : D.plan = 1) :
    Calls Tryz.prog 103 #[.pointer (some ⟨d, 0, none⟩), c] w (DiskPost S w d (doA D o n)) := by
  have e : doA D o n = ({ D with plan := 0, down := true }, 10) := by unfold doA; rw [if_neg (by rw [hd]; decide), if_pos hp]
  rw [e]
  subst hc
  obtain ⟨mb, qs, h⟩ := h
  have hb := h.blk
  rw [hd, hp] at hb
  have hB := (boxF w (.cells cs 154)).1
  have hb1 := (hB.block d (h.lt d h.inD)).trans hb
  have h1 := h.below hB
  obtain ⟨c0, c1, c2, c3⟩ := cells4 hb1
  go_enter Tryz.func103, Tryz.ntmps103
  go_wp2_with (first
    | ((with_reducible refine at_sto ?_); refine wpList_store_fld rfl (ty := 3) (x := .tmp 24) rfl d 2 134 (.int .i64 0) _ rfl rfl hb1 (by simp) size134 rfl rfl ?_; intro W1 hV1 hV2 hV3; replace hV1 := turn2 hV1)
    | ((with_reducible refine at_sto ?_); refine wpList_store_fld rfl (ty := 4) (x := .tmp 26) rfl d 3 134 (.bool true) _ rfl rfl hV1 (by simp) size4 rfl rfl ?_; intro W2 hU1 hU2 hU3; replace hU1 := turn3 hU1))
  go_ret
  have hF : Fr (fun k => k = d) (w.alloc (.cells cs 154)) W2 := hV2.trans hU2 (fun _ _ h => h)
  refine ⟨S, rfl, ⟨mb, qs, h1.turn 0 true hF hU1⟩, ?_, fun _ _ h => h⟩
  exact ((Fr.of_below hB).trans hF (fun k _ hk => by rw [hk]; exact h.inD))

/-- The pointer that the change is handed. -/
def ptrOf (qs : List Ent) (n : Bytes) : Value := match (findK nq qs n).bind (fun i => qs[i]?) with | some q => .pointer (some ⟨q.2.1, 0, none⟩) | none => .pointer none

theorem DiskPost.trans {S : Nat → Prop} {w W : World} {d : Nat} {R : DiskA × Int} {e : Ending} {w' : World} (h : DiskPost S W d R e w') (hf : Fr S w W) : DiskPost S w d R e w' := by
  obtain ⟨S', h1, h2, h3, h4⟩ := h
  exact ⟨S', h1, h2, hf.trans h3 (fun _ _ h => h), fun k hk => h4 k (Nat.lt_of_lt_of_le hk hf.size)⟩

theorem bodyK_unnamed (D : DiskA) (o : OpA) (n : Bytes) (h : namedB n = false) : bodyA D o n = (D, 6) := by unfold bodyA; rw [if_pos h]
theorem findF_qs {qs : List Ent} {D : DiskA} (h : qs.map (·.1) = D.files) (n : Bytes) : findF D.files n = findK nq qs n := by
  rw [← h]; exact findK_map (key' := FileA.name) (key := nq) (fun p : Ent => p.1) (fun _ => rfl) qs n
theorem bodyK_twice (D : DiskA) (n : Bytes) (h : namedB n = true) (hf : (findF D.files n).isSome = true) : bodyA D .create n = (D, 7) := by
  obtain ⟨i, hi⟩ := Option.isSome_iff_exists.1 hf
  obtain ⟨hl, _⟩ := findK_some hi
  unfold bodyA; rw [if_neg (by rw [h]; decide), hi]; simp [List.getElem?_eq_getElem hl]
theorem bodyK_miss (D : DiskA) (o : OpA) (n : Bytes) (ho : freshOf o = false) (hf : (findF D.files n).isSome = false) : bodyA D o n = (D, 6) := by
  have hf : findF D.files n = none := by simpa using hf
  unfold bodyA
  split
  · rfl
  · rw [hf]
    cases o <;> first | rfl | cases ho

theorem ptrOf_some {qs : List Ent} {n : Bytes} {i : Nat} (hi : i < qs.length) (h : findK nq qs n = some i) : ptrOf qs n = .pointer (some ⟨qs[i].2.1, 0, none⟩) := by unfold ptrOf; rw [h]; simp [List.getElem?_eq_getElem hi]
theorem ptrOf_none {qs : List Ent} {n : Bytes} (h : findK nq qs n = none) : ptrOf qs n = .pointer none := by unfold ptrOf; rw [h]; rfl
theorem ptrOf_ptr (qs : List Ent) (n : Bytes) : ∃ pa, ptrOf qs n = .pointer pa := by
  unfold ptrOf
  split
  · exact ⟨_, rfl⟩
  · exact ⟨_, rfl⟩
theorem look_any {S : Nat → Prop} {w : World} {d mb : Nat} {D : DiskA} {qs : List Ent} (h : DiskIn S w d mb D qs) (n : Bytes) (hn : n.length ≤ 1048576) :
    (Instr.lookup 131 (.map (some mb)) (.string ⟨n.toArray⟩) true).run Tryz.prog w = .ok (.tuple #[ptrOf qs n, .bool (findK nq qs n).isSome]) w := by
  rcases ent_ptr h n hn with ⟨hf, h⟩ | ⟨i, hi, hf, hr⟩
  · rw [ptrOf_none hf, hf]; exact h
  · rw [ptrOf_some hi hf, hf]; exact hr

set_option maxHeartbeats 4000000 in
set_option maxRecDepth 100000 in
theorem run_open {S : Nat → Prop} (D : DiskA) (d : Nat) (w : World) (h : DiskAt S w d D) (o : OpA) (n : Bytes) (hn : n.length ≤ 1048576) (vn : Value) (hvn : Row S w vn 1 [stV n]) (f : Nat) (hfe : ∀ args W, (callFunc f args).run Tryz.prog W = .ok (.enter f args) W) (caps : Array Value) (hd : D.down = false) (hp : D.plan ≠ 1) (hp0 : 0 ≤ D.plan) (hp1 : D.plan ≤ 4611686018427387904)
    (hdo : ∀ W mb qs, DiskIn S W d mb { D with plan := planA D.plan } qs → Fr S w W → namedB n = true → (findK nq qs n).isSome = (!freshOf o) → Calls Tryz.prog f (#[ptrOf qs n] ++ caps) W (DiskPost S W d (bodyA { D with plan := planA D.plan } o n))) :
    Calls Tryz.prog 103 #[.pointer (some ⟨d, 0, none⟩), .agg #[vn, .bool (freshOf o), .func (.func f) #[] caps]] w (DiskPost S w d (doA D o n)) := by
  have e : doA D o n = bodyA { D with plan := planA D.plan } o n := by unfold doA; rw [if_neg (by rw [hd]; decide), if_neg hp]
  rw [e]
  clear e
  obtain ⟨room, files, plan, down⟩ := D
  obtain ⟨mb, qs, h⟩ := h
  simp only at hd hp hp0 hp1
  subst hd
  have hb : w.heap[d]? = some (.cells #[.int .i64 room, .map (some mb), .int .i64 plan, .bool false] 134 (0, 0)) := h.blk
  have hd1 : (plan == 1) = false := by simpa using hp
  have HP : Hid (planA plan = max (plan - 1) 0) := rfl
  obtain ⟨fr, hfr⟩ : ∃ fr, freshOf o = fr := ⟨_, rfl⟩
  have HFR : Hid (freshOf o = fr) := hfr
  rw [hfr] at hdo ⊢
  clear hfr
  obtain ⟨an, capn, rfl, hn1, hn2, _, hcn⟩ := hvn.open
  obtain ⟨bn, on, rfl, hbn, hSn, hcn⟩ := hcn (by omega)
  have hB := (boxF w (.cells #[.slice (some ⟨bn, on, none⟩) 1 capn, .bool fr, .func (.func f) #[] caps] 154)).1
  have hx := (boxF w (.cells #[.slice (some ⟨bn, on, none⟩) 1 capn, .bool fr, .func (.func f) #[] caps] 154)).2.2
  have hz := (boxF w (.cells #[.slice (some ⟨bn, on, none⟩) 1 capn, .bool fr, .func (.func f) #[] caps] 154)).2.1
  have hb1 := (hB.block d (h.lt d h.inD)).trans hb
  have h1 := h.below hB
  have hdlt := h.lt d h.inD
  obtain ⟨c0, c1, c2, c3⟩ := cells4 hb1
  go_enter Tryz.func103, Tryz.ntmps103
  go_wp2_with ((with_reducible refine at_sto ?_); refine wpList_store_fld rfl (ty := 3) (x := .tmp 35) rfl d 2 134 (.int .i64 (max (plan - 1) 0)) _ rfl rfl hb1 (by simp) size134 rfl rfl ?_; intro W1 hV1 hV2 hV3; replace hV1 := turn2 hV1)
  have hin := h1.turn (max (plan - 1) 0) false hV2 hV1
  have hfw : Fr S w W1 := (Fr.of_below hB).trans hV2 (fun k _ hk => by rw [hk]; exact h.inD)
  have hx1 := (hV2.block w.heap.size (by omega) (by intro e; omega)).trans hx
  have hnc : W1.cell? ⟨bn, on, none⟩ = some (.string ⟨n.toArray⟩) := by
    rw [World.cell?_of_block (w := w) (a := ⟨bn, on, none⟩) (hfw.block bn hbn hSn)]
    exact hcn 0 (stV n) rfl
  have hrow1 : Row (fun _ => False) W1 (.slice (some ⟨bn, on, none⟩) 1 capn) 1 [stV n] := hvn.fr hfw (fun _ h => h) (fun _ _ h => h.elim)
  clear hdlt c0 c1 c2 c3 hb1 hx hcn
  generalize (w.alloc (.cells #[.slice (some ⟨bn, on, none⟩) 1 capn, .bool fr, .func (.func f) #[] caps] 154)) = W0 at *
  rw [← HP.out] at hV1 hin
  have hlk : ∀ m, (Instr.lookup 131 (.map (some mb)) (.string ⟨n.toArray⟩) true).run Tryz.prog (W1.drewN m) = .ok (.tuple #[ptrOf qs n, .bool (findK nq qs n).isSome]) (W1.drewN m) := fun m => look_any (hin.below (below_drewN' (Below.refl _ _) m)) n hn
  have hdo1 := fun W (hW : Below W1.heap.size W1 W) => hdo W mb qs (hin.below hW) (hfw.trans (Fr.of_below hW (F := fun _ => False)) (fun _ _ h => h.elim))
  have HFQ : Hid (findF files n = findK nq qs n) := findF_qs hin.files n
  obtain ⟨pa, hpa⟩ := ptrOf_ptr qs n
  rw [hpa] at hlk hdo1
  obtain ⟨ok, hok⟩ : ∃ ok, (findK nq qs n).isSome = ok := ⟨_, rfl⟩
  have HOK : Hid ((findF files n).isSome = ok) := by show _ = _; rw [HFQ.out]; exact hok
  rw [hok] at hlk hdo1
  clear hdo hok hpa
  obtain ⟨c0, c1, c2, c3⟩ := cells4 hV1
  obtain ⟨x0, x1, x2⟩ := cells3 hx1
  have ip : (0 : Int) < (1 : Nat) := by decide
  go_wp2
  go_quiet (fail)
  have hBq : Below W1.heap.size W1 (W1.drewN nq) := below_drewN' (Below.refl _ _) nq
  have hx2 := (hBq.block w.heap.size (by omega)).trans hx1
  have hrow2 := hrow1.below hBq
  have hin2 := hin.below hBq
  generalize W1.drewN nq = Wq at *
  obtain ⟨x0', x1', x2'⟩ := cells3 hx2
  have hcf := containsNames_any _ [n] Wq hrow2 (by intro m hm; simp at hm; subst hm; exact hn)
  have hnm : [n].any (fun n => !namedB n) = !namedB n := by simp
  rw [hnm] at hcf
  clear c0 c1 c2 c3 x0 x1 x2 hlk ip hnc hnm
  go_wp2_with fail
  refine hcf.mono ?_
  rintro e W2 ⟨rfl, hb2⟩
  have hx3 := (hb2.block w.heap.size (by have := hBq.size; omega)).trans hx2
  obtain ⟨z0, z1, z2⟩ := cells3 hx3
  have hB2 : Below W1.heap.size W1 W2 := hBq.trans (hb2.mono hBq.size)
  have hin3 := hin.below hB2
  have hf3 : Fr S w W2 := hfw.trans (Fr.of_below hB2 (F := fun _ => False)) (fun _ _ h => h.elim)
  have hdo2 := hdo1 W2 hB2
  clear x0' x1' x2' hcf hdo1 hrow1 hrow2
  cases hnb : namedB n with
  | false =>
    have HR : Hid (bodyA ⟨room, files, planA plan, false⟩ o n = (⟨room, files, planA plan, false⟩, 6)) := bodyK_unnamed _ _ _ hnb
    go_wp2
    go_ret
    show DiskPost S w d (bodyA _ o n) _ _
    rw [HR.out]
    exact ⟨S, rfl, ⟨mb, qs, hin3⟩, hf3, fun _ _ h => h⟩
  | true =>
    cases fr with
    | true =>
      have ho : o = .create := by
        have := HFR.out
        cases o <;> first | rfl | cases this
      subst ho
      cases ok with
      | true =>
        have HR : Hid (bodyA ⟨room, files, planA plan, false⟩ .create n = (⟨room, files, planA plan, false⟩, 7)) := bodyK_twice ⟨room, files, planA plan, false⟩ _ hnb HOK.out
        go_wp2
        go_ret
        show DiskPost S w d (bodyA _ .create n) _ _
        rw [HR.out]
        exact ⟨S, rfl, ⟨mb, qs, hin3⟩, hf3, fun _ _ h => h⟩
      | false =>
        have hdo3 := hdo2 hnb rfl
        clear hdo2
        go_wp2_with fail
        refine hdo3.mono ?_
        rintro e W3 hP
        obtain ⟨S', rfl, hP2, hP3, hP4⟩ := hP
        go_wp2
        go_ret
        exact ⟨S', rfl, hP2, hf3.trans hP3 (fun _ _ h => h), fun k hk => hP4 k (Nat.lt_of_lt_of_le hk hf3.size)⟩
    | false =>
      cases ok with
      | false =>
        have HR : Hid (bodyA ⟨room, files, planA plan, false⟩ o n = (⟨room, files, planA plan, false⟩, 6)) := bodyK_miss _ _ _ HFR.out HOK.out
        go_wp2
        go_ret
        show DiskPost S w d (bodyA _ o n) _ _
        rw [HR.out]
        exact ⟨S, rfl, ⟨mb, qs, hin3⟩, hf3, fun _ _ h => h⟩
      | true =>
        have hdo3 := hdo2 hnb rfl
        clear hdo2
        go_wp2_with fail
        refine hdo3.mono ?_
        rintro e W3 hP
        obtain ⟨S', rfl, hP2, hP3, hP4⟩ := hP
        go_wp2
        go_ret
        exact ⟨S', rfl, hP2, hf3.trans hP3 (fun _ _ h => h), fun k hk => hP4 k (Nat.lt_of_lt_of_le hk hf3.size)⟩

end Go.Proofs.YtepceidajmedeaaGreatDoor

namespace Go.Proofs.YtepceidajmedeaaGreatDoor
open Go.RowKit CW

theorem insK_perm {α : Type} {key : α → Bytes} (l : List α) (x : α) : (insK key l x).Perm (x :: l) := by
  unfold insK
  refine List.perm_middle.trans ?_
  rw [List.takeWhile_append_dropWhile]

def Apart (p q : Ent) : Prop := p.2.1 ≠ q.2.1 ∧ ∀ g, p.2.2.ownBlock = some g → q.2.2.ownBlock ≠ some g
theorem Apart.symm {p q : Ent} (h : Apart p q) : Apart q p := ⟨fun e => h.1 e.symm, fun g hq hp => h.2 g hp hq⟩

/-- A new file. -/
theorem DiskIn.ins {S : Nat → Prop} {w w' : World} {d mb fb m : Nat} {D : DiskA} {qs : List Ent} (h : DiskIn S w d mb D qs) (n : Bytes) (hn : n.length ≤ 100) (hf : findK nq qs n = none) (hfb : fb = w.heap.size) (hlt : fb < w'.heap.size)
    (hfr : Fr (fun k => k = mb) w w') (hmap : w'.ownsMap Tryz.prog 9 ptrE mb m ((mapQ qs).put (.string n) (.lit (.int .i64 (fb : Int)))))
    (hnew : w'.heap[fb]? = some (.cells #[.slice none 0 0, .int .i64 0] 151 (0, 0))) :
    DiskIn (fun k => S k ∨ k = fb) w' d mb { D with files := putF D.files ⟨n, [], 0⟩ } (putK nq qs (⟨n, [], 0⟩, fb, .slice none 0 0)) := by
  have hm : ∀ k u, w.heap[k]? = some u → k ≠ mb → w'.heap[k]? = some u := fun k u hk hne => (hfr.block k (Array.getElem?_eq_some_iff.1 hk).1 hne).trans hk
  obtain ⟨es, clock, hmb, _⟩ := h.map
  have hne : ∀ k cs t fz, w.heap[k]? = some (Obj.cells cs t fz) → w'.heap[k]? = some (Obj.cells cs t fz) := fun k cs t fz hk => hm k _ hk (fun e => by rw [e, hmb] at hk; cases hk)
  have hwo : withoutK nq qs n = qs := withoutK_of_not (findK_none.1 hf)
  have hmem : ∀ q, q ∈ putK nq qs (⟨n, [], 0⟩, fb, .slice none 0 0) ↔ q = (⟨n, [], 0⟩, fb, .slice none 0 0) ∨ q ∈ qs := fun q => by
    rw [mem_putK]
    constructor
    · rintro (h | h); exact .inl h; exact .inr h.1
    · rintro (h | h); exact .inl h; exact .inr ⟨h, findK_none.1 hf q h⟩
  refine
  { files := ?_
    blk := hne _ _ _ _ h.blk
    map := ?_
    file := fun q hq => ?_
    apart := ?_
    sorted := putK_sorted h.sorted _
    inD := .inl h.inD
    inM := .inl h.inM
    inF := fun q hq => ?_
    lt := fun k hk => ?_
    name := fun q hq => ?_ }
  · show _ = putF D.files ⟨n, [], 0⟩
    rw [← h.files]
    exact (putK_map (key' := FileA.name) (key := nq) (fun p : Ent => p.1) (fun _ => rfl) qs (⟨n, [], 0⟩, fb, .slice none 0 0)).symm
  · have e : (mapQ qs).put (.string n) (.lit (.int .i64 (fb : Int))) = mapQ (putK nq qs (⟨n, [], 0⟩, fb, .slice none 0 0)) := mapK_put (key := nq) dq qs (⟨n, [], 0⟩, fb, .slice none 0 0)
    rw [e] at hmap
    have := ownsMap_tight hmap
    rwa [mapK_size] at this
  · rcases (hmem q).1 hq with rfl | hq
    · exact ⟨hnew, World.ownsRow_nil _ _ _ _⟩
    · refine ⟨hne _ _ _ _ (h.file q hq).1, (h.file q hq).2.1, ?_⟩
      rcases (h.file q hq).2.2 with h' | ⟨g, cap, cur, hv, hg, hh, r⟩
      · exact .inl h'
      · exact .inr ⟨g, cap, cur, hv, hg, hne _ _ _ _ hh, r⟩
  · show (insK nq (withoutK nq qs n) _).Pairwise Apart
    rw [hwo]
    refine ((insK_perm _ _).pairwise_iff (fun h => Apart.symm h)).2 (List.pairwise_cons.2 ⟨fun q hq => ⟨fun e => ?_, fun g hg => by cases hg⟩, h.apart⟩)
    have e : fb = q.2.1 := e
    have := h.lt _ (h.inF q hq).1
    omega
  · rcases (hmem q).1 hq with rfl | hq
    · exact ⟨.inr rfl, fun g hg => by cases hg⟩
    · exact ⟨.inl (h.inF q hq).1, fun g hg => .inl ((h.inF q hq).2 g hg)⟩
  · rcases hk with hk | rfl
    · exact Nat.lt_of_lt_of_le (h.lt k hk) hfr.size
    · exact hlt
  · rcases (hmem q).1 hq with rfl | hq
    · exact hn
    · exact h.name q hq

theorem pairwise_set {α : Type} {R : α → α → Prop} (hsym : ∀ {a b}, R a b → R b a) {l : List α} {i : Nat} (_hi : i < l.length) {x : α} (h : l.Pairwise R) (hx : ∀ j (hj : j < l.length), j ≠ i → R l[j] x) : (l.set i x).Pairwise R := by
  rw [List.pairwise_iff_getElem] at *
  intro a b ha hb hab
  rw [List.length_set] at ha hb
  rw [List.getElem_set, List.getElem_set]
  by_cases h1 : i = a
  · subst h1
    rw [if_pos rfl, if_neg (by omega)]
    exact hsym (hx b hb (by omega))
  · rw [if_neg h1]
    by_cases h2 : i = b
    · subst h2
      rw [if_pos rfl]
      exact hx a ha (by omega)
    · rw [if_neg h2]
      exact h a b ha hb hab

/-- A file's turn. -/
theorem DiskIn.upd {S : Nat → Prop} {w w' : World} {d mb : Nat} {D : DiskA} {qs : List Ent} (h : DiskIn S w d mb D qs) (i : Nat) (hi : i < qs.length) (f' : FileA) (v' : Value) (hnm : f'.name = qs[i].1.name)
    (hfr : Fr (fun k => k = qs[i].2.1 ∨ qs[i].2.2.ownBlock = some k) w w')
    (hblk : w'.heap[qs[i].2.1]? = some (.cells #[v', .int .i64 (f'.dur : Int)] 151 (0, 0))) (hrow : w'.ownsRow 0 5 1 v' f'.b.length (f'.b.map encB))
    (hown : v'.ownBlock = qs[i].2.2.ownBlock ∨ ∀ g, v'.ownBlock = some g → w.heap.size ≤ g) :
    DiskIn (fun k => S k ∨ (w.heap.size ≤ k ∧ k < w'.heap.size)) w' d mb { D with files := putF D.files f' } (qs.set i (f', qs[i].2.1, v')) := by
  have hq := h.file qs[i] (List.getElem_mem hi)
  have hqF := h.inF qs[i] (List.getElem_mem hi)
  have hset : putK nq qs (f', qs[i].2.1, v') = qs.set i (f', qs[i].2.1, v') := putK_set h.sorted hi hnm
  -- blocks that are not the file's
  have hown' : ∀ k, qs[i].2.2.ownBlock = some k → ∃ cs, w.heap[k]? = some (.cells cs 5 (0, 0)) := fun k hk => by
    rcases hq.2.2 with ⟨hv, _⟩ | ⟨g, cap, cur, hv, _, hh, _⟩
    · rw [hv] at hk; cases hk
    · rw [hv] at hk; cases hk; exact ⟨_, hh⟩
  have hm : ∀ k u, w.heap[k]? = some u → k ≠ qs[i].2.1 → qs[i].2.2.ownBlock ≠ some k → w'.heap[k]? = some u := fun k u hk h1 h2 => (hfr.block k (Array.getElem?_eq_some_iff.1 hk).1 (by rintro (e | e); exact h1 e; exact h2 e)).trans hk
  have hmem : ∀ q, q ∈ qs.set i (f', qs[i].2.1, v') → q = (f', qs[i].2.1, v') ∨ ∃ j, ∃ hj : j < qs.length, j ≠ i ∧ q = qs[j] := fun q hq => by
    obtain ⟨j, hj, rfl⟩ := List.mem_iff_getElem.1 hq
    rw [List.length_set] at hj
    rw [List.getElem_set]
    split
    · exact .inl rfl
    · exact .inr ⟨j, hj, fun e => by omega, rfl⟩
  have hap : ∀ j (hj : j < qs.length), j ≠ i → Apart qs[j] qs[i] := fun j hj hne => by
    have hp := List.pairwise_iff_getElem.1 h.apart
    rcases Nat.lt_or_gt_of_ne hne with h' | h'
    · exact hp j i hj hi h'
    · exact Apart.symm (hp i j hi hj h')
  refine
  { files := ?_
    blk := ?_
    map := ?_
    file := fun q hq' => ?_
    apart := ?_
    sorted := ?_
    inD := .inl h.inD
    inM := .inl h.inM
    inF := fun q hq' => ?_
    lt := fun k hk => ?_
    name := fun q hq' => ?_ }
  · show _ = putF D.files f'
    rw [← hset, ← h.files]
    exact (putK_map (key' := FileA.name) (key := nq) (fun p : Ent => p.1) (fun _ => rfl) qs (f', qs[i].2.1, v')).symm
  · refine hm _ _ h.blk (fun e => ?_) (fun e => ?_)
    · have h1 := hq.1
      rw [← e, h.blk] at h1
      simp at h1
    · obtain ⟨cs, h1⟩ := hown' _ e
      rw [h.blk] at h1
      simp at h1
  · obtain ⟨es, clock, hmb, r⟩ := h.map
    have e : mapQ (qs.set i (f', qs[i].2.1, v')) = mapQ qs := by
      unfold mapQ mapK
      rw [List.map_set]
      congr 1
      refine List.ext_getElem (by simp) fun j h1 h2 => ?_
      rw [List.getElem_set]
      split
      · rename_i hji
        subst hji
        simp [dq, nq, hnm]
      · rfl
    rw [e, List.length_set]
    refine ⟨es, clock, hm _ _ hmb (fun e => ?_) (fun e => ?_), r⟩
    · have h1 := hq.1
      rw [← e, hmb] at h1
      cases h1
    · obtain ⟨cs, h1⟩ := hown' _ e
      rw [hmb] at h1
      cases h1
  · rcases hmem q hq' with rfl | ⟨j, hj, hne, rfl⟩
    · exact ⟨hblk, hrow⟩
    · have hj' := h.file qs[j] (List.getElem_mem hj)
      have ha := hap j hj hne
      refine ⟨hm _ _ hj'.1 ha.1 (fun e => ?_), hj'.2.1, ?_⟩
      · obtain ⟨cs, h1⟩ := hown' _ e
        rw [hj'.1] at h1
        simp at h1
      · rcases hj'.2.2 with h' | ⟨g, cap, cur, hv, hg, hh, r⟩
        · exact .inl h'
        · refine .inr ⟨g, cap, cur, hv, hg, hm _ _ hh (fun e => ?_) (fun e => ?_), r⟩
          · have h1 := hq.1
            rw [← e, hh] at h1
            simp at h1
          · exact ha.2 g (by rw [hv]; rfl) e
  · refine pairwise_set (R := Apart) (fun h => Apart.symm h) hi h.apart (fun j hj hne => ?_)
    have ha := hap j hj hne
    refine ⟨ha.1, fun g hg e => ?_⟩
    have e : v'.ownBlock = some g := e
    rcases hown with ho | ho
    · rw [ho] at e
      exact ha.2 g hg e
    · have h1 := ho g e
      have h2 := h.lt g ((h.inF qs[j] (List.getElem_mem hj)).2 g hg)
      omega
  · rw [← hset]
    exact putK_sorted h.sorted _
  · rcases hmem q hq' with rfl | ⟨j, hj, hne, rfl⟩
    · refine ⟨.inl hqF.1, fun g hg => ?_⟩
      have hg : v'.ownBlock = some g := hg
      rcases hown with ho | ho
      · exact .inl (hqF.2 g (by rw [← ho]; exact hg))
      · refine .inr ⟨ho g hg, ?_⟩
        rcases hrow.2 with ⟨hv, _⟩ | ⟨g', cap, cur, hv, _, hh, _⟩
        · rw [hv] at hg; cases hg
        · rw [hv] at hg; cases hg; exact (Array.getElem?_eq_some_iff.1 hh).1
    · exact ⟨.inl (h.inF _ (List.getElem_mem hj)).1, fun g hg => .inl ((h.inF _ (List.getElem_mem hj)).2 g hg)⟩
  · rcases hk with hk | hk
    · exact Nat.lt_of_lt_of_le (h.lt k hk) hfr.size
    · exact hk.2
  · rcases hmem q hq' with rfl | ⟨j, hj, hne, rfl⟩
    · show f'.name.length ≤ 100
      rw [hnm]
      exact h.name _ (List.getElem_mem hi)
    · exact h.name _ (List.getElem_mem hj)

end Go.Proofs.YtepceidajmedeaaGreatDoor

namespace Go.Proofs.YtepceidajmedeaaGreatDoor
open Go.RowKit CW

theorem bodyK_sync (D : DiskA) (n : Bytes) (i : Nat) (h : namedB n = true) (hf : findF D.files n = some i) (f : FileA) (hi : D.files[i]? = some f) : bodyA D .sync n = ({ D with files := putF D.files ⟨f.name, f.b, f.b.length⟩ }, 0) := by
  unfold bodyA; rw [if_neg (by rw [h]; decide), hf]; simp [hi]
theorem bodyK_new (D : DiskA) (n : Bytes) (h : namedB n = true) (hf : findF D.files n = none) : bodyA D .create n = ({ D with files := putF D.files ⟨n, [], 0⟩ }, 0) := by unfold bodyA; rw [if_neg (by rw [h]; decide), hf]; rfl
theorem named_len {n : Bytes} (h : namedB n = true) : n.length ≤ 100 := by
  unfold namedB at h
  simp only [Bool.and_eq_true, decide_eq_true_eq] at h
  exact h.1.2
theorem files_get {qs : List Ent} {D : DiskA} (h : qs.map (·.1) = D.files) (i : Nat) (hi : i < qs.length) : D.files[i]? = some qs[i].1 := by rw [← h, List.getElem?_map, List.getElem?_eq_getElem hi]; rfl

set_option maxHeartbeats 1000000 in
theorem sync1_any {S : Nat → Prop} (D : DiskA) (d mb : Nat) (qs : List Ent) (w : World) (h : DiskIn S w d mb D qs) (n : Bytes) (i : Nat) (hi : i < qs.length) (hf : findK nq qs n = some i) (hnb : namedB n = true) :
    Calls Tryz.prog 143 #[.pointer (some ⟨qs[i].2.1, 0, none⟩)] w (DiskPost S w d (bodyA D .sync n)) := by
  have hq := h.file qs[i] (List.getElem_mem hi)
  obtain ⟨_, hkey⟩ := findK_some hf
  have e : bodyA D .sync n = ({ D with files := putF D.files ⟨qs[i].1.name, qs[i].1.b, qs[i].1.b.length⟩ }, 0) := bodyK_sync D n i hnb (by rw [findF_qs h.files]; exact hf) qs[i].1 (files_get h.files i hi)
  rw [e]
  have hup := fun w' (h1 : Fr (fun k => k = qs[i].2.1) w w') (h2 : w'.heap[qs[i].2.1]? = some (.cells #[qs[i].2.2, .int .i64 (qs[i].1.b.length : Int)] 151 (0, 0))) =>
    h.upd i hi ⟨qs[i].1.name, qs[i].1.b, qs[i].1.b.length⟩ qs[i].2.2 rfl (h1.mono (fun k _ hk => .inl hk)) h2 (ownsRow_block hq.2 (fun g hg => by
      rcases hq.2.2 with ⟨hv, _⟩ | ⟨g', cap, cur, hv, _, hh, _⟩
      · rw [hv] at hg; cases hg
      · rw [hv] at hg; cases hg
        refine h1.block _ (Array.getElem?_eq_some_iff.1 hh).1 (fun e => ?_)
        have h3 := hq.1
        rw [← e, hh] at h3
        simp at h3)) (.inl rfl)
  have hS : S qs[i].2.1 := (h.inF _ (List.getElem_mem hi)).1
  obtain ⟨a, cap, hv, h1, h2, _⟩ := (Row.of_owns hq.2).open
  have hb := hq.1
  rw [hv] at hb hup
  obtain ⟨c0, c1⟩ := cells2 hb
  clear hq hf hv e
  have HUP := hup
  clear hup
  generalize (putF D.files ⟨qs[i].1.name, qs[i].1.b, qs[i].1.b.length⟩) = fs' at *
  generalize (qs.set i (⟨qs[i].1.name, qs[i].1.b, qs[i].1.b.length⟩, qs[i].2.1, .slice a qs[i].1.b.length cap)) = qs' at *
  generalize qs[i].2.1 = fb at *
  generalize qs[i].1.b.length = m at *
  go_enter Tryz.func143, Tryz.ntmps143
  go_wp2_with ((with_reducible refine at_sto ?_); refine wpList_store_fld rfl (ty := 3) (x := .tmp 10) rfl fb 1 151 (.int .i64 (m : Int)) _ rfl rfl hb (by simp) size134 rfl rfl ?_; intro W hV1 hV2 hV3)
  go_ret
  exact ⟨_, rfl, ⟨mb, qs', HUP W hV2 hV1⟩, hV2.mono (fun k _ hk => by rw [hk]; exact hS), fun k hk hs => hs.elim id (fun h => absurd hk (by omega))⟩

set_option maxHeartbeats 1000000 in
theorem sync_any {S : Nat → Prop} (D : DiskA) (d : Nat) (w : World) (h : DiskAt S w d D) (n : Bytes) (hn : n.length ≤ 1048576) (hp0 : 0 ≤ D.plan) (hp1 : D.plan ≤ 4611686018427387904) :
    Calls Tryz.prog 83 #[.pointer (some ⟨d, 0, none⟩), .string ⟨n.toArray⟩] w (DiskPost S w d (doA D .sync n)) := by
  have hB := (boxF w (.cells #[.string ⟨n.toArray⟩] 9)).1
  have hrow : Row S (w.alloc (.cells #[.string ⟨n.toArray⟩] 9)) (.slice (some ⟨w.heap.size, 0, none⟩) 1 1) 1 [stV n] := by
    obtain ⟨mb, qs, h'⟩ := h
    exact (Row.lit (size := 1) (base := w.heap.size) (Nat.le_refl _) (by decide) rfl rfl).mono (fun k _ hk => h'.lt k hk)
  have hw := h.below hB
  have hrun : Calls Tryz.prog 103 #[.pointer (some ⟨d, 0, none⟩), .agg #[.slice (some ⟨w.heap.size, 0, none⟩) 1 1, .bool false, .func (.func 143) #[] #[]]] (w.alloc (.cells #[.string ⟨n.toArray⟩] 9)) (DiskPost S (w.alloc (.cells #[.string ⟨n.toArray⟩] 9)) d (doA D .sync n)) := by
    cases hd : D.down with
    | true => exact run_down D d _ hw .sync n _ _ rfl hd
    | false =>
      by_cases hp : D.plan = 1
      · exact run_plan D d _ hw .sync n _ _ rfl hd hp
      · refine run_open D d _ hw .sync n hn _ hrow 143 (Go.Proofs.enters_of Tryz.func143 (by kernel_rfl) rfl) #[] hd hp hp0 hp1 (fun W mb qs hin hF hnb hok => ?_)
        obtain ⟨i, hf⟩ := Option.isSome_iff_exists.1 (show (findK nq qs n).isSome = true from hok)
        obtain ⟨hi, _⟩ := findK_some hf
        rw [ptrOf_some hi hf]
        exact sync1_any _ d mb qs W hin n i hi hf hnb
  go_enter Tryz.func83, Tryz.ntmps83
  go_wp2_with (go_at_call 103; refine hrun.mono ?_; rintro e w1 hP; replace hP := hP.trans (Fr.of_below hB); obtain ⟨S', rfl, hP2, hP3, hP4⟩ := hP)
  go_ret
  exact ⟨S', rfl, hP2, hP3, hP4⟩

theorem fr_grown {w w' : World} {b : Nat} (h : w.grownBy w' (some b)) : Fr (fun k => k = b) w w' := ⟨h.os, h.tape, h.output, h.size, fun k hk hn => h.block k hk (fun e => hn (Option.some.inj e))⟩
theorem cell1 {w : World} {g : Nat} {t : TypeId} {fr : Nat × Nat} {a : Value} (h : w.heap[g]? = some (.cells #[a] t fr)) : w.cell? ⟨g, 0, none⟩ = some a := by rw [Go.cell_of_row _ g 0 _ _ _ h]; rfl

set_option maxHeartbeats 1000000 in
set_option maxRecDepth 100000 in
theorem create1_any {S : Nat → Prop} (D : DiskA) (d mb : Nat) (qs : List Ent) (w : World) (h : DiskIn S w d mb D qs) (n : Bytes) (hf : findK nq qs n = none) (hnb : namedB n = true) (hl : qs.length < 1048576) (b1 b2 t1 t2 : Nat)
    (h1 : w.heap[b1]? = some (.cells #[.pointer (some ⟨d, 0, none⟩)] t1 (0, 0))) (h2 : w.heap[b2]? = some (.cells #[.string ⟨n.toArray⟩] t2 (0, 0))) :
    Calls Tryz.prog 104 #[.pointer none, .pointer (some ⟨b1, 0, none⟩), .pointer (some ⟨b2, 0, none⟩)] w (DiskPost S w d (bodyA D .create n)) := by
  have e : bodyA D .create n = ({ D with files := putF D.files ⟨n, [], 0⟩ }, 0) := bodyK_new D n hnb (by rw [findF_qs h.files]; exact hf)
  rw [e]
  have hnl := named_len hnb
  have hA := (boxF w (.cells #[.slice none 0 0, .int .i64 0] 151)).1
  have hz := (boxF w (.cells #[.slice none 0 0, .int .i64 0] 151)).2.1
  have hx := (boxF w (.cells #[.slice none 0 0, .int .i64 0] 151)).2.2
  have hAd : Below w.heap.size w (w.alloc (.cells #[.slice none 0 0, .int .i64 0] 151)).drew := hA.drew
  obtain ⟨w', hrun, hown', hturn⟩ := (h.below hAd).map.store keyedS Tryz.underlying131 (by unfold maxLen; omega) (keyS n (by omega)) (val := .pointer (some ⟨w.heap.size, 0, none⟩)) (d := .lit (.int .i64 (w.heap.size : Int))) (ps := []) rfl
  have hfr := fr_grown hturn.grown
  have hfw : Fr (fun k => k = mb) w w' := (Fr.of_below hAd (F := fun k => k = mb)).trans hfr (fun _ _ h => h)
  have hsz : w.heap.size < w'.heap.size := by have := hfr.size; have h3 : (w.alloc (.cells #[.slice none 0 0, .int .i64 0] 151)).drew.heap.size = w.heap.size + 1 := hz; omega
  have hmbl := h.lt mb h.inM
  have hnew : w'.heap[w.heap.size]? = some (.cells #[.slice none 0 0, .int .i64 0] 151 (0, 0)) := (hfr.block w.heap.size (by have h3 : (w.alloc (.cells #[.slice none 0 0, .int .i64 0] 151)).drew.heap.size = w.heap.size + 1 := hz; omega) (by intro e; omega)).trans hx
  have hins := h.ins n hnl hf rfl hsz hfw hown' hnew
  obtain ⟨c0, c1, c2, c3⟩ := cells4 h.blk
  have hl1 := (Array.getElem?_eq_some_iff.1 h1).1
  have hl2 := (Array.getElem?_eq_some_iff.1 h2).1
  obtain ⟨es, clock, hmb, _⟩ := h.map
  have hS0 : w.drew.cell? ⟨b1, 0, none⟩ = some (.pointer (some ⟨d, 0, none⟩)) ∧ w.drew.cell? ⟨b2, 0, none⟩ = some (.string ⟨n.toArray⟩) ∧ w.drew.cell? ⟨d, 1, none⟩ = some (.map (some mb)) := ⟨cell1 h1, cell1 h2, c1⟩
  have hS1 : (w.alloc (.cells #[.slice none 0 0, .int .i64 0] 151)).drew.cell? ⟨b1, 0, none⟩ = some (.pointer (some ⟨d, 0, none⟩)) ∧ (w.alloc (.cells #[.slice none 0 0, .int .i64 0] 151)).drew.cell? ⟨b2, 0, none⟩ = some (.string ⟨n.toArray⟩) ∧ (w.alloc (.cells #[.slice none 0 0, .int .i64 0] 151)).drew.cell? ⟨d, 1, none⟩ = some (.map (some mb)) :=
    ⟨cell1 ((hAd.block _ hl1).trans h1), cell1 ((hAd.block _ hl2).trans h2), (cells4 ((hAd.block _ (h.lt d h.inD)).trans h.blk)).2.1⟩
  have hS2 : w'.cell? ⟨b1, 0, none⟩ = some (.pointer (some ⟨d, 0, none⟩)) ∧ w'.cell? ⟨b2, 0, none⟩ = some (.string ⟨n.toArray⟩) ∧ w'.cell? ⟨d, 1, none⟩ = some (.map (some mb)) :=
    ⟨cell1 ((hfw.block _ hl1 (by rintro rfl; rw [hmb] at h1; cases h1)).trans h1), cell1 ((hfw.block _ hl2 (by rintro rfl; rw [hmb] at h2; cases h2)).trans h2), (cells4 ((hfw.block _ (h.lt d h.inD) (by rintro rfl; have := h.blk; rw [hmb] at this; cases this)).trans h.blk)).2.1⟩
  have hlast : Fr S w w' := hfw.mono (fun k _ hk => by rw [hk]; exact h.inM)
  clear hown' hturn hfr hnew hx hfw c0 c1 c2 c3 hmb
  go_enter Tryz.func104, Tryz.ntmps104
  go_wp2_with fail
  go_region_held3 (fun W => W.cell? ⟨b1, 0, none⟩ = some (.pointer (some ⟨d, 0, none⟩)) ∧ W.cell? ⟨b2, 0, none⟩ = some (.string ⟨n.toArray⟩) ∧ W.cell? ⟨d, 1, none⟩ = some (.map (some mb))) (first | assumption) (first | fail)
  go_wp2
  go_ret
  exact ⟨_, rfl, ⟨mb, _, hins⟩, hlast, fun k hk hs => hs.elim id (fun h => absurd hk (by omega))⟩

set_option maxHeartbeats 1000000 in
theorem create_any {S : Nat → Prop} (D : DiskA) (d : Nat) (w : World) (h : DiskAt S w d D) (n : Bytes) (hn : n.length ≤ 1048576) (hp0 : 0 ≤ D.plan) (hp1 : D.plan ≤ 4611686018427387904) (hl : D.files.length < 1048576) :
    Calls Tryz.prog 36 #[.pointer (some ⟨d, 0, none⟩), .string ⟨n.toArray⟩] w (DiskPost S w d (doA D .create n)) := by
  have hB := below3 w (.cells #[.pointer (some ⟨d, 0, none⟩)] 26) (.cells #[.string ⟨n.toArray⟩] 9) (.cells #[.string ⟨n.toArray⟩] 9)
  have g0 := heap3_0 w (.cells #[.pointer (some ⟨d, 0, none⟩)] 26) (.cells #[.string ⟨n.toArray⟩] 9) (.cells #[.string ⟨n.toArray⟩] 9)
  have g1 := heap3_1 w (.cells #[.pointer (some ⟨d, 0, none⟩)] 26) (.cells #[.string ⟨n.toArray⟩] 9) (.cells #[.string ⟨n.toArray⟩] 9)
  have g2 := heap3_2 w (.cells #[.pointer (some ⟨d, 0, none⟩)] 26) (.cells #[.string ⟨n.toArray⟩] 9) (.cells #[.string ⟨n.toArray⟩] 9)
  have hz := size3 w (.cells #[.pointer (some ⟨d, 0, none⟩)] 26) (.cells #[.string ⟨n.toArray⟩] 9) (.cells #[.string ⟨n.toArray⟩] 9)
  have hw := h.below hB
  have hSl : ∀ k, S k → k < w.heap.size := by obtain ⟨mb, qs, h'⟩ := h; exact h'.lt
  go_enter Tryz.func36, Tryz.ntmps36
  go_wp2_with fail
  generalize ((w.alloc (.cells #[.pointer (some ⟨d, 0, none⟩)] 26)).alloc (.cells #[.string ⟨n.toArray⟩] 9)).alloc (.cells #[.string ⟨n.toArray⟩] 9) = W3 at *
  have hrow : Row S W3 (.slice (some ⟨w.heap.size + 1 + 1, 0, none⟩) 1 1) 1 [stV n] := .inr ⟨_, 0, 1, rfl, Nat.le_refl _, by omega, by omega, fun hk => by have := hSl _ hk; omega, fun j u hu => by
    cases j with
    | zero => cases hu; exact cell1 g2
    | succ j => simp at hu⟩
  have hrun : Calls Tryz.prog 103 #[.pointer (some ⟨d, 0, none⟩), .agg #[.slice (some ⟨w.heap.size + 1 + 1, 0, none⟩) 1 1, .bool true, .func (.func 104) #[] #[.pointer (some ⟨w.heap.size, 0, none⟩), .pointer (some ⟨w.heap.size + 1, 0, none⟩)]]] W3 (DiskPost S W3 d (doA D .create n)) := by
    cases hd : D.down with
    | true => exact run_down D d _ hw .create n _ _ rfl hd
    | false =>
      by_cases hp : D.plan = 1
      · exact run_plan D d _ hw .create n _ _ rfl hd hp
      · refine run_open D d _ hw .create n hn _ hrow 104 (Go.Proofs.enters_of Tryz.func104 (by kernel_rfl) rfl) _ hd hp hp0 hp1 (fun W mb qs hin hF hnb hok => ?_)
        have hf : findK nq qs n = none := by simpa using (show (findK nq qs n).isSome = false from hok)
        rw [ptrOf_none hf]
        have hql : qs.length < 1048576 := by have := congrArg List.length hin.files; rw [List.length_map] at this; rw [this]; exact hl
        exact create1_any _ d mb qs W hin n hf hnb hql _ _ _ _ ((hF.block _ (by omega) (fun hk => by have := hSl _ hk; omega)).trans g0) ((hF.block _ (by omega) (fun hk => by have := hSl _ hk; omega)).trans g1)
  refine hrun.mono ?_
  intro e w1 hP
  replace hP := hP.trans (Fr.of_below hB)
  obtain ⟨S', rfl, hP2, hP3, hP4⟩ := hP
  go_wp2
  go_ret
  exact ⟨S', rfl, hP2, hP3, hP4⟩

end Go.Proofs.YtepceidajmedeaaGreatDoor

namespace Go.Proofs.YtepceidajmedeaaGreatDoor
open Go.RowKit CW

theorem wpList_next_disk {w : World} {ops : Array Oper} {rest : List Oper} {o : Oper} {a : Act} {Q : Exit → Act → World → Prop} (hg : o.guard = none) (it : Operand) (hop : o.op = Op.next it false)
    (qs : List Ent) (mb r n : Nat) (left : Lit → Bool) (cnt : Nat) (hit : a.eval it = .pointer (some ⟨r, 0, none⟩)) (h : w.ranges Tryz.prog 9 ptrE mb r n (mapQ qs) left cnt)
    (hDone : (∀ kl, left kl = false) → wpList Tryz.prog ops Q rest (a.put o.dst (.tuple #[.bool false])) w)
    (hMore : ∀ (i : Nat) (hi : i < qs.length) (W : World) (cnt' : Nat), left (.string qs[i].1.name) = true → W.ranges Tryz.prog 9 ptrE mb r n (mapQ qs) (fun z => left z && !z.sameKey (.string qs[i].1.name)) cnt' → cnt' < cnt → w.grownBy W (some r) → W.heap.size = w.heap.size →
      (Instr.entry (.pointer (some ⟨r, 0, none⟩))).run Tryz.prog W = .ok (.tuple #[.string ⟨qs[i].1.name.toArray⟩, .pointer (some ⟨qs[i].2.1, 0, none⟩)]) W → wpList Tryz.prog ops Q rest (a.put o.dst (.tuple #[.bool true, .string ⟨qs[i].1.name.toArray⟩, .pointer (some ⟨qs[i].2.1, 0, none⟩)])) W) :
    wpList Tryz.prog ops Q (o :: rest) a w := by
  refine wpList_next_ranges w hg it hop 9 keyedS ptrE Value.string (fun c : Option Nat => .pointer (c.map fun b => ⟨b, 0, none⟩)) (fun key kl hkey => by obtain ⟨s, rfl, _⟩ := WideMaps.string_of_keyOf Tryz.underlying9 hkey; exact ⟨s, rfl⟩)
    (fun v y hv => by rcases ptrE_inv hv with ⟨rfl, _⟩ | ⟨b, rfl, _⟩; exact ⟨none, rfl⟩; exact ⟨some b, rfl⟩) mb r n (mapQ qs) left cnt hit h (fun _ hl => hDone hl) ?_
  intro x c kl y W cnt' hkey hlk hv hat hrg hlt hgr hsz hen
  obtain ⟨s, e, rfl, _⟩ := WideMaps.string_of_keyOf Tryz.underlying9 hkey
  cases e
  have h1 := hat .nil
  have h2 := hat (.lit (.bool true))
  rw [mapK_at] at h1 h2
  rcases hf : findK nq qs x.data.toList with _ | i
  · rw [hf] at h1 h2
    exact absurd (h1.trans h2.symm) (by intro h; cases h)
  · obtain ⟨hi, hk⟩ := findK_some hf
    rw [hf] at h1
    simp only [List.getElem?_eq_getElem hi] at h1
    have hb : c = some qs[i].2.1 := by
      rcases ptrE_inv hv with ⟨_, rfl⟩ | ⟨b, hb, rfl⟩
      · cases h1
      · have hbb : b = qs[i].2.1 := by
          simp [dq] at h1
          omega
        cases c with
        | none => cases hb
        | some c' =>
          simp at hb
          rw [hb, hbb]
    subst hb
    have hx : x = ⟨qs[i].1.name.toArray⟩ := by
      have hk' : qs[i].1.name = x.data.toList := hk
      rw [hk']
    have hm := hMore i hi W cnt'
    rw [hx] at hen ⊢
    have hxl : x.data.toList = qs[i].1.name := hk.symm
    rw [hxl] at hlk hrg
    exact hm hlk hrg hlt hgr hsz hen

def usedL (qs : List Ent) (left : Lit → Bool) : Nat := ((qs.filter (fun q => !left (.string q.1.name))).map (fun q => q.1.b.length)).sum
theorem usedL_none (qs : List Ent) (left : Lit → Bool) (h : ∀ kl, left kl = false) : usedL qs left = usedF (qs.map (·.1)) := by
  unfold usedL usedF
  rw [List.filter_eq_self.2 (fun q _ => by rw [h]; rfl), List.map_map]
  rfl
theorem usedL_all (qs : List Ent) : usedL qs (Maps.has (mapQ qs)) = 0 := by
  unfold usedL
  have : qs.filter (fun q => !(Maps.has (mapQ qs)) (.string q.1.name)) = [] := by
    rw [List.filter_eq_nil_iff]
    intro q hq
    rw [mapK_has]
    rcases hf : findK nq qs q.1.name with _ | i
    · exact absurd rfl (findK_none.1 hf q hq)
    · simp
  rw [this]
  rfl
theorem usedL_step (qs : List Ent) (hs : SortedK nq qs) (left : Lit → Bool) (i : Nat) (hi : i < qs.length) (h : left (.string qs[i].1.name) = true) :
    usedL qs (fun z => left z && !z.sameKey (.string qs[i].1.name)) = usedL qs left + qs[i].1.b.length := by
  have hl : qs = qs.take i ++ qs[i] :: qs.drop (i + 1) := by rw [List.getElem_cons_drop, List.take_append_drop]
  generalize hq : qs[i] = q at *
  have key : ∀ p, (left (.string p) && !(Lit.string p).sameKey (.string q.1.name)) = if p = q.1.name then false else left (.string p) := by
    intro p
    rw [sameKey_string]
    by_cases hp : p = q.1.name
    · simp [hp]
    · simp [hp]
  generalize qs.take i = l at *
  generalize qs.drop (i + 1) = r at *
  subst hl
  obtain ⟨h1, h2, h3⟩ := List.pairwise_append.1 hs
  obtain ⟨h4, h5⟩ := List.pairwise_cons.1 h2
  have el : l.filter (fun p => !(left (.string p.1.name) && !(Lit.string p.1.name).sameKey (.string q.1.name))) = l.filter (fun p => !left (.string p.1.name)) := by
    apply List.filter_congr
    intro p hp
    rw [key, if_neg (ltB_ne (h3 p hp q (by simp)))]
  have er : r.filter (fun p => !(left (.string p.1.name) && !(Lit.string p.1.name).sameKey (.string q.1.name))) = r.filter (fun p => !left (.string p.1.name)) := by
    apply List.filter_congr
    intro p hp
    rw [key, if_neg (ltB_ne (h4 p hp)).symm]
  unfold usedL
  have ks : (Lit.string q.1.name).sameKey (.string q.1.name) = true := by rw [sameKey_string]; simp
  rw [List.filter_append, List.filter_append, List.filter_cons, List.filter_cons, el, er]
  simp only [ks, h]
  simp
  omega
theorem usedL_le (qs : List Ent) (left : Lit → Bool) : usedL qs left ≤ usedF (qs.map (·.1)) := by
  unfold usedL usedF
  rw [List.map_map]
  induction qs with
  | nil => simp
  | cons q qs ih =>
    rw [List.filter_cons]
    split
    · simp only [List.map_cons, List.sum_cons]
      have : ((fun x : FileA => x.b.length) ∘ fun x : Ent => x.1) q = q.1.b.length := rfl
      omega
    · simp only [List.map_cons, List.sum_cons]
      omega

set_option maxHeartbeats 1000000 in
theorem used_any {S : Nat → Prop} {D : DiskA} {d : Nat} (w : World) (h : DiskAt S w d D) (hu : usedF D.files ≤ 4611686018427387904) :
    Calls Tryz.prog 51 #[.pointer (some ⟨d, 0, none⟩)] w fun e w' => e = .returned (.int .i64 (usedF D.files : Nat)) ∧ Below w.heap.size w w' := by
  obtain ⟨mb, qs, h⟩ := h
  have HFI : Hid (qs.map (·.1) = D.files) := h.files
  have HU : Hid (usedF (qs.map (·.1)) ≤ 4611686018427387904) := by show _ ≤ _; rw [h.files]; exact hu
  obtain ⟨c0, c1, c2, c3⟩ := cells4 h.blk
  have hmap := h.map
  have hsort : Hid (SortedK nq qs) := h.sorted
  have hfile := h.file
  have hmlt := h.lt mb h.inM
  have hflt := fun q hq => h.lt _ (h.inF q hq).1
  clear h hu
  rw [← HFI.out]
  go_enter Tryz.func51, Tryz.ntmps51
  go_wp2_with (at_range; refine wpList_range_own _ rfl _ 131 rfl 9 132 keyedS Tryz.underlying131 ptrE mb qs.length (mapQ qs) rfl hmap ?_; intro w0 hrg0 hg0 hs0)
  go_frame
  go_loopw [3] (fun n wr => ∃ left cnt, wr.ranges Tryz.prog 9 ptrE mb w.heap.size qs.length (mapQ qs) left cnt ∧ n = .int .i64 (usedL qs left : Nat) ∧ Hid (Below w.heap.size w wr)) (fun _ wr => wr.rangeLeft mb w.heap.size)
  case atStart => exact ⟨_, _, hrg0, by rw [usedL_all]; rfl, (Below.refl _ _).grown hg0 (Nat.le_refl _) (fun k hk => by cases hk)⟩
  case round =>
    obtain ⟨left, cnt, hrg, rfl, HB⟩ := hrel
    have hB := HB.out
    have hle : usedL qs left ≤ 4611686018427387904 := Nat.le_trans (usedL_le qs left) HU.out
    go_wp2_with (at_next; refine wpList_next_disk rfl (.tmp 12) rfl qs mb w.heap.size qs.length left cnt rfl hrg ?_ ?_)
    · intro hl
      have HE : Hid (usedL qs left = usedF (qs.map (·.1))) := usedL_none qs left hl
      clear hle
      go_wp2
      go_ret
      exact ⟨by rw [HE.out] <;> rfl, hB⟩
    · intro i hi W cnt' hlk hrg' hlt hg' hsz hen
      have hB' : Below w.heap.size w W := hB.grown hg' hB.size (fun k hk => by cases hk; exact Nat.le_refl _)
      have HE : Hid (usedL qs (fun z => left z && !z.sameKey (.string qs[i].1.name)) = usedL qs left + qs[i].1.b.length) := usedL_step qs hsort.out left i hi hlk
      have hle2 : usedL qs (fun z => left z && !z.sameKey (.string qs[i].1.name)) ≤ 4611686018427387904 := Nat.le_trans (usedL_le qs _) HU.out
      rw [HE.out] at hle2
      have hq := hfile qs[i] (List.getElem_mem hi)
      have hql := hflt qs[i] (List.getElem_mem hi)
      obtain ⟨a1, cap1, hv, hr1, hr2, _⟩ := (Row.of_owns hq.2).open
      have hq1 := (hB'.block _ hql).trans hq.1
      rw [hv] at hq1
      obtain ⟨x0, x1⟩ := cells2 hq1
      have HN : Hid (W.ranges Tryz.prog 9 ptrE mb w.heap.size qs.length (mapQ qs) (fun z => left z && !z.sameKey (.string qs[i].1.name)) cnt') := hrg'
      have HL1 := hrg'.left_eq
      have HL2 := hrg.left_eq
      clear hrg' hq hq1 hv hfile hlk hle hB
      generalize (fun z => left z && !z.sameKey (.string qs[i].1.name)) = left' at *
      generalize qs[i].1.name = y at *
      generalize qs[i].1.b.length = m at *
      generalize qs[i].2.1 = fb at *
      generalize usedL qs left = u at *
      go_wp2
      go_roundw
      case rel => exact ⟨left', cnt', HN.out, by rw [HE.out]; go_num, hB'⟩
      case measure => rw [HL1, HL2]; omega

end Go.Proofs.YtepceidajmedeaaGreatDoor
