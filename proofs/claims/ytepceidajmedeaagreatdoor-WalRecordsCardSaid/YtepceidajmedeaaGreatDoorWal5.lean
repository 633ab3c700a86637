/- Lemmas for a law of this seat, part 5: contracts of the functions that it reaches, and the plain law. No condition but those of each lemma. -/
import Derived.Test.YtepceidajmedeaaGreatDoorWal4
import Derived.WalkKit
import Derived.WalkLawsBesides
import Derived.WalkSpells
import Derived.Maps.Views

namespace CW
open Go Go.RowKit

def encB (b : UInt8) : Value := .int .u8 (b.toNat : Int)
def encI (n : Int) : Value := .int .i64 n

/-- The world w' is as w was, but for new blocks and the blocks of F. -/
structure Fr (F : Nat → Prop) (w w' : World) : Prop where
  os : w'.os = w.os
  tape : w'.tape = w.tape
  output : w'.output = w.output
  size : w.heap.size ≤ w'.heap.size
  block : ∀ k, k < w.heap.size → ¬ F k → w'.heap[k]? = w.heap[k]?

theorem Fr.refl (F : Nat → Prop) (w : World) : Fr F w w := ⟨rfl, rfl, rfl, Nat.le_refl _, fun _ _ _ => rfl⟩
theorem Fr.of_below {F : Nat → Prop} {w w' : World} (h : Below w.heap.size w w') : Fr F w w' := ⟨h.os, h.tape, h.output, h.size, fun k hk _ => h.block k hk⟩
theorem Fr.below {w w' : World} {B : Nat} {F : Nat → Prop} (h : Fr F w w') (hB : B ≤ w.heap.size) (hF : ∀ k, k < B → ¬ F k) : Below B w w' := ⟨h.os, h.tape, h.output, h.size, fun k hk => h.block k (by omega) (hF k hk)⟩
theorem Fr.mono {F F' : Nat → Prop} {w w' : World} (h : Fr F w w') (hF : ∀ k, k < w.heap.size → F k → F' k) : Fr F' w w' := ⟨h.os, h.tape, h.output, h.size, fun k hk hn => h.block k hk (fun hf => hn (hF k hk hf))⟩
theorem Fr.trans {F : Nat → Prop} {a b c : World} (h : Fr F a b) {G : Nat → Prop} (k : Fr G b c) (hG : ∀ i, i < a.heap.size → G i → F i) : Fr F a c :=
  ⟨k.os.trans h.os, k.tape.trans h.tape, k.output.trans h.output, Nat.le_trans h.size k.size, fun i hi hn => (k.block i (Nat.lt_of_lt_of_le hi h.size) (fun hg => hn (hG i hi hg))).trans (h.block i hi hn)⟩

/-- What a slice shows: n elements, whose cells are cs; the row lies outside M. -/
def Row (M : Nat → Prop) (w : World) (v : Value) (n : Nat) (cs : List Value) : Prop :=
  ((∃ a, v = .slice a 0 0) ∧ n = 0 ∧ cs = []) ∨
  ∃ b off cap, v = .slice (some ⟨b, off, none⟩) n cap ∧ n ≤ cap ∧ cap ≤ 9223372036854775807 ∧ b < w.heap.size ∧ ¬ M b ∧ ∀ j u, cs[j]? = some u → w.cell? ⟨b, off + j, none⟩ = some u

/-- .. and its array is there, where it is not nil. -/
def RowS (M : Nat → Prop) (w : World) (v : Value) (n : Nat) (cs : List Value) : Prop :=
  (v = .slice none 0 0 ∧ n = 0 ∧ cs = []) ∨
  ∃ b off cap, v = .slice (some ⟨b, off, none⟩) n cap ∧ n ≤ cap ∧ cap ≤ 9223372036854775807 ∧ b < w.heap.size ∧ ¬ M b ∧ ∀ j u, cs[j]? = some u → w.cell? ⟨b, off + j, none⟩ = some u
theorem RowS.row {M : Nat → Prop} {w : World} {v : Value} {n : Nat} {cs : List Value} (h : RowS M w v n cs) : Row M w v n cs := h.imp (fun h => ⟨⟨_, h.1⟩, h.2⟩) id

theorem Row.fr {M M' F : Nat → Prop} {w w' : World} {v : Value} {n : Nat} {cs : List Value} (h : Row M w v n cs) (hf : Fr F w w') (hF : ∀ k, F k → M k) (hM : ∀ k, k < w.heap.size → M' k → M k) : Row M' w' v n cs := by
  rcases h with h | ⟨b, off, cap, hv, hn, hc, hb, hm, hcell⟩
  · exact .inl h
  · refine .inr ⟨b, off, cap, hv, hn, hc, Nat.lt_of_lt_of_le hb hf.size, fun h => hm (hM b hb h), fun j u hu => ?_⟩
    rw [World.cell?_of_block (w := w) (a := ⟨b, off + j, none⟩) (hf.block b hb (fun h => hm (hF b h)))]
    exact hcell j u hu

theorem Row.below {M : Nat → Prop} {w w' : World} {v : Value} {n : Nat} {cs : List Value} (h : Row M w v n cs) (hf : Below w.heap.size w w') : Row M w' v n cs :=
  h.fr (F := fun _ => False) (Fr.of_below hf) (fun _ h => h.elim) (fun _ _ h => h)

theorem Row.mono {M M' : Nat → Prop} {w : World} {v : Value} {n : Nat} {cs : List Value} (h : Row M w v n cs) (hM : ∀ k, k < w.heap.size → M' k → M k) : Row M' w v n cs :=
  h.fr (F := fun _ => False) (Fr.refl _ w) (fun _ h => h.elim) hM

theorem RowS.of_owns {w : World} {base e size n : Nat} {v : Value} {cs : List Value} (h : w.ownsRow base e size v n cs) : RowS (fun _ => False) w v n cs := by
  obtain ⟨hl, h | ⟨g, cap, cur, hv, hg, hh, hn, hm, hsz, ht⟩⟩ := h
  · refine .inl ⟨h.1, h.2, ?_⟩
    obtain ⟨_, rfl⟩ := h
    simpa using hl
  · refine .inr ⟨g, 0, cap, hv, hn, by unfold maxLen at hm; omega, (Array.getElem?_eq_some_iff.1 hh).1, (fun h => h), fun j u hu => ?_⟩
    rw [Nat.zero_add, Go.cell_of_row w g j cur e (0, 0) hh]
    rw [← ht, List.getElem?_take] at hu
    split at hu
    · simpa using hu
    · cases hu

/-- A row of the call's own, as a slice. -/
theorem Row.of_owns {w : World} {base e size n : Nat} {v : Value} {cs : List Value} (h : w.ownsRow base e size v n cs) : Row (fun k => k < base) w v n cs := by
  obtain ⟨hl, h | ⟨g, cap, cur, hv, hg, hh, hn, hm, hsz, ht⟩⟩ := h
  · refine .inl ⟨⟨_, h.1⟩, h.2, ?_⟩
    obtain ⟨_, rfl⟩ := h
    simpa using hl
  · refine .inr ⟨g, 0, cap, hv, hn, by unfold maxLen at hm; omega, (Array.getElem?_eq_some_iff.1 hh).1, by omega, fun j u hu => ?_⟩
    rw [Nat.zero_add, Go.cell_of_row w g j cur e (0, 0) hh]
    rw [← ht, List.getElem?_take] at hu
    split at hu
    · simpa using hu
    · cases hu

theorem owns_below {w w' : World} {base e size n : Nat} {v : Value} {cs : List Value} (h : w.ownsRow base e size v n cs) (hb : Below w.heap.size w w') : w'.ownsRow base e size v n cs := by
  refine ⟨h.1, ?_⟩
  rcases h.2 with h | ⟨g, cap, cur, hv, hg, hh, r⟩
  · exact .inl h
  · exact .inr ⟨g, cap, cur, hv, hg, (hb.block g (Array.getElem?_eq_some_iff.1 hh).1).trans hh, r⟩

theorem owns_base {w : World} {base base' e size n : Nat} {v : Value} {cs : List Value} (h : w.ownsRow base e size v n cs) (hb : base' ≤ base) : w.ownsRow base' e size v n cs := by
  refine ⟨h.1, ?_⟩
  rcases h.2 with h | ⟨g, cap, cur, hv, hg, r⟩
  · exact .inl h
  · exact .inr ⟨g, cap, cur, hv, by omega, r⟩

theorem below_drewN' {B : Nat} {w w' : World} (h : Below B w w') (n : Nat) : Below B w (w'.drewN n) := h.trans ⟨rfl, rfl, rfl, Nat.le_refl _, fun _ _ => rfl⟩

theorem below_grown {w w' : World} {base e size n : Nat} {v : Value} {cs : List Value} (h : w.ownsRow base e size v n cs) (hg : w.grownBy w' v.ownBlock) (hb : base ≤ w.heap.size) : Below base w w' :=
  (Below.refl base w).grown hg hb (fun k hk => (h.lt k hk).1)

/-- A slice literal. -/
theorem Row.lit {base : Nat} {w : World} {cs : Array Value} {e n size : Nat} {l : List Value} (hb : base ≤ w.heap.size) (hn : n ≤ maxLen) (hs : cs.size = n * size) (hl : cs = l.toArray) :
    Row (fun k => k < base) (w.alloc (.cells cs e)) (.slice (some ⟨w.heap.size, 0, none⟩) n n) n l := by
  have h := Row.of_owns (World.ownsRow_lit (e := e) (size := size) w cs n hb hn hs)
  subst hl
  exact h

theorem encB_ofNat (x : Nat) : encB (UInt8.ofNat x) = .int .u8 ((x % 256 : Nat) : Int) := by
  unfold encB
  congr 1

theorem bytes_one (bs : Bytes) : ∀ u ∈ bs.map encB, u.oneCell' = true := by
  intro u hu
  obtain ⟨b, _, rfl⟩ := List.mem_map.1 hu
  rfl

/-- A slice's value, opened: nil or not; its cells where it has an element. -/
theorem Row.open {M : Nat → Prop} {w : World} {v : Value} {n : Nat} {cs : List Value} (h : Row M w v n cs) :
    ∃ a cap, v = .slice a n cap ∧ n ≤ cap ∧ cap ≤ 9223372036854775807 ∧ (a = none → n = 0 ∧ cap = 0) ∧
      (0 < n → ∃ b off, a = some ⟨b, off, none⟩ ∧ b < w.heap.size ∧ ¬ M b ∧ ∀ j u, cs[j]? = some u → w.cell? ⟨b, off + j, none⟩ = some u) := by
  rcases h with ⟨⟨a0, rfl⟩, rfl, rfl⟩ | ⟨b, off, cap, rfl, hn, hc, hb, hm, hcell⟩
  · exact ⟨a0, 0, rfl, Nat.le_refl _, by omega, fun _ => ⟨rfl, rfl⟩, fun h => absurd h (Nat.lt_irrefl _)⟩
  · exact ⟨_, cap, rfl, hn, hc, (fun h => by cases h), fun _ => ⟨b, off, rfl, hb, hm, hcell⟩⟩

theorem ret_int {k : IntKind} {a b : Int} (h : a = b) : Ending.returned (.int k a) = .returned (.int k b) := by rw [h]

/-- The four bytes of a number, the lowest first. -/
def le4 (x : Nat) : Bytes := [UInt8.ofNat x, UInt8.ofNat (x / 256), UInt8.ofNat (x / 65536), UInt8.ofNat (x / 16777216)]

theorem le4_cells (x : Nat) (hx : x < 4294967296) : #[Value.int .u8 ((x : Int) % 256), .int .u8 ((x : Int) / 256 % 256), .int .u8 ((x : Int) / 65536 % 256), .int .u8 ((x : Int) / 16777216)] = ((le4 x).map encB).toArray := by
  have e1 : (x : Int) % 256 = ((x % 256 : Nat) : Int) := by omega
  have e2 : (x : Int) / 256 % 256 = ((x / 256 % 256 : Nat) : Int) := by omega
  have e3 : (x : Int) / 65536 % 256 = ((x / 65536 % 256 : Nat) : Int) := by omega
  have e4 : (x : Int) / 16777216 = ((x / 16777216 % 256 : Nat) : Int) := by omega
  rw [e1, e2, e3, e4]
  simp only [le4, List.map_cons, List.map_nil, encB_ofNat]

def sealB (bs : Bytes) : Bytes := bs ++ le4 (CW.sum bs)

def SlB (M : Nat → Prop) (w : World) (v : Value) (bs : Bytes) : Prop := Row M w v bs.length (bs.map encB)
theorem SlB.fr {M M' F : Nat → Prop} {w w' : World} {v : Value} {bs : Bytes} (h : SlB M w v bs) (hf : Fr F w w') (hF : ∀ k, F k → M k) (hM : ∀ k, k < w.heap.size → M' k → M k) : SlB M' w' v bs := Row.fr h hf hF hM
theorem SlB.below {M : Nat → Prop} {w w' : World} {v : Value} {bs : Bytes} (h : SlB M w v bs) (hf : Below w.heap.size w w') : SlB M w' v bs := Row.below h hf
theorem SlB.mono {M M' : Nat → Prop} {w : World} {v : Value} {bs : Bytes} (h : SlB M w v bs) (hM : ∀ k, k < w.heap.size → M' k → M k) : SlB M' w v bs := Row.mono h hM
theorem SlB.any {M : Nat → Prop} {w : World} {v : Value} {bs : Bytes} (h : SlB M w v bs) : SlB (fun _ => False) w v bs := Row.mono h (fun _ _ h => h.elim)
theorem SlB.full {M : Nat → Prop} {w : World} {a : Option Addr} {n cap : Nat} {bs : Bytes} (h : SlB M w (.slice a n cap) bs) : SlB M w (.slice a n n) bs := by
  rcases h with ⟨⟨a0, h⟩, h0, h1⟩ | ⟨b, off, cap', h, hn, hc, hb, hm, hcell⟩
  · cases h; exact .inl ⟨⟨_, rfl⟩, h0, h1⟩
  · cases h; exact .inr ⟨b, off, _, rfl, Nat.le_refl _, by omega, hb, hm, hcell⟩
theorem SlB.of_owns {base e : Nat} {w : World} {v : Value} {bs : Bytes} (h : w.ownsRow base e 1 v bs.length (bs.map encB)) : SlB (fun k => k < base) w v bs := Row.of_owns h
theorem SlB.nil {M : Nat → Prop} {w : World} : SlB M w (.slice none 0 0) [] := .inl ⟨⟨_, rfl⟩, rfl, rfl⟩

/-- What 'b[:k]' and 'b[k:]' show. -/
theorem SlB.take {M : Nat → Prop} {w : World} {b off n cap : Nat} {bs : Bytes} (h : SlB M w (.slice (some ⟨b, off, none⟩) n cap) bs) (k : Nat) (hk : k ≤ n) : SlB M w (.slice (some ⟨b, off, none⟩) k cap) (bs.take k) := by
  rcases h with ⟨⟨a0, h⟩, h0, h1⟩ | ⟨b', off', cap', h, hn, hc, hb, hm, hcell⟩
  · cases h
    obtain rfl : k = 0 := by omega
    exact .inl ⟨⟨_, rfl⟩, rfl, rfl⟩
  · cases h
    have e : (bs.take k).length = k := by rw [List.length_take]; omega
    refine .inr ⟨b, off, cap, by rw [e], by rw [e]; omega, hc, hb, hm, fun j u hu => hcell j u ?_⟩
    rw [List.map_take, List.getElem?_take] at hu
    split at hu
    · exact hu
    · cases hu

theorem SlB.drop {M : Nat → Prop} {w : World} {b off n cap : Nat} {bs : Bytes} (h : SlB M w (.slice (some ⟨b, off, none⟩) n cap) bs) (k : Nat) (hk : k ≤ n) : SlB M w (.slice (some ⟨b, off + k, none⟩) (n - k) (cap - k)) (bs.drop k) := by
  rcases h with ⟨⟨a0, h⟩, h0, h1⟩ | ⟨b', off', cap', h, hn, hc, hb, hm, hcell⟩
  · cases h
    obtain rfl : k = 0 := by omega
    exact .inl ⟨⟨_, rfl⟩, h0, h1⟩
  · cases h
    have e : (bs.drop k).length = bs.length - k := by rw [List.length_drop]
    refine .inr ⟨b, off + k, cap - k, by rw [e], by rw [e]; omega, by omega, hb, hm, fun j u hu => ?_⟩
    rw [List.map_drop, List.getElem?_drop] at hu
    rw [Nat.add_assoc]
    exact hcell (k + j) u hu

theorem SlB.dropCap {M : Nat → Prop} {w : World} {b off n cap : Nat} {bs : Bytes} (h : SlB M w (.slice (some ⟨b, off, none⟩) n cap) bs) (k : Nat) (hk : k ≤ n) (hc : cap = k) : SlB M w (.slice (some ⟨b, off, none⟩) (n - k) (cap - k)) (bs.drop k) := by
  rcases h with ⟨⟨a0, h⟩, h0, h1⟩ | ⟨b', off', cap', h, hn, hc', hb, hm, hcell⟩
  · cases h
    obtain rfl : k = 0 := by omega
    exact .inl ⟨⟨_, rfl⟩, h0, h1⟩
  · cases h
    have e : bs.drop k = [] := List.drop_eq_nil_of_le (by omega)
    rw [e]
    exact .inr ⟨b, off, cap - k, by simp; omega, by simp, by omega, hb, hm, fun j u hu => by simp at hu⟩

/-- A slice of bytes with an element, opened. -/
theorem SlB.open {M : Nat → Prop} {w : World} {v : Value} {bs : Bytes} (h : SlB M w v bs) (hp : 0 < bs.length) :
    ∃ b off cap, v = .slice (some ⟨b, off, none⟩) bs.length cap ∧ bs.length ≤ cap ∧ cap ≤ 9223372036854775807 ∧ b < w.heap.size ∧ ¬ M b ∧ ∀ j (hj : j < bs.length), w.cell? ⟨b, off + j, none⟩ = some (.int .u8 (bs[j].toNat : Int)) := by
  rcases h with ⟨_, h, _⟩ | ⟨b, off, cap, rfl, hn, hc, hb, hm, hcell⟩
  · omega
  · exact ⟨b, off, cap, rfl, hn, hc, hb, hm, fun j hj => hcell j (encB bs[j]) (by simp [hj])⟩

/-- The bytes of sealed bytes. -/
def openB (bs : Bytes) : Option Bytes :=
  if bs.length < 4 then none else if le4 (CW.sum (bs.take (bs.length - 4))) = bs.drop (bs.length - 4) then some (bs.take (bs.length - 4)) else none

def SlI (M : Nat → Prop) (w : World) (v : Value) (l : List Int) : Prop := Row M w v l.length (l.map encI)

/-- A slice of slices of bytes. -/
def SlBB (M : Nat → Prop) (w : World) (v : Value) (rs : List Bytes) : Prop :=
  ∃ vs : List Value, vs.length = rs.length ∧ Row M w v rs.length vs ∧ ∀ (i : Nat) (u : Value) (bs : Bytes), vs[i]? = some u → rs[i]? = some bs → SlB M w u bs

theorem SlBB.fr {M M' F : Nat → Prop} {w w' : World} {v : Value} {rs : List Bytes} (h : SlBB M w v rs) (hf : Fr F w w') (hF : ∀ k, F k → M k) (hM : ∀ k, k < w.heap.size → M' k → M k) : SlBB M' w' v rs := by
  obtain ⟨vs, hl, hr, he⟩ := h
  exact ⟨vs, hl, hr.fr hf hF hM, fun i u bs h1 h2 => (he i u bs h1 h2).fr hf hF hM⟩
theorem SlBB.below {M : Nat → Prop} {w w' : World} {v : Value} {rs : List Bytes} (h : SlBB M w v rs) (hf : Below w.heap.size w w') : SlBB M w' v rs :=
  h.fr (F := fun _ => False) (Fr.of_below hf) (fun _ h => h.elim) (fun _ _ h => h)
theorem SlBB.mono {M M' : Nat → Prop} {w : World} {v : Value} {rs : List Bytes} (h : SlBB M w v rs) (hM : ∀ k, k < w.heap.size → M' k → M k) : SlBB M' w v rs :=
  h.fr (F := fun _ => False) (Fr.refl _ w) (fun _ h => h.elim) hM
theorem SlBB.any {M : Nat → Prop} {w : World} {v : Value} {rs : List Bytes} (h : SlBB M w v rs) : SlBB (fun _ => False) w v rs := h.mono (fun _ _ h => h.elim)
theorem SlBB.nil {M : Nat → Prop} {w : World} : SlBB M w (.slice none 0 0) [] := ⟨[], rfl, .inl ⟨⟨_, rfl⟩, rfl, rfl⟩, fun i u bs h => by simp at h⟩

/-- Opened: nil or not; the i-th cell and what it shows. -/
theorem SlBB.open {M : Nat → Prop} {w : World} {v : Value} {rs : List Bytes} (h : SlBB M w v rs) :
    ∃ a cap, v = .slice a rs.length cap ∧ rs.length ≤ cap ∧ cap ≤ 9223372036854775807 ∧ (a = none → rs.length = 0 ∧ cap = 0) ∧
      (0 < rs.length → ∃ b off, a = some ⟨b, off, none⟩ ∧ b < w.heap.size ∧ ¬ M b ∧ ∀ i (hi : i < rs.length), ∃ u, w.cell? ⟨b, off + i, none⟩ = some u ∧ SlB M w u rs[i]) := by
  obtain ⟨vs, hl, hr, he⟩ := h
  obtain ⟨a, cap, rfl, hn, hc, hnone, hcell⟩ := hr.open
  refine ⟨a, cap, rfl, hn, hc, hnone, fun hp => ?_⟩
  obtain ⟨b, off, rfl, hb, hm, hcell⟩ := hcell hp
  refine ⟨b, off, rfl, hb, hm, fun i hi => ?_⟩
  have hiv : i < vs.length := by omega
  exact ⟨vs[i], hcell i _ (List.getElem?_eq_getElem hiv), he i _ _ (List.getElem?_eq_getElem hiv) (List.getElem?_eq_getElem hi)⟩

theorem SlB.shape {M : Nat → Prop} {w : World} {v : Value} {bs : Bytes} (h : SlB M w v bs) : ∃ a cap, v = .slice a bs.length cap ∧ bs.length ≤ cap ∧ cap ≤ 9223372036854775807 := by
  obtain ⟨a, cap, h1, h2, h3, _⟩ := Row.open h
  exact ⟨a, cap, h1, h2, h3⟩

/-- A literal of two slices. -/
theorem SlBB.lit2 {base : Nat} {M : Nat → Prop} {w : World} {v v' : Value} {bs bs' : Bytes} {e : Nat} (hb : base ≤ w.heap.size) (h : SlB M w v bs) (h' : SlB M w v' bs') (hM : ∀ k, M k → k < base) : SlBB M (w.alloc (.cells #[v, v'] e)) (.slice (some ⟨w.heap.size, 0, none⟩) 2 2) [bs, bs'] := by
  have hb' : Below w.heap.size w (w.alloc (.cells #[v, v'] e)) := (Below.refl _ _).alloc (Nat.le_refl _) _
  refine ⟨[v, v'], rfl, (Row.lit (size := 1) hb (by decide) rfl rfl).mono (fun k _ hk => hM k hk), fun i u bs'' h1 h2 => ?_⟩
  match i, h1, h2 with
  | 0, h1, h2 =>
    simp at h1 h2
    subst h1 h2
    exact h.below hb'
  | 1, h1, h2 =>
    simp at h1 h2
    subst h1 h2
    exact h'.below hb'
  | i + 2, h1, _ => simp at h1

/-- A literal of one slice. -/
theorem SlBB.lit1 {base : Nat} {M : Nat → Prop} {w : World} {v : Value} {bs : Bytes} {e : Nat} (hb : base ≤ w.heap.size) (h : SlB M w v bs) (hM : ∀ k, M k → k < base) : SlBB M (w.alloc (.cells #[v] e)) (.slice (some ⟨w.heap.size, 0, none⟩) 1 1) [bs] := by
  have hb' : Below w.heap.size w (w.alloc (.cells #[v] e)) := (Below.refl _ _).alloc (Nat.le_refl _) _
  refine ⟨[v], rfl, (Row.lit (size := 1) hb (by decide) rfl rfl).mono (fun k _ hk => hM k hk), fun i u bs' h1 h2 => ?_⟩
  match i, h1, h2 with
  | 0, h1, h2 =>
    simp at h1 h2
    subst h1 h2
    exact h.below hb'
  | i + 1, h1, _ => simp at h1

end CW

namespace CW

/-- A string's value. -/
def stV (b : Bytes) : Go.Value := .string ⟨b.toArray⟩

/-- The lowest k digits of a number, as characters. -/
def low : Nat → Nat → Bytes
  | 0, _ => []
  | k + 1, n => UInt8.ofNat (48 + n / 10 ^ k % 10) :: low k n

def pre4 : Bytes := [108, 111, 103, 45]
/-- The name of a segment. -/
def nameB (n : Nat) : Bytes := pre4 ++ low 8 n

theorem low_length (k n : Nat) : (low k n).length = k := by
  induction k with
  | zero => rfl
  | succ k ih => simp [low, ih]

theorem low_snoc (k n : Nat) : low (k + 1) n = low k (n / 10) ++ [UInt8.ofNat (48 + n % 10)] := by
  induction k with
  | zero => simp [low]
  | succ k ih =>
    rw [low, ih]
    show _ = (UInt8.ofNat (48 + n / 10 / 10 ^ k % 10) :: low k (n / 10)) ++ _
    rw [Nat.div_div_eq_div_mul, show 10 * 10 ^ k = 10 ^ (k + 1) from (Nat.pow_succ' ..).symm]
    rfl

theorem low_zero (k : Nat) : low k 0 = List.replicate k 48 := by
  induction k with
  | zero => rfl
  | succ k ih =>
    rw [low, ih, List.replicate_succ]
    simp

/-- A number's digits are unique. -/
theorem low_inj (k : Nat) : ∀ n m, n < 10 ^ k → m < 10 ^ k → low k n = low k m → n = m := by
  induction k with
  | zero => intro n m h1 h2 _; simp at h1 h2; omega
  | succ k ih =>
    intro n m h1 h2 h
    rw [low_snoc, low_snoc] at h
    have hl := List.append_inj h (by rw [low_length, low_length])
    have h3 := ih (n / 10) (m / 10) (by rw [Nat.pow_succ] at h1; omega) (by rw [Nat.pow_succ] at h2; omega) hl.1
    have h4 := hl.2
    simp only [List.cons.injEq, and_true] at h4
    have h5 := congrArg UInt8.toNat h4
    simp only [UInt8.toNat_ofNat'] at h5
    omega

theorem nameB_length (n : Nat) : (nameB n).length = 12 := by simp [nameB, pre4, low_length]
theorem nameB_inj {n m : Nat} (hn : n ≤ 99999999) (hm : m ≤ 99999999) (h : nameB n = nameB m) : n = m :=
  low_inj 8 n m (by omega) (by omega) (List.append_cancel_left h)

def isDig (c : UInt8) : Bool := decide (48 ≤ c.toNat) && decide (c.toNat ≤ 57)
/-- What a row of digits says. -/
def valB (l : Bytes) : Nat := l.foldl (fun a c => 10 * a + (c.toNat - 48)) 0
/-- The number of a segment, from its name. -/
def numB (s : Bytes) : Option Nat := if s.length = 12 ∧ s.take 4 = pre4 ∧ (s.drop 4).all isDig = true ∧ 0 < valB (s.drop 4) then some (valB (s.drop 4)) else none

theorem valB_snoc (l : Bytes) (c : UInt8) : valB (l ++ [c]) = 10 * valB l + (c.toNat - 48) := by simp [valB]
theorem valB_lt (l : Bytes) (h : l.all isDig = true) : valB l < 10 ^ l.length := by
  suffices H : ∀ (l : Bytes) (a k : Nat), l.all isDig = true → a < 10 ^ k → l.foldl (fun a c => 10 * a + (c.toNat - 48)) a < 10 ^ (k + l.length) by
    have := H l 0 0 h (by decide)
    rw [Nat.zero_add] at this
    exact this
  intro l
  induction l with
  | nil => intro a k _ h; simpa using h
  | cons c l ih =>
    intro a k h ha
    simp only [List.all_cons, Bool.and_eq_true] at h
    have hd := h.1
    simp only [isDig, Bool.and_eq_true, decide_eq_true_eq] at hd
    have := ih (10 * a + (c.toNat - 48)) (k + 1) h.2 (by rw [Nat.pow_succ]; omega)
    rw [List.length_cons, show k + (l.length + 1) = k + 1 + l.length by omega]
    exact this

theorem low_valB (l : Bytes) (h : l.all isDig = true) : low l.length (valB l) = l := by
  suffices H : ∀ k, ∀ l : Bytes, l.length = k → l.all isDig = true → low k (valB l) = l from H _ l rfl h
  intro k
  induction k with
  | zero => intro l hl _; rw [List.length_eq_zero_iff.1 hl]; rfl
  | succ k ih =>
    intro l hl hd
    rcases List.eq_nil_or_concat l with rfl | ⟨l', c, rfl⟩
    · simp at hl
    · rw [List.concat_eq_append] at *
      simp only [List.all_append, Bool.and_eq_true, List.all_cons, List.all_nil, and_true] at hd
      have hc := hd.2
      simp only [isDig, Bool.and_eq_true, decide_eq_true_eq] at hc
      rw [valB_snoc, low_snoc, show (10 * valB l' + (c.toNat - 48)) / 10 = valB l' by omega, show (10 * valB l' + (c.toNat - 48)) % 10 = c.toNat - 48 by omega, ih l' (by simpa using hl) hd.1, show 48 + (c.toNat - 48) = c.toNat by omega]
      simp

/-- The number of a segment's name, by the name. -/
theorem numB_eq (s : Bytes) (hl : s.length = 12) (hd : (s.drop 4).all isDig = true) : numB s = if 1 ≤ valB (s.drop 4) ∧ nameB (valB (s.drop 4)) = s then some (valB (s.drop 4)) else none := by
  have h8 : (s.drop 4).length = 8 := by rw [List.length_drop]; omega
  have hlow := low_valB (s.drop 4) hd
  rw [h8] at hlow
  have hn : nameB (valB (s.drop 4)) = pre4 ++ s.drop 4 := by rw [nameB, hlow]
  have hiff : nameB (valB (s.drop 4)) = s ↔ s.take 4 = pre4 := by
    rw [hn]
    constructor
    · intro h; rw [← h]; rfl
    · intro h; rw [← h, List.take_append_drop]
  unfold numB
  simp only [hl, hd, hiff, true_and]
  by_cases h1 : s.take 4 = pre4 <;> by_cases h2 : 0 < valB (s.drop 4) <;> simp [h1, h2] <;> omega

theorem numB_nameB (n : Nat) (h1 : 1 ≤ n) (h2 : n ≤ 99999999) : numB (nameB n) = some n := by
  have hd : ∀ k, (low k n).all isDig = true := by
    intro k
    induction k with
    | zero => rfl
    | succ k ih =>
      rw [low, List.all_cons, ih, Bool.and_true]
      simp only [isDig, UInt8.toNat_ofNat', Bool.and_eq_true, decide_eq_true_eq]
      omega
  have hdr : (nameB n).drop 4 = low 8 n := rfl
  have hv : valB (low 8 n) = n := by
    refine low_inj 8 _ _ ?_ (by omega) ?_
    · have := valB_lt (low 8 n) (hd 8); rwa [low_length] at this
    · have := low_valB (low 8 n) (hd 8); rwa [low_length] at this
  rw [numB_eq _ (nameB_length n) (by rw [hdr]; exact hd 8), hdr, hv, if_pos ⟨h1, rfl⟩]

end CW

namespace CW
open Go

abbrev ltB (a b : Bytes) : Bool := bytesBefore a b
theorem bytesLess_eq : ∀ a b : Bytes, Op.bytesLess a b = ltB a b
  | [], [] => rfl
  | _ :: _, [] => rfl
  | [], _ :: _ => rfl
  | a :: x, b :: y => by
    show (decide (a < b) || (a == b && Op.bytesLess x y)) = (decide (a < b) || (a == b && bytesBefore x y))
    rw [bytesLess_eq x y]
theorem ltB_irrefl (a : Bytes) : ltB a a = false := WideAt.bytes_irrefl a
theorem ltB_trans {a b c : Bytes} (h : ltB a b = true) (k : ltB b c = true) : ltB a c = true := WideShapes.bytes_trans a b c h k
theorem ltB_total {a b : Bytes} (h : a ≠ b) : ltB a b = true ∨ ltB b a = true := WideAt.bytes_total a b h
theorem ltB_asymm {a b : Bytes} (h : ltB a b = true) : ltB b a = false := by
  cases k : ltB b a
  · rfl
  · have := ltB_trans h k; rw [ltB_irrefl] at this; cases this
theorem ltB_ne {a b : Bytes} (h : ltB a b = true) : a ≠ b := by
  rintro rfl; rw [ltB_irrefl] at h; cases h

section
variable {α β : Type} (key : α → Bytes)

def SortedK (l : List α) : Prop := l.Pairwise (fun p q => ltB (key p) (key q) = true)
def withoutK (l : List α) (n : Bytes) : List α := l.filter (fun p => !(key p == n))
def insK (l : List α) (x : α) : List α := l.takeWhile (fun p => ltB (key p) (key x)) ++ x :: l.dropWhile (fun p => ltB (key p) (key x))
def putK (l : List α) (x : α) : List α := insK key (withoutK key l (key x)) x
def findK (l : List α) (n : Bytes) : Option Nat := l.findIdx? (fun p => key p == n)
def hasK (l : List α) (n : Bytes) : Bool := l.any (fun p => key p == n)

variable {key}

theorem insK_len (l : List α) (x : α) : (insK key l x).length = l.length + 1 := by
  have h : (l.takeWhile (fun p => ltB (key p) (key x)) ++ l.dropWhile (fun p => ltB (key p) (key x))).length = l.length := congrArg List.length List.takeWhile_append_dropWhile
  rw [List.length_append] at h
  rw [insK, List.length_append, List.length_cons]
  omega

theorem mem_insK {l : List α} {x y : α} : y ∈ insK key l x ↔ y = x ∨ y ∈ l := by
  unfold insK
  rw [List.mem_append, List.mem_cons]
  conv => rhs; rw [← List.takeWhile_append_dropWhile (p := fun p => ltB (key p) (key x)) (l := l), List.mem_append]
  constructor
  · rintro (h | h | h)
    · exact .inr (.inl h)
    · exact .inl h
    · exact .inr (.inr h)
  · rintro (h | h | h)
    · exact .inr (.inl h)
    · exact .inl h
    · exact .inr (.inr h)

theorem insK_sorted {l : List α} {x : α} (h : SortedK key l) (hne : ∀ p ∈ l, key p ≠ key x) : SortedK key (insK key l x) := by
  unfold insK SortedK at *
  induction l with
  | nil => simp
  | cons p l ih =>
    obtain ⟨h1, h2⟩ := List.pairwise_cons.1 h
    by_cases hp : ltB (key p) (key x) = true
    · rw [List.takeWhile_cons, if_pos hp, List.dropWhile_cons, if_pos hp, List.cons_append, List.pairwise_cons]
      refine ⟨fun q hq => ?_, ih h2 (fun q hq => hne q (by simp [hq]))⟩
      have hq' : q ∈ insK key l x := hq
      rcases mem_insK.1 hq' with rfl | hq'
      · exact hp
      · exact h1 q hq'
    · rw [List.takeWhile_cons, if_neg hp, List.dropWhile_cons, if_neg hp, List.nil_append, List.pairwise_cons]
      have hx : ltB (key x) (key p) = true := by
        rcases ltB_total (hne p (by simp)) with h' | h'
        · exact absurd h' hp
        · exact h'
      refine ⟨fun q hq => ?_, h⟩
      rcases List.mem_cons.1 hq with rfl | hq
      · exact hx
      · exact ltB_trans hx (h1 q hq)

theorem withoutK_sorted {l : List α} (h : SortedK key l) (n : Bytes) : SortedK key (withoutK key l n) := List.Pairwise.filter _ h
theorem withoutK_ne {l : List α} {n : Bytes} : ∀ p ∈ withoutK key l n, key p ≠ n := fun p hp => by simpa using (List.mem_filter.1 hp).2
theorem putK_sorted {l : List α} (h : SortedK key l) (x : α) : SortedK key (putK key l x) := insK_sorted (withoutK_sorted h _) withoutK_ne
theorem withoutK_of_not {l : List α} {n : Bytes} (h : ∀ p ∈ l, key p ≠ n) : withoutK key l n = l := List.filter_eq_self.2 (fun p hp => by simpa using h p hp)
theorem mem_putK {l : List α} {x y : α} : y ∈ putK key l x ↔ y = x ∨ (y ∈ l ∧ key y ≠ key x) := by
  rw [putK, mem_insK, withoutK, List.mem_filter]; simp
theorem withoutK_len (l : List α) (n : Bytes) : (withoutK key l n).length ≤ l.length := List.length_filter_le _ _
theorem putK_len (l : List α) (x : α) : (putK key l x).length ≤ l.length + 1 := by
  rw [putK, insK_len]; have := withoutK_len (key := key) l (key x); omega

theorem takeWhile_all {p : α → Bool} {l : List α} (h : ∀ x ∈ l, p x = true) : l.takeWhile p = l ∧ l.dropWhile p = [] := by
  induction l with
  | nil => exact ⟨rfl, rfl⟩
  | cons x l ih =>
    obtain ⟨i1, i2⟩ := ih (fun y hy => h y (by simp [hy]))
    rw [List.takeWhile_cons, List.dropWhile_cons, h x (by simp)]
    simp [i1, i2]
theorem takeWhile_none {p : α → Bool} {l : List α} (h : ∀ x ∈ l, p x = false) : l.takeWhile p = [] ∧ l.dropWhile p = l := by
  cases l with
  | nil => exact ⟨rfl, rfl⟩
  | cons x l => rw [List.takeWhile_cons, List.dropWhile_cons, h x (by simp)]; simp

/-- Another file of the same name goes into the same place. -/
theorem putK_mid {l r : List α} {y x : α} (h : SortedK key (l ++ y :: r)) (e : key x = key y) : putK key (l ++ y :: r) x = l ++ x :: r := by
  obtain ⟨h1, h2, h3⟩ := List.pairwise_append.1 h
  obtain ⟨h4, h5⟩ := List.pairwise_cons.1 h2
  have w1 : withoutK key l (key x) = l := withoutK_of_not (fun p hp => by rw [e]; exact ltB_ne (h3 p hp y (by simp)))
  have w2 : withoutK key r (key x) = r := withoutK_of_not (fun p hp => by rw [e]; exact (ltB_ne (h4 p hp)).symm)
  have w : withoutK key (l ++ y :: r) (key x) = l ++ r := by
    rw [withoutK, List.filter_append, List.filter_cons]
    simp only [e, beq_self_eq_true, Bool.not_true, Bool.false_eq_true, if_false]
    rw [← e]
    rw [show List.filter (fun p => !(key p == key x)) l = l from w1, show List.filter (fun p => !(key p == key x)) r = r from w2]
  have t1 := takeWhile_all (p := fun p => ltB (key p) (key x)) (l := l) (fun p hp => by rw [e]; exact h3 p hp y (by simp))
  have t2 := takeWhile_none (p := fun p => ltB (key p) (key x)) (l := r) (fun p hp => by rw [e]; exact ltB_asymm (h4 p hp))
  have ha : ∀ q ∈ l, (fun p => ltB (key p) (key x)) q = true := fun p hp => by rw [e]; exact h3 p hp y (by simp)
  rw [putK, w, insK, List.takeWhile_append_of_pos ha, List.dropWhile_append_of_pos ha, t2.1, t2.2, List.append_nil]

theorem putK_set {l : List α} {i : Nat} {x : α} (h : SortedK key l) (hi : i < l.length) (e : key x = key l[i]) : putK key l x = l.set i x := by
  have hl : l = l.take i ++ l[i] :: l.drop (i + 1) := by
    rw [List.getElem_cons_drop, List.take_append_drop]
  have h2 : l.set i x = l.take i ++ x :: l.drop (i + 1) := by rw [List.set_eq_take_append_cons_drop, if_pos hi]
  rw [h2]
  conv => lhs; rw [hl]
  exact putK_mid (hl ▸ h) e

theorem findK_some {l : List α} {n : Bytes} {i : Nat} (h : findK key l n = some i) : ∃ hi : i < l.length, key l[i] = n := by
  obtain ⟨hi, h1, _⟩ := List.findIdx?_eq_some_iff_getElem.1 h
  exact ⟨hi, by simpa using h1⟩
theorem findK_none {l : List α} {n : Bytes} : findK key l n = none ↔ ∀ p ∈ l, key p ≠ n := by
  rw [findK, List.findIdx?_eq_none_iff]; simp
theorem findK_map {γ : Type} {key' : γ → Bytes} (f : α → γ) (hf : ∀ p, key' (f p) = key p) (l : List α) (n : Bytes) : findK key' (l.map f) n = findK key l n := by
  rw [findK, findK, List.findIdx?_map]; congr 1; funext p; simp [hf]
theorem withoutK_map {γ : Type} {key' : γ → Bytes} (f : α → γ) (hf : ∀ p, key' (f p) = key p) (l : List α) (n : Bytes) : withoutK key' (l.map f) n = (withoutK key l n).map f := by
  rw [withoutK, withoutK, List.filter_map]; congr 2; funext p; simp [hf]
theorem insK_map {γ : Type} {key' : γ → Bytes} (f : α → γ) (hf : ∀ p, key' (f p) = key p) (l : List α) (x : α) : insK key' (l.map f) (f x) = (insK key l x).map f := by
  rw [insK, insK, List.takeWhile_map, List.dropWhile_map, List.map_append, List.map_cons]
  simp only [Function.comp_def, hf]
theorem putK_map {γ : Type} {key' : γ → Bytes} (f : α → γ) (hf : ∀ p, key' (f p) = key p) (l : List α) (x : α) : putK key' (l.map f) (f x) = (putK key l x).map f := by
  rw [putK, putK, hf, withoutK_map f hf, insK_map f hf]

/-- The map's own order. -/
theorem insert_insK {H : Type} (d : α → DataW H) (l : List α) (x : α) (hne : ∀ p ∈ l, key p ≠ key x) :
    DataW.insert (.string (key x), d x) (l.map fun p => (Lit.string (key p), d p)) = (insK key l x).map fun p => (Lit.string (key p), d p) := by
  induction l with
  | nil => rfl
  | cons p l ih =>
    rw [List.map_cons, DataW.insert]
    have hp := hne p (by simp)
    by_cases h : ltB (key p) (key x) = true
    · have h2 := ltB_asymm h
      have h3 : (Lit.string (key x)).before (Lit.string (key p)) = false := h2
      rw [h3]
      simp only [Bool.false_eq_true, if_false]
      rw [ih (fun q hq => hne q (by simp [hq]))]
      unfold insK
      rw [List.takeWhile_cons, if_pos h, List.dropWhile_cons, if_pos h]
      rfl
    · have h2 : ltB (key x) (key p) = true := by
        rcases ltB_total hp with h' | h'
        · exact absurd h' h
        · exact h'
      have h3 : (Lit.string (key x)).before (Lit.string (key p)) = true := h2
      rw [h3]
      simp only [if_true]
      unfold insK
      rw [List.takeWhile_cons, if_neg h, List.dropWhile_cons, if_neg h]
      rfl

def mapK {H : Type} (key : α → Bytes) (d : α → DataW H) (l : List α) : DataW H := .map (l.map fun p => (Lit.string (key p), d p))

theorem sameKey_string (a b : Bytes) : (Lit.string a).sameKey (Lit.string b) = (a == b) := rfl

theorem mapK_put {H : Type} (d : α → DataW H) (l : List α) (x : α) : (mapK key d l).put (.string (key x)) (d x) = mapK key d (putK key l x) := by
  unfold mapK DataW.put putK
  have e : (l.map fun p => (Lit.string (key p), d p)).filter (fun p => !p.1.sameKey (Lit.string (key x))) = (withoutK key l (key x)).map fun p => (Lit.string (key p), d p) := by
    rw [List.filter_map]; rfl
  simp only [e]
  rw [insert_insK d _ _ withoutK_ne]

theorem mapK_del {H : Type} (d : α → DataW H) (l : List α) (n : Bytes) : (mapK key d l).del (.string n) = mapK key d (withoutK key l n) := by
  unfold mapK DataW.del
  have e : (l.map fun p => (Lit.string (key p), d p)).filter (fun p => !p.1.sameKey (Lit.string n)) = (withoutK key l n).map fun p => (Lit.string (key p), d p) := by
    rw [List.filter_map]; rfl
  simp only [e]

theorem mapK_has {H : Type} (d : α → DataW H) (l : List α) (n : Bytes) : Maps.has (mapK key d l) (.string n) = (findK key l n).isSome := by
  rw [mapK, Maps.has_eq, List.any_map, findK, List.findIdx?_isSome]; rfl

theorem mapK_at {H : Type} (d : α → DataW H) (l : List α) (n : Bytes) (z : DataW H) : (mapK key d l).atKey (.string n) z = match findK key l n with | some i => (match l[i]? with | some p => d p | none => z) | none => z := by
  unfold mapK DataW.atKey
  simp only [List.find?_map]
  have e : ((fun p : Lit × DataW H => p.1.sameKey (Lit.string n)) ∘ fun p => (Lit.string (key p), d p)) = fun p => key p == n := rfl
  rw [e]
  rcases h : findK key l n with _ | i
  · have h2 : l.find? (fun p => key p == n) = none := by rw [List.find?_eq_none]; intro p hp; simpa using findK_none.1 h p hp
    rw [h2]; rfl
  · have h2 : l.find? (fun p => key p == n) = l[i]? := by
      rw [List.find?_eq_bind_findIdx?_getElem?]
      unfold findK at h
      rw [h]; rfl
    obtain ⟨hi, _⟩ := findK_some h
    rw [h2, List.getElem?_eq_getElem hi]
    simp only [List.getElem?_eq_getElem hi, Option.map_some]
theorem mapK_size {H : Type} (d : α → DataW H) (l : List α) : Maps.size (mapK key d l) = l.length := by simp [mapK, Maps.size]

end

structure FileA where
  name : Bytes
  b : Bytes
  dur : Nat
structure DiskA where
  room : Int
  files : List FileA
  plan : Int
  down : Bool

def usedF (fs : List FileA) : Nat := (fs.map (·.b.length)).sum
abbrev putF (fs : List FileA) (f : FileA) : List FileA := putK FileA.name fs f
abbrev findF (fs : List FileA) (n : Bytes) : Option Nat := findK FileA.name fs n

end CW

namespace CW

def frameB (r : Bytes) : Bytes := sealB (le4 r.length ++ r)
def makeB (r : Bytes) : Option Bytes := if r.length ≤ 1048576 then some (frameB r) else none
/-- The number that the first four bytes are. -/
def num4 (bs : Bytes) : Nat := (bs.getD 0 0).toNat + 256 * (bs.getD 1 0).toNat + 65536 * (bs.getD 2 0).toNat + 16777216 * (bs.getD 3 0).toNat
/-- The record that some bytes begin with, and the bytes of its frame. -/
def nextB (bs : Bytes) : Option (Bytes × Nat) :=
  if bs.length < 8 then none else if 1048576 < num4 bs ∨ bs.length < num4 bs + 8 then none else (openB (bs.take (num4 bs + 8))).map (fun x => (x.drop 4, num4 bs + 8))

theorem le4_length (x : Nat) : (le4 x).length = 4 := rfl
theorem sealB_length (bs : Bytes) : (sealB bs).length = bs.length + 4 := by unfold sealB; rw [List.length_append, le4_length]
theorem frameB_length (r : Bytes) : (frameB r).length = r.length + 8 := by unfold frameB; rw [sealB_length, List.length_append, le4_length]; omega
theorem openB_length {bs x : Bytes} (h : openB bs = some x) : x.length + 4 = bs.length := by
  unfold openB at h
  split at h
  · cases h
  · split at h
    · cases h; rw [List.length_take]; omega
    · cases h
theorem nextB_pos {bs x : Bytes} {n : Nat} (h : nextB bs = some (x, n)) : 8 ≤ n ∧ n ≤ bs.length ∧ x.length + 8 = n := by
  unfold nextB at h
  split at h
  · cases h
  · split at h
    · cases h
    · rename_i h1 h2
      rw [Option.map_eq_some_iff] at h
      obtain ⟨y, hy, e⟩ := h
      cases e
      have := openB_length hy
      rw [List.length_take] at this
      rw [List.length_drop]
      omega

/-- The records at the beginning of some bytes, and the bytes of their frames. -/
def splitB (bs : Bytes) : List Bytes × Nat :=
  match h : nextB bs with
  | none => ([], 0)
  | some (x, n) => (x :: (splitB (bs.drop n)).1, n + (splitB (bs.drop n)).2)
termination_by bs.length
decreasing_by all_goals (have := nextB_pos h; rw [List.length_drop]; omega)

/-- The records at the beginning of some bytes, each with the place where its frame ends. -/
def endsB (at_ : Nat) (bs : Bytes) : List (Bytes × Nat) :=
  match h : nextB bs with
  | none => []
  | some (x, n) => (x, at_ + n) :: endsB (at_ + n) (bs.drop n)
termination_by bs.length
decreasing_by have := nextB_pos h; rw [List.length_drop]; omega

theorem endsB_none {at_ : Nat} {bs : Bytes} (h : nextB bs = none) : endsB at_ bs = [] := by
  rw [endsB]; split
  · rfl
  · rename_i h'; rw [h] at h'; cases h'
theorem endsB_some {at_ : Nat} {bs x : Bytes} {n : Nat} (h : nextB bs = some (x, n)) : endsB at_ bs = (x, at_ + n) :: endsB (at_ + n) (bs.drop n) := by
  rw [endsB]; split
  · rename_i h'; rw [h] at h'; cases h'
  · rename_i h'; rw [h] at h'; cases h'; rfl
theorem splitB_none {bs : Bytes} (h : nextB bs = none) : splitB bs = ([], 0) := by
  rw [splitB]; split
  · rfl
  · rename_i h'; rw [h] at h'; cases h'
theorem splitB_some {bs x : Bytes} {n : Nat} (h : nextB bs = some (x, n)) : splitB bs = (x :: (splitB (bs.drop n)).1, n + (splitB (bs.drop n)).2) := by
  rw [splitB]; split
  · rename_i h'; rw [h] at h'; cases h'
  · rename_i h'; rw [h] at h'; cases h'; rfl

theorem endsB_fst (k : Nat) : ∀ (bs : Bytes) (at_ : Nat), bs.length ≤ k → (endsB at_ bs).map (·.1) = (splitB bs).1 := by
  induction k with
  | zero =>
    intro bs at_ h
    have hn : nextB bs = none := by
      cases hn : nextB bs with
      | none => rfl
      | some p => obtain ⟨x, n⟩ := p; have := nextB_pos hn; omega
    rw [endsB_none hn, splitB_none hn]; rfl
  | succ k ih =>
    intro bs at_ h
    cases hn : nextB bs with
    | none => rw [endsB_none hn, splitB_none hn]; rfl
    | some p =>
      obtain ⟨x, n⟩ := p
      have := nextB_pos hn
      rw [endsB_some hn, splitB_some hn, List.map_cons, ih _ _ (by rw [List.length_drop]; omega)]

/-- The place behind the last frame. -/
def lastEnd (d : Nat) : List (Bytes × Nat) → Nat
  | [] => d
  | p :: r => lastEnd p.2 r

theorem lastEnd_snoc (d : Nat) (l : List (Bytes × Nat)) (p : Bytes × Nat) : lastEnd d (l ++ [p]) = p.2 := by
  induction l generalizing d with
  | nil => rfl
  | cons q r ih => exact ih q.2

theorem endsB_last (k : Nat) : ∀ (bs : Bytes) (at_ : Nat), bs.length ≤ k → lastEnd at_ (endsB at_ bs) = at_ + (splitB bs).2 := by
  induction k with
  | zero =>
    intro bs at_ h
    have hn : nextB bs = none := by
      cases hn : nextB bs with
      | none => rfl
      | some p => obtain ⟨x, n⟩ := p; have := nextB_pos hn; omega
    rw [endsB_none hn, splitB_none hn]; rfl
  | succ k ih =>
    intro bs at_ h
    cases hn : nextB bs with
    | none => rw [endsB_none hn, splitB_none hn]; rfl
    | some p =>
      obtain ⟨x, n⟩ := p
      have := nextB_pos hn
      rw [endsB_some hn, splitB_some hn]
      show lastEnd (at_ + n) _ = _
      rw [ih _ _ (by rw [List.length_drop]; omega)]
      show _ = at_ + (n + _)
      omega

theorem splitB_le (k : Nat) : ∀ (bs : Bytes), bs.length ≤ k → (splitB bs).2 ≤ bs.length := by
  induction k with
  | zero =>
    intro bs h
    have hn : nextB bs = none := by
      cases hn : nextB bs with
      | none => rfl
      | some p => obtain ⟨x, n⟩ := p; have := nextB_pos hn; omega
    rw [splitB_none hn]; exact Nat.zero_le _
  | succ k ih =>
    intro bs h
    cases hn : nextB bs with
    | none => rw [splitB_none hn]; exact Nat.zero_le _
    | some p =>
      obtain ⟨x, n⟩ := p
      have := nextB_pos hn
      rw [splitB_some hn]
      have := ih (bs.drop n) (by rw [List.length_drop]; omega)
      rw [List.length_drop] at this
      show n + _ ≤ _
      omega

theorem splitB_count (k : Nat) : ∀ (bs : Bytes), bs.length ≤ k → (splitB bs).1.length * 8 ≤ bs.length := by
  induction k with
  | zero =>
    intro bs h
    have hn : nextB bs = none := by
      cases hn : nextB bs with
      | none => rfl
      | some p => obtain ⟨x, n⟩ := p; have := nextB_pos hn; omega
    rw [splitB_none hn]; exact Nat.zero_le _
  | succ k ih =>
    intro bs h
    cases hn : nextB bs with
    | none => rw [splitB_none hn]; exact Nat.zero_le _
    | some p =>
      obtain ⟨x, n⟩ := p
      have := nextB_pos hn
      rw [splitB_some hn]
      have := ih (bs.drop n) (by rw [List.length_drop]; omega)
      rw [List.length_drop] at this
      simp only [List.length_cons]
      omega

theorem endsB_count (bs : Bytes) (at_ : Nat) : (endsB at_ bs).length * 8 ≤ bs.length := by
  have h1 := congrArg List.length (endsB_fst bs.length bs at_ (Nat.le_refl _))
  rw [List.length_map] at h1
  rw [h1]
  exact splitB_count bs.length bs (Nat.le_refl _)

end CW
