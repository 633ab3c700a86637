/- Lemmas for a law of this seat, part 24: contracts of the functions that it reaches, and the plain law. No condition but those of each lemma. -/
import Derived.Test.YtepceidajmedeaaGreatDoorWal21
import Derived.LoopIn
import Derived.LoopNIn
import Derived.OwnWalkIn
import Derived.RangeFuncBound
import Derived.RangeFuncCalls
import Derived.RangeFuncOwn
import Derived.Shelf.Abstract
import Derived.Shelf.RegionOpen
import Derived.TacticsInMore

namespace Go.Proofs.YtepceidajmedeaaGreatDoor
open Go.RowKit CW
attribute [local go_sem] Oper.semAt_some

theorem below_fr {n : Nat} {w w' : World} (h : Below n w w') : Fr (fun k => ¬ k < n) w w' := ⟨h.os, h.tape, h.output, h.size, fun k _ hn => h.block k (Decidable.not_not.1 hn)⟩

set_option maxHeartbeats 1000000 in
set_option maxRecDepth 100000 in
theorem all1_in (n l Bx n₀ : Nat) (hn1 : 1 ≤ n) (bv : Value) (bs : Bytes) (J : List (Bytes × Nat) → World → Prop) (hlen : bs.length ≤ 70368744177660)
    (hJ : ∀ pre W0 W1, J pre W0 → Below W0.heap.size W0 W1 → J pre W1)
    (hY : ∀ pre x e u W0 W1, J pre W0 → Below W0.heap.size W0 W1 → SlB (fun k => k < W0.heap.size) W1 u x → pre.length < (endsB 0 bs).length → YieldAt Fence.wide (n - 1) Tryz.prog l #[.int .i64 (e : Nat), u] W1 fun e' W' =>
      e' = .returned (.bool true) ∧ J (pre ++ [(x, e)]) W' ∧ Below n₀ W1 W' ∧ W'.cell? ⟨Bx, 0, none⟩ = W1.cell? ⟨Bx, 0, none⟩)
    (W : World) (hBx : W.cell? ⟨Bx, 0, none⟩ = some bv) (hbv : SlB (fun k => ¬ k < n₀) W bv bs) (hn₀ : n₀ ≤ W.heap.size) (h0 : J [] W) :
    CallsIn Fence.wide n Tryz.prog 164 #[.func (.yield l) #[] #[], .pointer (some ⟨Bx, 0, none⟩)] W fun e W' => (∃ v, e = .returned v) ∧ J (endsB 0 bs) W' := by
  obtain ⟨a, cap, rfl, hn, hcap⟩ := hbv.shape
  have hnx : ∀ (v : Value) (xs : Bytes) (w : World), SlB (fun _ => False) w v xs → xs.length ≤ 70368744177660 → CallsIn Fence.wide (n - 1) Tryz.prog 165 #[v] w fun e w' => ∃ v' n, e = .returned (.tuple #[v', .int .i64 (n : Nat)]) ∧ Below w.heap.size w w' ∧
      (nextB xs = none ∧ v' = .slice none 0 0 ∧ n = 0 ∨ ∃ x, nextB xs = some (x, n) ∧ SlB (fun k => k < w.heap.size) w' v' x) := fun v xs w h1 h2 => callsIn_wide.2 (next_any v xs w h1 h2)
  have hf1 : Fence.wide.fn 165 := trivial
  refine callsIn_of_wp Tryz.func164 rfl trivial ?_ rfl
  simp only [Tryz.ntmps164, List.size_toArray, List.length_cons, List.length_nil, Nat.reduceAdd, Nat.reduceSub, Array.replicate_succ, Array.replicate_zero, List.push_toArray, List.append_toArray, List.nil_append, List.cons_append]
  gi_wp2_with (first | (gi_at_call 165; refine (hnx _ _ _ hbv.any hlen).mono ?_; rintro e w1 ⟨v1, n1, rfl, hb1, hres⟩))
  gi_loopw [3, 4, 5] (fun e x m wr => ∃ (pre : List (Bytes × Nat)) (at_ nn : Nat) (Wp : World), e = .int .i64 at_ ∧ m = .int .i64 nn ∧ J pre Wp ∧ Below Wp.heap.size Wp wr ∧ at_ ≤ bs.length ∧ endsB 0 bs = pre ++ endsB at_ (bs.drop at_) ∧
      wr.cell? ⟨Bx, 0, none⟩ = some (.slice a bs.length cap) ∧ Below n₀ W wr ∧ (nextB (bs.drop at_) = none ∧ nn = 0 ∨ ∃ r, nextB (bs.drop at_) = some (r, nn) ∧ SlB (fun k => k < Wp.heap.size) wr x r))
    (fun e _ _ _ => bs.length + 1 - (intOf e).toNat)
  case atStart =>
    refine ⟨[], 0, n1, W, rfl, rfl, h0, hb1, by omega, rfl, (hb1.cell (p := ⟨Bx, 0, none⟩) (block_lt_of_cell hBx)).trans hBx, hb1.mono hn₀, ?_⟩
    rcases hres with ⟨h1, _, rfl⟩ | h
    · exact .inl ⟨h1, rfl⟩
    · exact .inr h
  case round =>
    obtain ⟨pre, at_, nn, Wp, rfl, rfl, hJp, hbp, hat, hends, hbx, hbW, hres⟩ := hrel
    rcases hres with ⟨hno, rfl⟩ | ⟨r, hso, hsr⟩
    · have hfin := hJ _ _ _ hJp hbp
      rw [endsB_none hno, List.append_nil] at hends
      clear hY hJ hnx
      gi_wp2
      go_end0
      exact ⟨⟨_, rfl⟩, by rw [hends]; exact hfin⟩
    · have hpos := nextB_pos hso
      have hdl : (bs.drop at_).length = bs.length - at_ := List.length_drop
      rw [hdl] at hpos
      obtain ⟨b, off, capb, hbe, _, _, hbl, hbM, _⟩ := hbv.open (by omega)
      cases hbe
      obtain ⟨a', cap', hxe, _, _⟩ := hsr.shape
      subst hxe
      have hyy := hY pre r (at_ + nn) _ Wp wr hJp hbp hsr (by rw [hends, endsB_some hso]; simp)
      rw [Int.natCast_add] at hyy
      have hE2 : Hid (endsB 0 bs = (pre ++ [(r, at_ + nn)]) ++ endsB (at_ + nn) (bs.drop (at_ + nn))) := by
        show endsB 0 bs = _
        rw [hends, endsB_some hso, List.drop_drop]
        simp
      have i1 : 0 < nn := by omega
      have i2 : at_ + nn ≤ bs.length := by omega
      clear hY hends hso hpos hdl
      obtain ⟨fn, tmps, assign, body, hy, hR⟩ := hyy
      gi_wp2
      refine hR.mono ?_
      rintro e W3 ⟨rfl, hJ3, hk3, hc3⟩
      have hbx3 := hc3.trans hbx
      have hW3 := hbW.trans hk3
      have hbv3 : SlB (fun k => ¬ k < n₀) W3 (.slice (some ⟨b, off, none⟩) bs.length cap) bs := hbv.fr (below_fr hW3) (fun _ h => h) (fun _ _ h => h)
      have hl3 : (bs.drop (at_ + nn)).length ≤ 70368744177660 := by rw [List.length_drop]; omega
      have g1 : (at_ : Int) + (nn : Int) ≤ (bs.length : Int) := by omega
      have g2 : ((at_ : Int) + (nn : Int)).toNat = at_ + nn := by omega
      clear hR hy hc3
      by_cases hcc : cap = at_ + nn
      · subst hcc
        have hd3 := hbv3.dropCap (at_ + nn) i2 rfl
        rw [Nat.sub_self, show bs.length - (at_ + nn) = 0 by omega] at hd3
        gi_wp2_with (first | (gi_at_call 165; refine (hnx _ _ _ hd3.any hl3).mono ?_; rintro e w4 ⟨v4, n4, rfl, hb4, hres4⟩))
        have hres5 : nextB (bs.drop (at_ + nn)) = none ∧ n4 = 0 ∨ ∃ r, nextB (bs.drop (at_ + nn)) = some (r, n4) ∧ SlB (fun k => k < W3.heap.size) w4 v4 r := by
          rcases hres4 with ⟨h1, _, h⟩ | h
          · exact .inl ⟨h1, h⟩
          · exact .inr h
        go_roundw
        case rel => exact ⟨pre ++ [(r, at_ + nn)], at_ + nn, n4, W3, by go_num, rfl, hJ3, hb4, i2, hE2.out, (hb4.cell (p := ⟨Bx, 0, none⟩) (block_lt_of_cell hbx3)).trans hbx3, hW3.trans (hb4.mono (Nat.le_trans hn₀ hW3.size)), hres5⟩
        case measure => simp [intOf]; omega
      · have hd3 := hbv3.drop (at_ + nn) i2
        gi_wp2_with (first | (gi_at_call 165; refine (hnx _ _ _ hd3.any hl3).mono ?_; rintro e w4 ⟨v4, n4, rfl, hb4, hres4⟩))
        have hres5 : nextB (bs.drop (at_ + nn)) = none ∧ n4 = 0 ∨ ∃ r, nextB (bs.drop (at_ + nn)) = some (r, n4) ∧ SlB (fun k => k < W3.heap.size) w4 v4 r := by
          rcases hres4 with ⟨h1, _, h⟩ | h
          · exact .inl ⟨h1, h⟩
          · exact .inr h
        go_roundw
        case rel => exact ⟨pre ++ [(r, at_ + nn)], at_ + nn, n4, W3, by go_num, rfl, hJ3, hb4, i2, hE2.out, (hb4.cell (p := ⟨Bx, 0, none⟩) (block_lt_of_cell hbx3)).trans hbx3, hW3.trans (hb4.mono (Nat.le_trans hn₀ hW3.size)), hres5⟩
        case measure => simp [intOf]; omega

theorem all_any (a : Option Addr) (n cap : Nat) (w : World) :
    Calls Tryz.prog 134 #[.slice a n cap] w fun e w' => e = .returned (.func (.func 164) #[] #[.pointer (some ⟨w.heap.size, 0, none⟩)]) ∧ w.alloc (.cells #[.slice a n cap] 30) = w' := by
  go_enter Tryz.func134, Tryz.ntmps134
  go_wp2
  go_ret
  exact ⟨rfl, rfl⟩

theorem owns_succ {w : World} {base e size k : Nat} {v : Value} {cs : List Value} (h : w.ownsRow base e size v (k + 1) cs) : ∃ g cap, v = .slice (some ⟨g, 0, none⟩) (k + 1) cap := by
  rcases h.2 with ⟨_, h⟩ | ⟨g, cap, _, h, _⟩
  · omega
  · exact ⟨g, cap, h⟩

theorem heap_lt {W : World} {k : Nat} {o : Obj} (h : W.heap[k]? = some o) : k < W.heap.size := (Array.getElem?_eq_some_iff.1 h).1

theorem cell_putObj {W : World} {k : Nat} {o o' : Obj} (hk : W.heap[k]? = some o') (ho : o'.isCells = false) {a : Addr} {v : Value} (h : W.cell? a = some v) : (W.putObj k o).cell? a = some v := by
  by_cases e : a.block = k
  · subst e
    unfold World.cell? at h
    rw [hk] at h
    cases o' <;> simp_all [Obj.isCells]
  · rw [World.cell?_of_block (w := W) (World.putObj_heap_other e)]; exact h

theorem row_putObj {M : Nat → Prop} {W : World} {v : Value} {n : Nat} {cs : List Value} (h : Row M W v n cs) {k : Nat} {o o' : Obj} (hk : W.heap[k]? = some o') (ho : o'.isCells = false) : Row M (W.putObj k o) v n cs := by
  rcases h with h | ⟨b, off, cap, hv, hn, hc, hb, hm, hcell⟩
  · exact .inl h
  · exact .inr ⟨b, off, cap, hv, hn, hc, by simpa using hb, hm, fun j u hu => cell_putObj hk ho (hcell j u hu)⟩
theorem slB_putObj {M : Nat → Prop} {W : World} {v : Value} {bs : Bytes} (h : SlB M W v bs) {k : Nat} {o o' : Obj} (hk : W.heap[k]? = some o') (ho : o'.isCells = false) : SlB M (W.putObj k o) v bs := row_putObj h hk ho

theorem slBB_putObj {M : Nat → Prop} {W : World} {v : Value} {rs : List Bytes} (h : SlBB M W v rs) {k : Nat} {o o' : Obj} (hk : W.heap[k]? = some o') (ho : o'.isCells = false) : SlBB M (W.putObj k o) v rs := by
  obtain ⟨vs, hl, hr, he⟩ := h
  exact ⟨vs, hl, row_putObj hr hk ho, fun i u bs a b => slB_putObj (he i u bs a b) hk ho⟩

theorem owns_putObj {W : World} {base e size n : Nat} {v : Value} {cs : List Value} (h : W.ownsRow base e size v n cs) {k : Nat} {o o' : Obj} (hk : W.heap[k]? = some o') (ho : o'.isCells = false) : (W.putObj k o).ownsRow base e size v n cs := by
  refine ⟨h.1, ?_⟩
  rcases h.2 with h | ⟨g, cap, cur, hv, hg, hh, r⟩
  · exact .inl h
  · refine .inr ⟨g, cap, cur, hv, hg, ?_, r⟩
    rw [World.putObj_heap_other (fun e => by subst e; rw [hk] at hh; cases hh; simp [Obj.isCells] at ho)]
    exact hh

/-- What holds between two rounds of Split's loop: the two boxes, the slices that have come. -/
def SplitJ (B : Nat) (w : World) (pre : List (Bytes × Nat)) (W : World) : Prop :=
  ∃ v vs, W.heap[B]? = some (.cells #[v] 23 (0, 0)) ∧ W.heap[B + 1]? = some (.cells #[.int .i64 (lastEnd 0 pre : Nat)] 3 (0, 0)) ∧ vs.length = pre.length ∧
    W.ownsRow (B + 3) 30 1 v pre.length vs ∧ (∀ (i : Nat) (u : Value) (p : Bytes × Nat), vs[i]? = some u → pre[i]? = some p → SlB (fun k => k < B + 3 ∨ some k = v.ownBlock) W u p.1) ∧ Below B w W ∧ B + 3 ≤ W.heap.size

theorem SplitJ.below {B : Nat} {w : World} {pre : List (Bytes × Nat)} {W0 W1 : World} (h : SplitJ B w pre W0) (hb : Below W0.heap.size W0 W1) : SplitJ B w pre W1 := by
  obtain ⟨v, vs, h1, h2, h3, h4, h5, h8, h9⟩ := h
  exact ⟨v, vs, (hb.block _ (heap_lt h1)).trans h1, (hb.block _ (heap_lt h2)).trans h2, h3, owns_below h4 hb, fun i u p a b => (h5 i u p a b).below hb, h8.trans (hb.mono (Nat.le_of_lt (heap_lt h1))), Nat.le_trans h9 hb.size⟩

theorem SplitJ.put {B : Nat} {w : World} {pre : List (Bytes × Nat)} {W : World} (h : SplitJ B w pre W) {k : Nat} {o : Obj} (hB : B + 3 ≤ k) (hk : ∃ o', W.heap[k]? = some o' ∧ o'.isCells = false) : SplitJ B w pre (W.putObj k o) := by
  obtain ⟨v, vs, h1, h2, h3, h4, h5, h8, h9⟩ := h
  obtain ⟨o', hk, ho⟩ := hk
  exact ⟨v, vs, (World.putObj_heap_other (by omega)).trans h1, (World.putObj_heap_other (by omega)).trans h2, h3, owns_putObj h4 hk ho, fun i u p a b => slB_putObj (h5 i u p a b) hk ho,
    h8.trans ⟨rfl, rfl, rfl, by simp, fun i hi => World.putObj_heap_other (by omega)⟩, by simpa using h9⟩

theorem splitJ_start (w : World) (a : Option Addr) (n cap : Nat) :
    SplitJ w.heap.size w [] (((w.alloc (.cells #[.slice none 0 0] 23)).alloc (.cells #[.int .i64 0] 3)).alloc (.cells #[.slice a n cap] 30)) := by
  have g : ∀ (W : World) (o : Obj), (W.alloc o).heap = W.heap.push o := fun _ _ => rfl
  refine ⟨.slice none 0 0, [], ?_, ?_, rfl, World.ownsRow_nil _ _ _ _, fun i u p h => by simp at h, ?_, by simp⟩
  · simp only [g, Array.getElem?_push, Array.size_push]
    rw [if_neg (by omega), if_neg (by omega), if_pos trivial]
  · simp only [g, Array.getElem?_push, Array.size_push]
    rw [if_neg (by omega), if_pos trivial]
    rfl
  · exact (((Below.refl _ w).alloc (Nat.le_refl _) _).alloc (by simp) _).alloc (by simp; omega) _


/-- The statement of a range over a function, for an iterator whose contract is told over whatever invariant of the caller's: the law of this text alone, over the kit's 'wpIn_rangeFunc'. No round leaves the loop. -/
theorem wpIn_range_x {P : Program} {n : Nat} {g : Operand} {ps : Array Tmp} {assign body : Code} {Q : Exit → Act → World → Prop} {a : Act} {w : World} (h2 : 2 ≤ n)
    {gf : Nat} {lb : Array Value} (hg : a.eval g = .func (.func gf) #[] lb) (eg : ∀ args w, (callFunc gf args).run P w = .ok (.enter gf args) w)
    {β : Type} (b0 b1 : β) (Step : β → β → Array Value → World → World → Prop) (Kp : World → World → Prop)
    (I : β → World → Prop)
    (hit : ∀ (l : Nat) (J : β → World → Prop) (W1 : World), Below w.heap.size w W1 → (∀ b W0 W1, J b W0 → Below W0.heap.size W0 W1 → J b W1) →
      (∀ b b' vals W0 W1, J b W0 → Below W0.heap.size W0 W1 → Step b b' vals W0 W1 → YieldAt Fence.wide (n - 1 - 1) P l vals W1 fun e' W' => e' = .returned (.bool true) ∧ J b' W' ∧ Kp W1 W') →
      J b0 W1 → CallsIn Fence.wide (n - 1) P gf (#[.func (.yield l) #[] #[]] ++ lb) W1 fun e W' => (∃ v, e = .returned v) ∧ J b1 W')
    (hsz : ∀ b b' vals W0 W1, Step b b' vals W0 W1 → vals.size = ps.size)
    (hI : ∀ b W0 W1, I b W0 → Below W0.heap.size W0 W1 → I b W1) (hIput : ∀ b W k o, w.heap.size ≤ k → (∃ o', W.heap[k]? = some o' ∧ o'.isCells = false) → I b W → I b (W.putObj k o))
    (hKt : ∀ {A B C : World}, Kp A B → Kp B C → Kp A C) (hKput : ∀ W k o, w.heap.size ≤ k → Kp W (W.putObj k o))
    (h0 : I b0 w)
    (hbody : ∀ (l : Nat) b b' vals W0 W1 o, I b W0 → Below W0.heap.size W0 W1 → Step b b' vals W0 W1 → w.heap.size ≤ l → (∃ o', W1.heap[l]? = some o' ∧ o'.isCells = false) →
      assign.wpIn (Fence.wide.inRound l) (n - 1 - 1) P (Exit.then (fun a₁ w₁ => w₁ = W1 ∧ body.wpIn (Fence.wide.inRound l) (n - 1 - 1) P (fun
        | .normal, _, W' => I b' W' ∧ Kp (W1.putObj l o) W' ∧ (∀ k o', w.heap.size ≤ k → (W1.putObj l o).heap[k]? = some o' → o'.isCells = false → W'.heap[k]? = some o')
        | _, _, _ => False) a₁ (W1.putObj l o)) (fun _ _ _ => False))
        { tmps := (ps.zip vals).foldl (fun t (p, v) => t.setIfInBounds p v) a.tmps, defers := [] } W1)
    (hdone : ∀ (D : Nat) (W : World), w.heap.size ≤ D → I b1 W → W.heap[D]? = some (.deferred (some [])) → Q .normal { a with defers := { target := .collected D, args := #[] } :: a.defers } W) :
    (Code.rangeFunc g ps assign body).wpIn Fence.wide n P Q a w := by
  refine wpIn_rangeFunc ?_
  intro fn _
  obtain ⟨rec, hrec⟩ : ∃ rec : LoopState → Option Code → Loop, rec = fun st pe => { state := st, pending := pe, fn, tmps := a.tmps, params := ps, assign, body, defers := w.heap.size } := ⟨_, rfl⟩
  obtain ⟨W1, hW1⟩ : ∃ W1, (w.alloc (.deferred (some []))).alloc (.loop (rec .ready none)) = W1 := ⟨_, rfl⟩
  have hb1 : Below w.heap.size w W1 := by rw [← hW1]; exact ((Below.refl _ w).alloc (Nat.le_refl _) _).alloc (by simp) _
  have hL1 : W1.heap[w.heap.size + 1]? = some (.loop (rec .ready none)) := by
    rw [← hW1]; have := heap_alloc_new (w.alloc (.deferred (some []))) (.loop (rec .ready none)); rwa [World.size_alloc] at this
  have hK1 : W1.heap[w.heap.size]? = some (.deferred (some [])) := by
    rw [← hW1]; exact (Below.heap_alloc _ _ _ (by simp)).trans (heap_alloc_new w _)
  have hI1 : I b0 W1 := hI _ _ _ h0 hb1
  refine ⟨w.heap.size + 1, [{ target := .collected w.heap.size, args := #[] }], W1, { target := .fn (.func gf) lb, args := #[.func (.yield (w.heap.size + 1)) #[] #[]] }, W1, gf,
    #[.func (.yield (w.heap.size + 1)) #[] #[]] ++ lb, W1, ?_, ?_, fun _ _ => trivial, ?_, fun _ => by omega, ?_⟩
  · rw [← hW1, hrec]; exact run_enterLoop_outer _ _ _ _ _
  · simp only [resolve, hg]
    simp [go_sem]
  · simp [invoke, go_sem, eg]
  · refine (hit (w.heap.size + 1) (fun b W => I b W ∧ W.heap[w.heap.size + 1]? = some (.loop (rec .ready none)) ∧ W.heap[w.heap.size]? = some (.deferred (some []))) W1 hb1
      (fun b A B hs hb => ⟨hI b A B hs.1 hb, (hb.block _ (heap_lt hs.2.1)).trans hs.2.1, (hb.block _ (heap_lt hs.2.2)).trans hs.2.2⟩) ?_ ⟨hI1, hL1, hK1⟩).mono ?_
    · rintro b b' vals A B ⟨hi, hl, hk⟩ hb hs
      have hlB : B.heap[w.heap.size + 1]? = some (.loop (rec .ready none)) := (hb.block _ (heap_lt hl)).trans hl
      have hkB : B.heap[w.heap.size]? = some (.deferred (some [])) := (hb.block _ (heap_lt hk)).trans hk
      have hy := run_yield (P := P) (args := vals) hlB (by rw [hrec]; exact hsz _ _ _ _ _ hs)
      rw [hrec] at hy
      have hlt := heap_lt hlB
      refine ⟨fn, _, assign, body, hy, roundIn_of_wpIn trivial ?_⟩
      refine wpIn_mono (hbody (w.heap.size + 1) b b' vals A B (.loop { rec .ready none with state := .busy }) hi hb hs (by omega) ⟨_, hlB, rfl⟩) ?_
      rintro e a₁ w₁ hp
      cases e with
      | normal =>
        obtain ⟨rfl, hp⟩ := hp
        refine ⟨_, run_beginRound hlB (by rw [hrec]), ?_⟩
        have hl2 : (w₁.putObj (w.heap.size + 1) (.loop { rec .ready none with state := .busy })).heap[w.heap.size + 1]? = some (.loop { rec .ready none with state := .busy }) := World.putObj_heap_same hlt
        have hk2 : (w₁.putObj (w.heap.size + 1) (.loop { rec .ready none with state := .busy })).heap[w.heap.size]? = some (.deferred (some [])) := (World.putObj_heap_other (by omega)).trans hkB
        refine wpIn_mono hp ?_
        rintro e a3 W3 hq
        cases e with
        | normal =>
          obtain ⟨hi3, hk3, hkeep⟩ := hq
          have hl3 := hkeep _ _ (by omega) hl2 rfl
          have hk4 := hkeep _ _ (Nat.le_refl _) hk2 rfl
          refine ⟨.bool true, W3.putObj (w.heap.size + 1) (.loop (rec .ready none)), ?_, rfl, ⟨hIput _ _ _ _ (by omega) ⟨_, hl3, rfl⟩ hi3, World.putObj_heap_same (heap_lt hl3), (World.putObj_heap_other (by omega)).trans hk4⟩, hKt (hKt (hKput _ _ _ (by omega)) hk3) (hKput _ _ _ (by omega))⟩
          have := run_endRound (P := P) none hl3
          rw [hrec] at this ⊢
          exact this
        | ret => exact hq.elim
        | exit id => exact hq.elim
        | goto t => exact hq.elim
        | panic c => exact hq.elim
        | outgrown => exact hq.elim
      | ret => exact hp.elim
      | exit id => exact hp.elim
      | goto t => exact hp.elim
      | panic c => exact hp.elim
      | outgrown => exact hp.elim
    · rintro e W2 ⟨⟨v, rfl⟩, hi, hl, hk⟩
      exact ⟨none, _, by have := run_endLoop (P := P) hl (by rw [hrec]; simp); rw [hrec] at this; exact this, hdone _ _ (Nat.le_refl _) (hIput _ _ _ _ (by omega) ⟨_, hl, rfl⟩ hi) ((World.putObj_heap_other (by omega)).trans hk)⟩

theorem iBB : (Tryz.prog.info? 30).map (fun i => (i.zero, i.size, i.bytes)) = some (some (.slice none 0 0), 1, 24) := by kernel_rfl

def SplitStep (N : Nat) (pre pre' : List (Bytes × Nat)) (vals : Array Value) (W0 W1 : World) : Prop :=
  ∃ (x : Bytes) (e : Nat) (u : Value), pre' = pre ++ [(x, e)] ∧ vals = #[.int .i64 (e : Nat), u] ∧ SlB (fun k => k < W0.heap.size) W1 u x ∧ pre.length < N
def SplitK (B : Nat) (W W' : World) : Prop := Below B W W' ∧ W'.heap[B + 2]? = W.heap[B + 2]?

set_option maxHeartbeats 1000000 in
set_option maxRecDepth 100000 in
theorem split_any (v : Value) (bs : Bytes) (w : World) (hv : SlB (fun _ => False) w v bs) (hlen : bs.length ≤ 35184372088832) :
    Calls Tryz.prog 70 #[v] w fun e w' => ∃ v', e = .returned (.tuple #[v', .int .i64 ((splitB bs).2 : Nat)]) ∧ SlBB (fun k => k < w.heap.size) w' v' (splitB bs).1 ∧ Below w.heap.size w w' := by
  obtain ⟨a, cap, rfl, hn, hcap⟩ := hv.shape
  refine (callsIn_wide (n := 4)).1 ?_
  have hf1 : Fence.wide.fn 134 := trivial
  have hc1 : ∀ w, CallsIn Fence.wide 3 Tryz.prog 134 #[.slice a bs.length cap] w fun e w' => e = .returned (.func (.func 164) #[] #[.pointer (some ⟨w.heap.size, 0, none⟩)]) ∧ w.alloc (.cells #[.slice a bs.length cap] 30) = w' := fun w => callsIn_wide.2 (all_any a bs.length cap w)
  refine callsIn_of_wp_marks Tryz.func70 rfl trivial ?_ rfl
  simp only [Tryz.ntmps70, List.size_toArray, List.length_cons, List.length_nil, Nat.reduceAdd, Nat.reduceSub, Array.replicate_succ, Array.replicate_zero, List.push_toArray, List.append_toArray, List.nil_append, List.cons_append]
  gi_wp2_with (first | (gi_at_call 134; refine (hc1 _).mono ?_; rintro e w1 ⟨rfl, rfl⟩))
  have hst := splitJ_start w a bs.length cap
  have hX := heap_alloc_new ((w.alloc (.cells #[.slice none 0 0] 23)).alloc (.cells #[.int .i64 0] 3)) (.cells #[.slice a bs.length cap] 30)
  have hsz : (((w.alloc (.cells #[.slice none 0 0] 23)).alloc (.cells #[.int .i64 0] 3)).alloc (.cells #[.slice a bs.length cap] 30)).heap.size = w.heap.size + 3 := by simp
  rw [show ((w.alloc (.cells #[.slice none 0 0] 23)).alloc (.cells #[.int .i64 0] 3)).heap.size = w.heap.size + 2 by simp] at hX
  generalize ((w.alloc (.cells #[.slice none 0 0] 23)).alloc (.cells #[.int .i64 0] 3)).alloc (.cells #[.slice a bs.length cap] 30) = W0 at hst hX hsz ⊢
  have hbW : Below w.heap.size w W0 := by obtain ⟨_, _, _, _, _, _, _, h, _⟩ := hst; exact h
  refine wpIn_range_x (by decide) (gf := 164) (lb := #[.pointer (some ⟨w.heap.size + 2, 0, none⟩)]) rfl (enters_of Tryz.func164 (by kernel_rfl) rfl) ([] : List (Bytes × Nat)) (endsB 0 bs) (SplitStep (endsB 0 bs).length) (SplitK w.heap.size) (SplitJ w.heap.size w) ?hit ?hsz (fun b A B => SplitJ.below) (fun b W k o hk h hi => SplitJ.put hi (by omega) h) ?hKt ?hKput hst ?body ?done
  case hsz =>
    rintro b b' vals A B ⟨x, e, u, _, rfl, _⟩
    rfl
  case hKt => exact fun h k => ⟨h.1.trans k.1, k.2.trans h.2⟩
  case hKput => exact fun W k o hk => ⟨⟨rfl, rfl, rfl, by simp, fun i hi => World.putObj_heap_other (by omega)⟩, World.putObj_heap_other (by omega)⟩
  case hit =>
    intro l J W1 hb1 hJs hY hJ0
    have hX1 := (hb1.block _ (heap_lt hX)).trans hX
    have hb2 := hbW.trans (hb1.mono (by omega))
    refine all1_in 3 l (w.heap.size + 2) w.heap.size (by decide) (.slice a bs.length cap) bs J (by omega) hJs (fun pre x e u A B hj hb hs hpl => ?_) W1 (cell_of_one hX1) ((hv.mono (M' := fun k => ¬ k < w.heap.size) (fun k hk hn => hn hk)).below hb2) hb2.size hJ0
    obtain ⟨fn, tmps, ac, bd, h1, h2⟩ := hY pre (pre ++ [(x, e)]) #[.int .i64 (e : Nat), u] A B hj hb ⟨x, e, u, rfl, rfl, hs, hpl⟩
    refine ⟨fn, tmps, ac, bd, h1, h2.mono ?_⟩
    rintro e' W' ⟨he, hj', hk⟩
    exact ⟨he, hj', hk.1, World.cell?_of_block hk.2⟩
  case body =>
    rintro l pre pre' vals A B o hi hb ⟨x, e, u, rfl, rfl, hs, hpl⟩ hl hlo
    have hiW := SplitJ.put (hi.below hb) (k := l) (o := o) (by omega) hlo
    obtain ⟨v0, vs0, p1, _, _, p4, _, _, p9⟩ := hi
    have q1 := (hb.block _ (heap_lt p1)).trans p1
    have hvlt : ∀ k, v0.ownBlock = some k → k < A.heap.size := fun k hk => (p4.lt k hk).2
    have hBA := heap_lt p1
    obtain ⟨v, vs, h1, h2, h3, h4, h5, h8, _⟩ := hiW
    obtain rfl : v0 = v := by
      rw [World.putObj_heap_other (by omega)] at h1
      have := q1.symm.trans h1
      simpa using this
    obtain ⟨o', hlo, ho'⟩ := hlo
    have hsW : SlB (fun k => k < w.heap.size + 3 ∨ some k = v0.ownBlock) (B.putObj l o) u x := slB_putObj (hs.mono (fun k _ hk => by
      rcases hk with hk | hk
      · omega
      · exact hvlt k hk.symm)) hlo ho'
    have hkeep : ∀ k o', w.heap.size ≤ k → (B.putObj l o).heap[k]? = some o' → o'.isCells = false → (B.putObj l o).heap[k]? = some o' := fun k o' _ h _ => h
    have hWs : w.heap.size + 3 ≤ (B.putObj l o).heap.size := by rw [World.putObj_size]; have := heap_lt hlo; omega
    generalize B.putObj l o = W at h1 h2 h4 h5 h8 hsW hkeep hWs ⊢
    obtain ⟨au, cu, rfl, _, _⟩ := hsW.shape
    have hcnt := endsB_count bs 0
    have hpl2 : pre.length + 1 ≤ 4398046511105 := by omega
    have c1 := cell_of_one h1
    have f1 := free_of_one h1
    have c2 := cell_of_one h2
    have f2 := free_of_one h2
    have hszl : w.heap.size + 3 ≤ W0.heap.size := by omega
    clear hcnt hs hb q1 p1 p4 p9 hvlt hbW hst hsz hX hv
    gi_wp2
    refine ⟨trivial, ?_⟩
    gi_wp2_with (gi_at_builtin; refine wpListIn_app_at tyBB rfl (s := .tmp 12) (x := .tmp 14) rfl (v := v0) rfl rfl (h4.alloc _) (Row.lit1 W (.slice au x.length cu) 30) rfl ?c2 ?c3 ?c4 ?c5 ?_)
    case c2 => intro u hu; simp at hu; subst hu; rfl
    case c3 => unfold maxLen; omega
    case c4 => omega
    case c5 => simp; omega
    intro v' w1 ho1 hg1 hat1
    obtain ⟨g', cap', rfl⟩ := owns_succ ho1
    have hne : ∀ k, k < w.heap.size + 3 → some k ≠ v0.ownBlock := fun k hk e => by have := (h4.lt k e.symm).1; omega
    have r1 := (hg1.block w.heap.size (by simp; omega) (hne _ (by omega))).trans ((Below.heap_alloc W _ _ (by omega)).trans h1)
    have r2 := (hg1.block (w.heap.size + 1) (by simp; omega) (hne _ (by omega))).trans ((Below.heap_alloc W _ _ (by omega)).trans h2)
    have d1 := cell_of_one r1
    have g1 := free_of_one r1
    have d2 := cell_of_one r2
    have g2 := free_of_one r2
    gi_wp2
    have hsz1 : W.heap.size ≤ w1.heap.size := by have := hg1.size; simp at this; omega
    have hF : Fr (fun k => k = w.heap.size ∨ k = w.heap.size + 1 ∨ some k = v0.ownBlock) W ((w1.setCell ⟨w.heap.size, 0, none⟩ (.slice (some ⟨g', 0, none⟩) (pre.length + 1) cap')).setCell ⟨w.heap.size + 1, 0, none⟩ (.int .i64 (e : Nat))) := by
      refine ⟨hg1.os, hg1.tape, hg1.output, by simpa [World.setCell] using hsz1, fun k hk hn => ?_⟩
      rw [heap_setCell_other _ _ _ _ (fun h => hn (.inr (.inl h))), heap_setCell_other _ _ _ _ (fun h => hn (.inl h)), hg1.block k (by simp; omega) (fun h => hn (.inr (.inr h)))]
      exact Below.heap_alloc W _ _ hk
    have hgat : some g' = v0.ownBlock ∨ W.heap.size < g' := by
      rcases hat1 with h | h
      · exact .inl h
      · simp [Value.ownBlock] at h; right; omega
    have hnew : ∀ k, k < W.heap.size → (k < w.heap.size + 3 ∨ some k = some g') → k < w.heap.size + 3 ∨ some k = v0.ownBlock := fun k hk h => by
      rcases h with h | h
      · exact .inl h
      · rcases hgat with h' | h'
        · exact .inr (h.trans h')
        · cases h; omega
    have hFM : ∀ k, (k = w.heap.size ∨ k = w.heap.size + 1 ∨ some k = v0.ownBlock) → k < w.heap.size + 3 ∨ some k = v0.ownBlock := fun k h => by
      rcases h with h | h | h
      · left; omega
      · left; omega
      · exact .inr h
    refine ⟨⟨.slice (some ⟨g', 0, none⟩) (pre.length + 1) cap', vs ++ [.slice au x.length cu], ?_, ?_, by simp [h3], ?_, ?_, ?_, ?_⟩, ⟨?_, ?_⟩, ?_⟩
    · rw [heap_setCell_other _ _ _ _ (by simp)]; exact one_setCell r1
    · rw [lastEnd_snoc]
      exact one_setCell ((heap_setCell_other _ _ _ _ (by simp)).trans r2)
    · rw [List.length_append]
      exact ownsRow_setCell_below (ownsRow_setCell_below ho1 (by simp) _) (by simp) _
    · intro i u p hu hp
      by_cases hilt : i < vs.length
      · rw [List.getElem?_append_left hilt] at hu
        rw [List.getElem?_append_left (by omega)] at hp
        exact (h5 i u p hu hp).fr hF hFM hnew
      · rw [List.getElem?_append_right (by omega)] at hu
        rw [List.getElem?_append_right (by omega)] at hp
        match hi' : i - vs.length, hu with
        | 0, hu =>
          rw [show i - pre.length = 0 by omega] at hp
          simp at hu hp
          subst hu hp
          exact hsW.fr hF hFM hnew
        | i + 1, hu => simp at hu
    · exact h8.trans (hF.below (by omega) (fun k hk h => by
        rcases h with h | h | h
        · omega
        · omega
        · have := (h4.lt k h.symm).1; omega))
    · have := hF.size; omega
    · exact hF.below (by omega) (fun k hk h => by
        rcases h with h | h | h
        · omega
        · omega
        · have := (h4.lt k h.symm).1; omega)
    · exact hF.block _ (by omega) (fun h => by
        rcases h with h | h | h
        · omega
        · omega
        · have := (h4.lt _ h.symm).1; omega)
    · intro k o'' hk hko hoc
      rw [hF.block k (heap_lt hko) (fun h => ?_)]
      · exact hko
      · rcases h with h | h | h
        · omega
        · omega
        · rcases h4.2 with ⟨h', _⟩ | ⟨g, c, cur, h', _, hgg, _⟩
          · rw [h'] at h; simp [Value.ownBlock] at h
          · rw [h'] at h; simp [Value.ownBlock] at h
            subst h
            rw [hgg] at hko
            cases hko
            simp [Obj.isCells] at hoc
  case done =>
    intro D W hD hi hK
    obtain ⟨v, vs, h1, h2, h3, h4, h5, h8, h9⟩ := hi
    have c1 := cell_of_one h1
    have c2 := cell_of_one h2
    have hfst := endsB_fst bs.length bs 0 (Nat.le_refl _)
    have hlast := endsB_last bs.length bs 0 (Nat.le_refl _)
    rw [Nat.zero_add] at hlast
    have HL : Hid (lastEnd 0 (endsB 0 bs) = (splitB bs).2) := hlast
    have hres : SlBB (fun k => k < w.heap.size) W v (splitB bs).1 := by
      rw [← hfst]
      refine ⟨vs, by rw [List.length_map]; exact h3, ?_, fun i u p hu hp => ?_⟩
      · rw [List.length_map]
        exact (Row.of_owns h4).mono (fun k _ hk => by omega)
      · rw [List.getElem?_map] at hp
        obtain ⟨q, hq, rfl⟩ := Option.map_eq_some_iff.1 hp
        exact (h5 i u q hu hq).mono (fun k _ hk => .inl (by omega))
    generalize lastEnd 0 (endsB 0 bs) = N at c2 HL
    clear h1 h2 h4 h5 hfst hlast hv hst hX
    gi_wp2
    gi_region
    gi_wp2
    have hrd : SlBB (fun k => k < w.heap.size) W.drew v (splitB bs).1 := hres.below ⟨rfl, rfl, rfl, Nat.le_refl _, fun _ _ => rfl⟩
    refine ⟨by simp, .inl ⟨_, _, rfl, run_takeDeferred hK, ?_⟩⟩
    refine ⟨_, results_tmp2 rfl _ _ _, v, ?_, slBB_putObj hrd (o' := .deferred (some [])) hK rfl, h8.trans ⟨rfl, rfl, rfl, by simp, fun k hk => World.putObj_heap_other (by omega)⟩⟩
    show Ending.returned (.tuple #[v, .int .i64 (N : Nat)]) = _
    rw [HL.out]

end Go.Proofs.YtepceidajmedeaaGreatDoor
