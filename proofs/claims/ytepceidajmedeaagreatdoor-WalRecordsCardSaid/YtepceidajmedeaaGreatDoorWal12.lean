/- Lemmas for a law of this seat, part 12: contracts of the functions that it reaches, and the plain law. No condition but those of each lemma. -/
import Derived.Test.YtepceidajmedeaaGreatDoorWal8
import Derived.Deep.RegionHeld3

namespace CW
open Go Go.RowKit

theorem wpH_app {P : Program} {t e : TypeId} {size bytes : Nat} {z : Value} (T : SlTy P t e size bytes z) {w : World} {o : Oper} {a : Act} {K : Act → World → Prop} {Q : Exit → Act → World → Prop} {b : Bool} (hb : b = true) {E : Prop} {s x : Operand}
    (ho : o.op = .call { callee := .builtin .append, args := #[s, x], argTypes := #[t, t] }) {v vx : Value} (hs : a.eval s = v) (hx : a.eval x = vx)
    {base n : Nat} {xs : List Value} (hown : w.ownsRow base e size v n xs)
    {M : Nat → Prop} {m : Nat} {news : List Value} (hrow : Row M w vx m news) (hl : news.length = m * size) (h1 : ∀ u ∈ news, u.oneCell' = true)
    (h63 : n + m ≤ maxLen) (hbytes : (n + m) * bytes ≤ 140737488355328) (hbase : base ≤ w.heap.size)
    (h : ∀ v' w', w'.ownsRow base e size v' (n + m) (xs ++ news) → w.grownBy w' v.ownBlock → K (a.put o.dst v') w') : if b = true then Oper.wp P o a w K Q else E := by
  rw [if_pos hb]
  obtain ⟨v', w', hr, h2, h3⟩ := run_app T w o.type base v n xs hown hrow hl h1 h63 hbytes hbase
  unfold Oper.wp execOp
  simp only [ho, resolve, invoke, builtin, Sem.run_bind, Sem.run_pure, Result.andThen_ok, List.map_toArray, List.map_cons, List.map_nil, hs, hx, hr]
  exact h v' w' h2 h3

theorem wpH_appB {P : Program} {t e : TypeId} {size bytes : Nat} {z : Value} (T : SlTy P t e size bytes z) {w : World} {o : Oper} {a : Act} {K : Act → World → Prop} {Q : Exit → Act → World → Prop} {b : Bool} (hb : b = true) {E : Prop} {s x : Operand}
    (ho : o.op = .call { callee := .builtin .append, args := #[s, x], argTypes := #[t, t] }) {v vx : Value} (hs : a.eval s = v) (hx : a.eval x = vx)
    {base n : Nat} {xs : List Value} (hown : w.ownsRow base e size v n xs)
    {M : Nat → Prop} {m : Nat} {news : List Value} (hrow : Row M w vx m news) (hl : news.length = m * size) (h1 : ∀ u ∈ news, u.oneCell' = true)
    (h63 : n + m ≤ maxLen) (hbytes : (n + m) * bytes ≤ 140737488355328) (hbase : base ≤ w.heap.size)
    (h : ∀ v' w', w'.ownsRow base e size v' (n + m) (xs ++ news) → w.grownBy w' v.ownBlock → Below base w w' → K (a.put o.dst v') w') : if b = true then Oper.wp P o a w K Q else E :=
  wpH_app T hb ho hs hx hown hrow hl h1 h63 hbytes hbase fun v' w' h2 h3 => h v' w' h2 h3 (below_grown hown h3 hbase)

theorem Row.drew {M : Nat → Prop} {w : World} {v : Value} {n : Nat} {cs : List Value} (h : Row M w v n cs) : Row M w.drew v n cs := h.below ⟨rfl, rfl, rfl, Nat.le_refl _, fun _ _ => rfl⟩
/-- A literal's row, behind an append elsewhere. -/
theorem Row.grown {M : Nat → Prop} {w w' : World} {b : Option Nat} {g n cap : Nat} {cs : List Value} (h : Row M w (.slice (some ⟨g, 0, none⟩) n cap) n cs) (hg : w.grownBy w' b) (hne : some g ≠ b) : Row M w' (.slice (some ⟨g, 0, none⟩) n cap) n cs := by
  rcases h with ⟨⟨a0, h⟩, h0, h1⟩ | ⟨b', off, cap', h, hn, hc, hb, hm, hcell⟩
  · cases h
    exact .inl ⟨⟨_, rfl⟩, h0, h1⟩
  · cases h
    refine .inr ⟨g, 0, cap, rfl, hn, hc, Nat.lt_of_lt_of_le hb hg.size, hm, fun j u hu => ?_⟩
    rw [World.cell?_of_block (w := w) (a := ⟨g, 0 + j, none⟩) (hg.block g hb hne)]
    exact hcell j u hu

theorem SlTy.size_run {P : Program} {t e : TypeId} {size bytes : Nat} {z : Value} (T : SlTy P t e size bytes z) (W : World) : (Go.sizeOf e).run P W = .ok size W := by
  obtain ⟨i, hi, _, hs, _⟩ := T.info
  simp [Go.sizeOf, typeInfo, hi, hs]

theorem Row.cap_le {M : Nat → Prop} {w : World} {a : Option Addr} {n cap : Nat} {cs : List Value} (h : Row M w (.slice a n cap) n cs) : n ≤ cap ∧ (a = none → n = 0 ∧ cap = 0) := by
  rcases h with ⟨⟨a0, h⟩, h0, h1⟩ | ⟨b, off, cap', h, hn, hc, hb, hm, hcell⟩
  · cases h; exact ⟨Nat.le_refl _, fun _ => ⟨rfl, rfl⟩⟩
  · cases h; exact ⟨hn, fun h => by cases h⟩

/-- 's[:k]'. -/
theorem run_upto {P : Program} {t e : TypeId} {size bytes : Nat} {z : Value} (T : SlTy P t e size bytes z) {M : Nat → Prop} {w : World} {a : Option Addr} {n cap : Nat} {cs : List Value} (h : Row M w (.slice a n cap) n cs) (k : Nat) (hk : k ≤ n) (hcl : cs.length = n * size) :
    (∀ W, (Instr.sliceAt t (.slice a n cap) none (some (.int .i64 (k : Int))) none).run P W = .ok (.slice a k cap) W) ∧ Row M w (.slice a k cap) k (cs.take (k * size)) := by
  rcases h with ⟨⟨a0, h⟩, h0, h1⟩ | ⟨b, off, cap', h, hn, hc, hb, hm, hcell⟩
  · cases h
    obtain rfl : k = 0 := by omega
    refine ⟨fun W => ?_, .inl ⟨⟨_, rfl⟩, rfl, by simp [h1]⟩⟩
    cases a <;> simp [Instr.sliceAt, Instr.slice, Instr.sliceBounds, run_underlying T.ht, T.size_run, asIntOf, Instr.sliceBound]
  · cases h
    refine ⟨fun W => ?_, .inr ⟨b, off, cap, rfl, by omega, hc, hb, hm, fun j u hu => hcell j u ?_⟩⟩
    · have g2 : k ≤ cap := by omega
      simp [Instr.sliceAt, Instr.slice, Instr.sliceBounds, run_underlying T.ht, T.size_run, asIntOf, Instr.sliceBound, g2]
      exact fun _ => Addr.add_lit ..
    · rw [List.getElem?_take] at hu
      split at hu
      · exact hu
      · cases hu

/-- 's[k:]'. -/
theorem run_after {P : Program} {t e : TypeId} {size bytes : Nat} {z : Value} (T : SlTy P t e size bytes z) {M : Nat → Prop} {w : World} {a : Option Addr} {n cap : Nat} {cs : List Value} (h : Row M w (.slice a n cap) n cs) (k : Nat) (hk : k ≤ n) (hcl : cs.length = n * size) :
    ∃ a' c', (∀ W, (Instr.sliceAt t (.slice a n cap) (some (.int .i64 (k : Int))) none none).run P W = .ok (.slice a' (n - k) c') W) ∧ Row M w (.slice a' (n - k) c') (n - k) (cs.drop (k * size)) := by
  rcases h with ⟨⟨a0, h⟩, h0, h1⟩ | ⟨b, off, cap', h, hn, hc, hb, hm, hcell⟩
  · cases h
    obtain rfl : k = 0 := by omega
    refine ⟨a, 0, fun W => ?_, .inl ⟨⟨_, rfl⟩, by simp, by simp [h1]⟩⟩
    cases a <;> simp [Instr.sliceAt, Instr.slice, Instr.sliceBounds, run_underlying T.ht, T.size_run, asIntOf, Instr.sliceBound]
  · cases h
    by_cases hck : cap = k
    · refine ⟨some ⟨b, off, none⟩, cap - k, fun W => ?_, ?_⟩
      · simp [Instr.sliceAt, Instr.slice, Instr.sliceBounds, run_underlying T.ht, T.size_run, asIntOf, Instr.sliceBound, hck]
        omega
      · obtain rfl : n = k := by omega
        refine .inr ⟨b, off, cap - n, rfl, by simp, by omega, hb, hm, fun j u hu => ?_⟩
        rw [List.drop_eq_nil_of_le (by omega)] at hu
        simp at hu
    · refine ⟨some ⟨b, off + k * size, none⟩, cap - k, fun W => ?_, ?_⟩
      · simp [Instr.sliceAt, Instr.slice, Instr.sliceBounds, run_underlying T.ht, T.size_run, asIntOf, Instr.sliceBound, hck, Addr.add_lit]
        omega
      · refine .inr ⟨b, off + k * size, cap - k, rfl, by omega, by omega, hb, hm, fun j u hu => ?_⟩
        rw [List.getElem?_drop] at hu
        rw [Nat.add_assoc]
        exact hcell _ u hu

end CW

namespace CW
open Go Go.RowKit

/-- The cells of a block, with some of them written. -/
def patch (cur : List Value) (o : Nat) (vs : List Value) : Array Value := (cur.take o ++ vs ++ cur.drop (o + vs.length)).toArray

theorem run_storeVar_at {P : Program} (w : World) (g o : Nat) (ty t : TypeId) (val : Value) (cur : Array Value) (hg : w.heap[g]? = some (.cells cur t (0, 0))) (hs : o + val.cells.size ≤ cur.size) (hi : (P.info? ty).map (·.size) = some val.cells.size) (h1 : ∀ v ∈ val.cells.toList, v.oneCell' = true) :
    (storeVar ty ⟨g, o, none⟩ val).run P w = .ok () (w.setRow g (patch cur.toList o val.cells.toList)) := by
  have h := run_storeCells_at P g o t val.cells.toList 0 cur w hg (by simpa using hs) h1
  simp only [Nat.add_zero] at h
  cases hq : P.info? ty with
  | none => simp [hq] at hi
  | some i =>
    have hs : val.cells.size = i.size := by simp [hq] at hi; omega
    simp [storeVar, Go.sizeOf, typeInfo, hq, hs, h, patch]

theorem fr_setRow (w : World) (g : Nat) (cs : Array Value) : Fr (fun k => k = g) w (w.setRow g cs) := ⟨rfl, rfl, rfl, by simp, fun k _ hk => setRow_other _ _ _ _ hk⟩

theorem wpList_store_in {P : Program} {ops : Array Oper} {rest : List Oper} {op : Oper} {a : Act} {w : World} {Q : Exit → Act → World → Prop} (hgd : op.guard = none) {ty : TypeId} {x y : Operand} (ho : op.op = .store ty x y)
    (g o : Nat) (t : TypeId) (val : Value) (cur : List Value) (hx : a.eval x = .pointer (some ⟨g, o, none⟩)) (hy : a.eval y = val)
    (hg : w.heap[g]? = some (.cells cur.toArray t (0, 0))) (hs : o + val.cells.size ≤ cur.length) (hi : (P.info? ty).map (·.size) = some val.cells.size) (h1 : ∀ v ∈ val.cells.toList, v.oneCell' = true)
    (h : ∀ W, W.heap[g]? = some (.cells (patch cur o val.cells.toList) t (0, 0)) → Fr (fun k => k = g) w W → W.heap.size = w.heap.size → wpList P ops Q rest (a.put op.dst undef) W) : wpList P ops Q (op :: rest) a w :=
  wpList_plain hgd fun K hK => by
    unfold Oper.wp execOp
    simp only [ho, hx, hy, Instr.storeAt, Instr.sureAddr, Sem.run_bind, Sem.run_pure, Result.andThen_ok, run_storeVar_at w g o ty t val cur.toArray hg (by simpa using hs) hi h1]
    exact hK _ _ (h _ (setRow_heap _ _ _ _ _ _ hg) (fr_setRow w g _) (by simp))

theorem wpList_store4 {P : Program} {ops : Array Oper} {rest : List Oper} {op : Oper} {a : Act} {w : World} {Q : Exit → Act → World → Prop} (hgd : op.guard = none) {ty : TypeId} {x y : Operand} (ho : op.op = .store ty x y)
    (g : Nat) (t : TypeId) (c0 c1 c2 c3 v0 v1 v2 v3 : Value) (hx : a.eval x = .pointer (some ⟨g, 0, none⟩)) (hy : a.eval y = .agg #[v0, v1, v2, v3])
    (hg : w.heap[g]? = some (.cells #[c0, c1, c2, c3] t (0, 0))) (hi : (P.info? ty).map (·.size) = some 4) (h0 : v0.oneCell' = true) (h1 : v1.oneCell' = true) (h2 : v2.oneCell' = true) (h3 : v3.oneCell' = true)
    (h : ∀ W, W.heap[g]? = some (.cells #[v0, v1, v2, v3] t (0, 0)) → Fr (fun k => k = g) w W → W.heap.size = w.heap.size → wpList P ops Q rest (a.put op.dst undef) W) : wpList P ops Q (op :: rest) a w :=
  wpList_store_in hgd ho g 0 t (.agg #[v0, v1, v2, v3]) [c0, c1, c2, c3] hx hy hg (Nat.le_refl _) hi (fun u hu => by
    simp only [Value.cells, List.mem_cons, List.not_mem_nil, or_false] at hu
    rcases hu with rfl | rfl | rfl | rfl <;> assumption) h

theorem wpList_store3 {P : Program} {ops : Array Oper} {rest : List Oper} {op : Oper} {a : Act} {w : World} {Q : Exit → Act → World → Prop} (hgd : op.guard = none) {ty : TypeId} {x y : Operand} (ho : op.op = .store ty x y)
    (g : Nat) (t : TypeId) (c0 c1 c2 v0 v1 v2 : Value) (hx : a.eval x = .pointer (some ⟨g, 0, none⟩)) (hy : a.eval y = .agg #[v0, v1, v2])
    (hg : w.heap[g]? = some (.cells #[c0, c1, c2] t (0, 0))) (hi : (P.info? ty).map (·.size) = some 3) (h0 : v0.oneCell' = true) (h1 : v1.oneCell' = true) (h2 : v2.oneCell' = true)
    (h : ∀ W, W.heap[g]? = some (.cells #[v0, v1, v2] t (0, 0)) → Fr (fun k => k = g) w W → W.heap.size = w.heap.size → wpList P ops Q rest (a.put op.dst undef) W) : wpList P ops Q (op :: rest) a w :=
  wpList_store_in hgd ho g 0 t (.agg #[v0, v1, v2]) [c0, c1, c2] hx hy hg (Nat.le_refl _) hi (fun u hu => by
    simp only [Value.cells, List.mem_cons, List.not_mem_nil, or_false] at hu
    rcases hu with rfl | rfl | rfl <;> assumption) h

/-- A store of one cell. -/
theorem wpList_store_fld {P : Program} {ops : Array Oper} {rest : List Oper} {op : Oper} {a : Act} {w : World} {Q : Exit → Act → World → Prop} (hgd : op.guard = none) {ty : TypeId} {x y : Operand} (ho : op.op = .store ty x y)
    (g o : Nat) (t : TypeId) (u : Value) (cur : List Value) (hx : a.eval x = .pointer (some ⟨g, o, none⟩)) (hy : a.eval y = u)
    (hg : w.heap[g]? = some (.cells cur.toArray t (0, 0))) (hs : o < cur.length) (hi : (P.info? ty).map (·.size) = some 1) (hu : u.cells = #[u]) (h1 : u.oneCell' = true)
    (h : ∀ W, W.heap[g]? = some (.cells (cur.set o u).toArray t (0, 0)) → Fr (fun k => k = g) w W → W.heap.size = w.heap.size → wpList P ops Q rest (a.put op.dst undef) W) : wpList P ops Q (op :: rest) a w :=
  wpList_store_in hgd ho g o t u cur hx hy hg (by rw [hu]; exact hs) (by rw [hu]; exact hi) (fun x hx => by rw [hu] at hx; simp at hx; subst hx; exact h1) (fun W hW => h W (by
    rw [hW, hu]
    have e : patch cur o #[u].toList = (cur.set o u).toArray := by
      unfold patch
      rw [List.set_eq_take_append_cons_drop, if_pos hs]
      simp
    rw [e]))

/-- .. inside a region that draws its order. -/
theorem wpH_store_fld {P : Program} {op : Oper} {a : Act} {w : World} {K : Act → World → Prop} {Q : Exit → Act → World → Prop} {b : Bool} (hb : b = true) {E : Prop} {ty : TypeId} {x y : Operand} (ho : op.op = .store ty x y)
    (g o : Nat) (t : TypeId) (u : Value) (cur : List Value) (hx : a.eval x = .pointer (some ⟨g, o, none⟩)) (hy : a.eval y = u)
    (hg : w.heap[g]? = some (.cells cur.toArray t (0, 0))) (hs : o < cur.length) (hi : (P.info? ty).map (·.size) = some 1) (hu : u.cells = #[u]) (h1 : u.oneCell' = true)
    (h : ∀ W, W.heap[g]? = some (.cells (cur.set o u).toArray t (0, 0)) → Fr (fun k => k = g) w W → W.heap.size = w.heap.size → K (a.put op.dst undef) W) : if b = true then Oper.wp P op a w K Q else E := by
  rw [if_pos hb]
  unfold Oper.wp execOp
  have hr := run_storeVar_at (P := P) w g o ty t u cur.toArray hg (by rw [hu]; exact hs) (by rw [hu]; exact hi) (fun x hx => by rw [hu] at hx; simp at hx; subst hx; exact h1)
  simp only [ho, hx, hy, Instr.storeAt, Instr.sureAddr, Sem.run_bind, Sem.run_pure, Result.andThen_ok, hr]
  refine h _ ?_ (fr_setRow w g _) (by simp)
  rw [setRow_heap _ _ _ _ _ _ hg, hu]
  have e : patch cur.toArray.toList o #[u].toList = (cur.set o u).toArray := by
    unfold patch
    rw [List.set_eq_take_append_cons_drop, if_pos hs]
    simp
  rw [e]

/-- For 'with_reducible refine at_sto ?_': goes through where the next operation is a store, and nowhere else. -/
theorem at_sto {P : Program} {ops : Array Oper} {rest : List Oper} {a : Act} {w : World} {Q : Exit → Act → World → Prop} {d : Option Tmp} {ty t : TypeId} {x y : Operand} {p : String} {af : Array Edge} {gd : Option (Nat × Bool)}
    (h : wpList P ops Q ({ dst := d, op := .store ty x y, type := t, pos := p, after := af, guard := gd } :: rest) a w) : wpList P ops Q ({ dst := d, op := .store ty x y, type := t, pos := p, after := af, guard := gd } :: rest) a w := h

theorem fr_setCell (w : World) (g o : Nat) (u : Value) : Fr (fun k => k = g) w (w.setCell ⟨g, o, none⟩ u) := ⟨rfl, rfl, rfl, by simp [World.setCell], fun k _ hk => heap_setCell_other _ _ _ _ (fun e => hk e)⟩

theorem cells4 {w : World} {g : Nat} {t : TypeId} {fr : Nat × Nat} {a b c d : Value} (h : w.heap[g]? = some (.cells #[a, b, c, d] t fr)) :
    w.cell? ⟨g, 0, none⟩ = some a ∧ w.cell? ⟨g, 1, none⟩ = some b ∧ w.cell? ⟨g, 2, none⟩ = some c ∧ w.cell? ⟨g, 3, none⟩ = some d :=
  ⟨by rw [Go.cell_of_row _ g 0 _ _ _ h]; rfl, by rw [Go.cell_of_row _ g 1 _ _ _ h]; rfl, by rw [Go.cell_of_row _ g 2 _ _ _ h]; rfl, by rw [Go.cell_of_row _ g 3 _ _ _ h]; rfl⟩
theorem cells3 {w : World} {g : Nat} {t : TypeId} {fr : Nat × Nat} {a b c : Value} (h : w.heap[g]? = some (.cells #[a, b, c] t fr)) :
    w.cell? ⟨g, 0, none⟩ = some a ∧ w.cell? ⟨g, 1, none⟩ = some b ∧ w.cell? ⟨g, 2, none⟩ = some c :=
  ⟨by rw [Go.cell_of_row _ g 0 _ _ _ h]; rfl, by rw [Go.cell_of_row _ g 1 _ _ _ h]; rfl, by rw [Go.cell_of_row _ g 2 _ _ _ h]; rfl⟩
theorem cells2 {w : World} {g : Nat} {t : TypeId} {fr : Nat × Nat} {a b : Value} (h : w.heap[g]? = some (.cells #[a, b] t fr)) :
    w.cell? ⟨g, 0, none⟩ = some a ∧ w.cell? ⟨g, 1, none⟩ = some b :=
  ⟨by rw [Go.cell_of_row _ g 0 _ _ _ h]; rfl, by rw [Go.cell_of_row _ g 1 _ _ _ h]; rfl⟩

theorem heap3_0 (w : World) (A B C : Obj) : (((w.alloc A).alloc B).alloc C).heap[w.heap.size]? = some A := by
  rw [heap_alloc_old ((w.alloc A).alloc B) C (by simp; omega)]; exact heap_alloc2_old w A B
theorem heap3_1 (w : World) (A B C : Obj) : (((w.alloc A).alloc B).alloc C).heap[w.heap.size + 1]? = some B := by
  rw [heap_alloc_old ((w.alloc A).alloc B) C (by simp)]; exact heap_alloc2_new w A B
theorem heap3_2 (w : World) (A B C : Obj) : (((w.alloc A).alloc B).alloc C).heap[w.heap.size + 1 + 1]? = some C := by
  have h := heap_alloc_new ((w.alloc A).alloc B) C
  have e : ((w.alloc A).alloc B).heap.size = w.heap.size + 1 + 1 := by show ((w.heap.push A).push B).size = _; simp
  rwa [e] at h
theorem below3 (w : World) (A B C : Obj) : Below w.heap.size w (((w.alloc A).alloc B).alloc C) := (((Below.refl _ _).alloc (Nat.le_refl _) A).alloc (by simp) B).alloc (by simp; omega) C
theorem size3 (w : World) (A B C : Obj) : (((w.alloc A).alloc B).alloc C).heap.size = w.heap.size + 1 + 1 + 1 := by simp

theorem boxF (w : World) (C : Obj) : Below w.heap.size w (w.alloc C) ∧ (w.alloc C).heap.size = w.heap.size + 1 ∧ (w.alloc C).heap[w.heap.size]? = some C :=
  ⟨(Below.refl w.heap.size w).alloc (Nat.le_refl _) C, by simp, by show (w.heap.push C)[w.heap.size]? = _; simp⟩

/-- An append inside a region that draws its order, with the place of the new slice. -/
theorem wpH_app_at {P : Program} {t e : TypeId} {size bytes : Nat} {z : Value} (T : SlTy P t e size bytes z) {w : World} {o : Oper} {a : Act} {K : Act → World → Prop} {Q : Exit → Act → World → Prop} {b : Bool} (hb : b = true) {E : Prop} {s x : Operand}
    (ho : o.op = .call { callee := .builtin .append, args := #[s, x], argTypes := #[t, t] }) {v vx : Value} (hs : a.eval s = v) (hx : a.eval x = vx)
    {base n : Nat} {xs : List Value} (hown : w.ownsRow base e size v n xs)
    {M : Nat → Prop} {m : Nat} {news : List Value} (hrow : Row M w vx m news) (hl : news.length = m * size) (h1 : ∀ u ∈ news, u.oneCell' = true)
    (h63 : n + m ≤ maxLen) (hbytes : (n + m) * bytes ≤ 140737488355328) (hbase : base ≤ w.heap.size)
    (h : ∀ v' w', w'.ownsRow base e size v' (n + m) (xs ++ news) → w.grownBy w' v.ownBlock → (v'.ownBlock = v.ownBlock ∨ v'.ownBlock = some w.heap.size) → K (a.put o.dst v') w') : if b = true then Oper.wp P o a w K Q else E := by
  rw [if_pos hb]
  obtain ⟨v', w', hr, h2, h3, h4⟩ := run_app_at T w o.type base v n xs hown hrow hl h1 h63 hbytes hbase
  unfold Oper.wp execOp
  simp only [ho, resolve, invoke, builtin, Sem.run_bind, Sem.run_pure, Result.andThen_ok, List.map_toArray, List.map_cons, List.map_nil, hs, hx, hr]
  exact h v' w' h2 h3 h4

end CW
