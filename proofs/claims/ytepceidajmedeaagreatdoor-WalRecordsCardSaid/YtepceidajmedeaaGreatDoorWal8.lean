/- Lemmas for a law of this seat, part 8: contracts of the functions that it reaches, and the plain law. No condition but those of each lemma. -/
import Derived.Test.YtepceidajmedeaaGreatDoorWal5
import Derived.Maps.AppendAt
import Derived.OwnWalkIn

namespace CW
open Go Go.RowKit

/-- 'string(b)'. -/
theorem run_str_of {P : Program} {src dst e : TypeId} (hs : P.underlying src = some (.slice e)) (he : P.underlying e = some (.int .u8)) (hd : P.underlying dst = some .string)
    {M : Nat → Prop} {w : World} {v : Value} {bs : Bytes} (h : SlB M w v bs) : (convert src dst v).run P w = .ok (.string ⟨bs.toArray⟩) w := by
  rcases h with ⟨⟨a0, rfl⟩, _, h⟩ | ⟨b, off, cap, rfl, _, _, _, _, hc⟩
  · obtain rfl : bs = [] := by simpa using h
    cases a0 with
    | none => exact run_convert_bytes_nil w src e hs he 0 0 dst hd
    | some a0 => exact run_convert_bytes_back w src dst e a0 0 [] hs he hd (fun j hj => by simp at hj)
  · exact run_convert_bytes_back w src dst e ⟨b, off, none⟩ cap bs hs he hd fun j hj => by
      rw [Addr.add_lit]
      exact hc j (encB bs[j]) (by simp [hj])

/-- 'b[k:]', whatever slice b is. -/
theorem run_from_any {P : Program} {t e : TypeId} (ht : P.underlying t = some (.slice e)) (hsz : (P.info? e).map (·.size) = some 1) {M : Nat → Prop} {w : World} {a : Option Addr} {n cap : Nat} {bs : Bytes} (h : SlB M w (.slice a n cap) bs) (k : Nat) (hk : k ≤ bs.length) :
    ∃ a' c', (∀ W, (Instr.sliceAt t (.slice a n cap) (some (.int .i64 (k : Int))) none none).run P W = .ok (.slice a' (bs.length - k) c') W) ∧ SlB M w (.slice a' (bs.length - k) c') (bs.drop k) := by
  have hsize : ∀ W, (Go.sizeOf e).run P W = .ok 1 W := fun W => by
    cases hq : P.info? e with
    | none => simp [hq] at hsz
    | some i => simp [hq] at hsz; simp [Go.sizeOf, typeInfo, hq, hsz]
  rcases h with ⟨⟨a0, h⟩, h0, h1⟩ | ⟨b, off, cap', h, hn, hc, hb, hm, hcell⟩
  · cases h
    have hbs : bs = [] := by simpa using h1
    subst hbs
    obtain rfl : k = 0 := by simpa using hk
    refine ⟨a, 0, fun W => ?_, .inl ⟨⟨_, rfl⟩, by simp, by simp⟩⟩
    cases a <;> simp [Instr.sliceAt, Instr.slice, Instr.sliceBounds, run_underlying ht, hsize, asIntOf, Instr.sliceBound]
  · cases h
    by_cases hck : cap = k
    · refine ⟨some ⟨b, off, none⟩, cap - k, fun W => ?_, ?_⟩
      · simp [Instr.sliceAt, Instr.slice, Instr.sliceBounds, run_underlying ht, hsize, asIntOf, Instr.sliceBound, hck]
        intro h; omega
      · exact SlB.dropCap (.inr ⟨b, off, cap, rfl, hn, hc, hb, hm, hcell⟩) k hk hck
    · refine ⟨some ⟨b, off + k, none⟩, cap - k, fun W => ?_, ?_⟩
      · simp [Instr.sliceAt, Instr.slice, Instr.sliceBounds, run_underlying ht, hsize, asIntOf, Instr.sliceBound, hck, Addr.add_lit]
        intro h; omega
      · exact SlB.drop (.inr ⟨b, off, cap, rfl, hn, hc, hb, hm, hcell⟩) k hk

/-- A slice type and its element type, as the program's table has them. -/
structure SlTy (P : Program) (t e : TypeId) (size bytes : Nat) (z : Value) : Prop where
  ht : P.underlying t = some (.slice e)
  info : ∃ i, P.info? e = some i ∧ i.zero = some z ∧ i.size = size ∧ i.bytes = bytes
  zs : z.cells.size = size
  pos : 0 < size

theorem SlTy.mk' {P : Program} {t e : TypeId} {size bytes : Nat} {z : Value} (ht : P.underlying t = some (.slice e)) (h : (P.info? e).map (fun i => (i.zero, i.size, i.bytes)) = some (some z, size, bytes)) (zs : z.cells.size = size) (pos : 0 < size) : SlTy P t e size bytes z :=
  ⟨ht, by obtain ⟨i, a, b, c, d⟩ := info_parts h; exact ⟨i, a, b, c, d⟩, zs, pos⟩

theorem cells_add {w : World} {b off : Nat} {cs : List Value} (h : ∀ j u, cs[j]? = some u → w.cell? ⟨b, off + j, none⟩ = some u) : ∀ j u, cs[j]? = some u → w.cell? ((⟨b, off, none⟩ : Addr).add j) = some u := by
  intro j u hu
  rw [Addr.add_lit]
  exact h j u hu

theorem run_app {P : Program} {t e : TypeId} {size bytes : Nat} {z : Value} (T : SlTy P t e size bytes z) (w : World) (ty base : TypeId) (v : Value) (n : Nat) (xs : List Value) (hown : w.ownsRow base e size v n xs)
    {M : Nat → Prop} {vx : Value} {m : Nat} {news : List Value} (hrow : Row M w vx m news) (hl : news.length = m * size) (h1 : ∀ u ∈ news, u.oneCell' = true)
    (h63 : n + m ≤ maxLen) (hbytes : (n + m) * bytes ≤ 140737488355328) (hbase : base ≤ w.heap.size) :
    ∃ v' w', (Builtin.append_ #[t, t] ty #[v, vx]).run P w = .ok v' w' ∧ w'.ownsRow base e size v' (n + m) (xs ++ news) ∧ w.grownBy w' v.ownBlock := by
  obtain ⟨i, hi, hz, hsz, hby⟩ := T.info
  rcases hrow with ⟨⟨a0, rfl⟩, rfl, rfl⟩ | ⟨b, off, cap, rfl, _, _, _, _, hc⟩
  · cases a0 with
    | none => exact ⟨v, w, run_append_owned_none w base t ty e i size T.ht hi v n xs hown, by simpa using hown, World.grownBy.refl _ _⟩
    | some a0 =>
      obtain ⟨v', w', hr, h2, h3, _⟩ := run_append_own w base t ty e i z size bytes T.ht hi hz hsz hby T.zs T.pos v n xs hown a0 0 0 [] hl (by intro j u hu; simp at hu) h1 h63 hbytes hbase
      exact ⟨v', w', hr, h2, h3⟩
  · obtain ⟨v', w', hr, h2, h3, _⟩ := run_append_own w base t ty e i z size bytes T.ht hi hz hsz hby T.zs T.pos v n xs hown ⟨b, off, none⟩ m cap news hl (cells_add hc) h1 h63 hbytes hbase
    exact ⟨v', w', hr, h2, h3⟩

theorem wpList_app {P : Program} {t e : TypeId} {size bytes : Nat} {z : Value} (T : SlTy P t e size bytes z) {w : World} {ops : Array Oper} {rest : List Oper} {o : Oper} {a : Act} {Q : Exit → Act → World → Prop} (hgd : o.guard = none) {s x : Operand}
    (ho : o.op = .call { callee := .builtin .append, args := #[s, x], argTypes := #[t, t] }) {v vx : Value} (hs : a.eval s = v) (hx : a.eval x = vx)
    {base n : Nat} {xs : List Value} (hown : w.ownsRow base e size v n xs)
    {M : Nat → Prop} {m : Nat} {news : List Value} (hrow : Row M w vx m news) (hl : news.length = m * size) (h1 : ∀ u ∈ news, u.oneCell' = true)
    (h63 : n + m ≤ maxLen) (hbytes : (n + m) * bytes ≤ 140737488355328) (hbase : base ≤ w.heap.size)
    (h : ∀ v' w', w'.ownsRow base e size v' (n + m) (xs ++ news) → w.grownBy w' v.ownBlock → wpList P ops Q rest (a.put o.dst v') w') : wpList P ops Q (o :: rest) a w := by
  refine wpList_plain hgd fun K hK => ?_
  obtain ⟨v', w', hr, h2, h3⟩ := run_app T w o.type base v n xs hown hrow hl h1 h63 hbytes hbase
  unfold Oper.wp execOp
  simp only [ho, resolve, invoke, builtin, Sem.run_bind, Sem.run_pure, Result.andThen_ok, List.map_toArray, List.map_cons, List.map_nil, hs, hx, hr]
  exact hK _ _ (h v' w' h2 h3)

/-- The same, with the place of the new slice: in the old one's row, or in the block just made. -/
theorem run_app_at {P : Program} {t e : TypeId} {size bytes : Nat} {z : Value} (T : SlTy P t e size bytes z) (w : World) (ty base : TypeId) (v : Value) (n : Nat) (xs : List Value) (hown : w.ownsRow base e size v n xs)
    {M : Nat → Prop} {vx : Value} {m : Nat} {news : List Value} (hrow : Row M w vx m news) (hl : news.length = m * size) (h1 : ∀ u ∈ news, u.oneCell' = true)
    (h63 : n + m ≤ maxLen) (hbytes : (n + m) * bytes ≤ 140737488355328) (hbase : base ≤ w.heap.size) :
    ∃ v' w', (Builtin.append_ #[t, t] ty #[v, vx]).run P w = .ok v' w' ∧ w'.ownsRow base e size v' (n + m) (xs ++ news) ∧ w.grownBy w' v.ownBlock ∧ (v'.ownBlock = v.ownBlock ∨ v'.ownBlock = some w.heap.size) := by
  obtain ⟨i, hi, hz, hsz, hby⟩ := T.info
  rcases hrow with ⟨⟨a0, rfl⟩, rfl, rfl⟩ | ⟨b, off, cap, rfl, _, _, _, _, hc⟩
  · cases a0 with
    | none => exact ⟨v, w, run_append_owned_none w base t ty e i size T.ht hi v n xs hown, by simpa using hown, World.grownBy.refl _ _, .inl rfl⟩
    | some a0 =>
      obtain ⟨v', w', hr, h2, h3, _, h5⟩ := run_append_own_at w base t ty e i z size bytes T.ht hi hz hsz hby T.zs T.pos v n xs hown a0 0 0 [] hl (by intro j u hu; simp at hu) h1 h63 hbytes hbase
      exact ⟨v', w', hr, h2, h3, h5⟩
  · obtain ⟨v', w', hr, h2, h3, _, h5⟩ := run_append_own_at w base t ty e i z size bytes T.ht hi hz hsz hby T.zs T.pos v n xs hown ⟨b, off, none⟩ m cap news hl (cells_add hc) h1 h63 hbytes hbase
    exact ⟨v', w', hr, h2, h3, h5⟩

theorem wpList_app_at {P : Program} {t e : TypeId} {size bytes : Nat} {z : Value} (T : SlTy P t e size bytes z) {w : World} {ops : Array Oper} {rest : List Oper} {o : Oper} {a : Act} {Q : Exit → Act → World → Prop} (hgd : o.guard = none) {s x : Operand}
    (ho : o.op = .call { callee := .builtin .append, args := #[s, x], argTypes := #[t, t] }) {v vx : Value} (hs : a.eval s = v) (hx : a.eval x = vx)
    {base n : Nat} {xs : List Value} (hown : w.ownsRow base e size v n xs)
    {M : Nat → Prop} {m : Nat} {news : List Value} (hrow : Row M w vx m news) (hl : news.length = m * size) (h1 : ∀ u ∈ news, u.oneCell' = true)
    (h63 : n + m ≤ maxLen) (hbytes : (n + m) * bytes ≤ 140737488355328) (hbase : base ≤ w.heap.size)
    (h : ∀ v' w', w'.ownsRow base e size v' (n + m) (xs ++ news) → w.grownBy w' v.ownBlock → (v'.ownBlock = v.ownBlock ∨ v'.ownBlock = some w.heap.size) → wpList P ops Q rest (a.put o.dst v') w') : wpList P ops Q (o :: rest) a w := by
  refine wpList_plain hgd fun K hK => ?_
  obtain ⟨v', w', hr, h2, h3, h4⟩ := run_app_at T w o.type base v n xs hown hrow hl h1 h63 hbytes hbase
  unfold Oper.wp execOp
  simp only [ho, resolve, invoke, builtin, Sem.run_bind, Sem.run_pure, Result.andThen_ok, List.map_toArray, List.map_cons, List.map_nil, hs, hx, hr]
  exact hK _ _ (h v' w' h2 h3 h4)

theorem wpListIn_app_at {F : Fence} {n0 : Nat} {P : Program} {t e : TypeId} {size bytes : Nat} {z : Value} (T : SlTy P t e size bytes z) {w : World} {ops : Array Oper} {rest : List Oper} {o : Oper} {a : Act} {Q : Exit → Act → World → Prop} (hgd : o.guard = none) {s x : Operand}
    (ho : o.op = .call { callee := .builtin .append, args := #[s, x], argTypes := #[t, t] }) {v vx : Value} (hs : a.eval s = v) (hx : a.eval x = vx)
    {base n : Nat} {xs : List Value} (hown : w.ownsRow base e size v n xs)
    {M : Nat → Prop} {m : Nat} {news : List Value} (hrow : Row M w vx m news) (hl : news.length = m * size) (h1 : ∀ u ∈ news, u.oneCell' = true)
    (h63 : n + m ≤ maxLen) (hbytes : (n + m) * bytes ≤ 140737488355328) (hbase : base ≤ w.heap.size)
    (h : ∀ v' w', w'.ownsRow base e size v' (n + m) (xs ++ news) → w.grownBy w' v.ownBlock → (v'.ownBlock = v.ownBlock ∨ v'.ownBlock = some w.heap.size) → wpListIn F n0 P ops Q rest (a.put o.dst v') w') : wpListIn F n0 P ops Q (o :: rest) a w := by
  refine wpListIn_plain hgd fun K hK => ?_
  obtain ⟨v', w', hr, h2, h3, h4⟩ := run_app_at T w o.type base v n xs hown hrow hl h1 h63 hbytes hbase
  unfold Oper.wpIn
  refine ⟨?_, ?_⟩
  · simp [Oper.about, ho, resolve, Target.leads, Sem.run_pure]
  · rw [Oper.semAt_plain F _ _ (by rw [ho]; intro c hc'; cases hc')]
    simp [execOp, ho, resolve, invoke, builtin, hs, hx, hr, Result.andThen]
    exact hK _ _ (h v' w' h2 h3 h4)

/-- A literal of one value, as a slice. -/
theorem Row.lit1 (w : World) (x : Value) (e : TypeId) : Row (fun _ => False) (w.alloc (.cells #[x] e)) (.slice (some ⟨w.heap.size, 0, none⟩) 1 1) 1 [x] := (Row.lit (size := 1) (Nat.le_refl _) (by decide) rfl rfl).mono (fun _ _ h => h.elim)

/-- A slice expression 'b[k:]' whose run is known. -/
theorem wpList_from {P : Program} {w : World} {ops : Array Oper} {rest : List Oper} {o : Oper} {a : Act} {Q : Exit → Act → World → Prop} (hgd : o.guard = none) {x lo : Operand} {t : TypeId}
    (ho : o.op = .slice t x (some lo) none none) {vx : Value} {k : Int} (hx : a.eval x = vx) (hl : a.eval lo = .int .i64 k)
    {v' : Value} (hr : ∀ W, (Instr.sliceAt t vx (some (.int .i64 k)) none none).run P W = .ok v' W) (h : wpList P ops Q rest (a.put o.dst v') w) : wpList P ops Q (o :: rest) a w := by
  refine wpList_plain hgd fun K hK => ?_
  unfold Oper.wp execOp
  simp only [ho, hx, hl, Option.map_some, Option.map_none, Sem.run_bind, Sem.run_pure, Result.andThen_ok, hr]
  exact hK _ _ h

/-- An append whose run is known. -/
theorem wpList_app_run {P : Program} {w : World} {ops : Array Oper} {rest : List Oper} {o : Oper} {a : Act} {Q : Exit → Act → World → Prop} (hgd : o.guard = none) {s x : Operand} {t tx : TypeId}
    (ho : o.op = .call { callee := .builtin .append, args := #[s, x], argTypes := #[t, tx] }) {v vx : Value} (hs : a.eval s = v) (hx : a.eval x = vx)
    {v' : Value} {w' : World} (hr : ∀ ty, (Builtin.append_ #[t, tx] ty #[v, vx]).run P w = .ok v' w') (h : wpList P ops Q rest (a.put o.dst v') w') : wpList P ops Q (o :: rest) a w := by
  refine wpList_plain hgd fun K hK => ?_
  unfold Oper.wp execOp
  simp only [ho, resolve, invoke, builtin, Sem.run_bind, Sem.run_pure, Result.andThen_ok, List.map_toArray, List.map_cons, List.map_nil, hs, hx, hr]
  exact hK _ _ h

/-- Onto a slice that is full: a new row. -/
theorem run_app_full {P : Program} {t e : TypeId} {size bytes : Nat} {z : Value} (T : SlTy P t e size bytes z) (w : World) (ty : TypeId) {M : Nat → Prop} {a : Option Addr} {n cap : Nat} {xs : List Value} (hv : Row M w (.slice a n cap) n xs) (hxl : xs.length = n * size)
    {vx : Value} {m : Nat} {news : List Value} (hrow : Row M w vx m news) (hl : news.length = m * size) (hfull : cap < n + m)
    (h63 : n + m ≤ maxLen) (hbytes : (n + m) * bytes ≤ 140737488355328) (h1 : ∀ u ∈ news, u.oneCell' = true) :
    ∃ v' w', (Builtin.append_ #[t, t] ty #[.slice a n cap, vx]).run P w = .ok v' w' ∧ w'.ownsRow w.heap.size e size v' (n + m) (xs ++ news) ∧ w.grownBy w' none := by
  obtain ⟨i, hi, hz, hsz, hby⟩ := T.info
  rcases hrow with ⟨⟨a0, rfl⟩, rfl, rfl⟩ | ⟨b, off, cap', rfl, _, _, _, _, hc⟩
  · rcases hv with ⟨⟨a1, h⟩, rfl, rfl⟩ | ⟨_, _, _, h, hn, _⟩
    · cases h; omega
    · cases h; omega
  · rcases hv with ⟨⟨a1, h⟩, rfl, rfl⟩ | ⟨b', off', cap'', h, _, _, _, _, hc'⟩
    · cases h
      cases a with
      | some a1 => exact run_append_arg_grows w t ty e i z size bytes T.ht hi hz hsz hby T.zs T.pos a1 0 0 [] hxl (by intro j u hu; simp at hu) ⟨b, off, none⟩ m cap' news hl (cells_add hc) hfull h63 hbytes
      | none =>
      obtain ⟨v', w', hr, h2, h3, _⟩ := run_append_own w w.heap.size t ty e i z size bytes T.ht hi hz hsz hby T.zs T.pos (.slice none 0 0) 0 [] (World.ownsRow_nil w _ e size) ⟨b, off, none⟩ m cap' news hl (cells_add hc) h1 h63 hbytes (Nat.le_refl _)
      exact ⟨v', w', hr, h2, h3⟩
    · cases h
      exact run_append_arg_grows w t ty e i z size bytes T.ht hi hz hsz hby T.zs T.pos ⟨b', off', none⟩ n cap xs hxl (cells_add hc') ⟨b, off, none⟩ m cap' news hl (cells_add hc) hfull h63 hbytes

theorem wpList_app_full {P : Program} {t e : TypeId} {size bytes : Nat} {z : Value} (T : SlTy P t e size bytes z) {w : World} {ops : Array Oper} {rest : List Oper} {o : Oper} {act : Act} {Q : Exit → Act → World → Prop} (hgd : o.guard = none) {s x : Operand}
    (ho : o.op = .call { callee := .builtin .append, args := #[s, x], argTypes := #[t, t] }) {a : Option Addr} {n cap : Nat} {vx : Value} (hs : act.eval s = .slice a n cap) (hx : act.eval x = vx)
    {M : Nat → Prop} {xs : List Value} (hv : Row M w (.slice a n cap) n xs) (hxl : xs.length = n * size)
    {m : Nat} {news : List Value} (hrow : Row M w vx m news) (hl : news.length = m * size) (hfull : cap < n + m)
    (h63 : n + m ≤ maxLen) (hbytes : (n + m) * bytes ≤ 140737488355328) (h1 : ∀ u ∈ news, u.oneCell' = true)
    (h : ∀ v' w', w'.ownsRow w.heap.size e size v' (n + m) (xs ++ news) → w.grownBy w' none → wpList P ops Q rest (act.put o.dst v') w') : wpList P ops Q (o :: rest) act w := by
  refine wpList_plain hgd fun K hK => ?_
  obtain ⟨v', w', hr, h2, h3⟩ := run_app_full T w o.type hv hxl hrow hl hfull h63 hbytes h1
  unfold Oper.wp execOp
  simp only [ho, resolve, invoke, builtin, Sem.run_bind, Sem.run_pure, Result.andThen_ok, List.map_toArray, List.map_cons, List.map_nil, hs, hx, hr]
  exact hK _ _ (h v' w' h2 h3)

/-- A store of a whole row or struct into its variable. -/
theorem run_storeVar_whole {P : Program} (w : World) (g : Nat) (ty t : TypeId) (cells cur : Array Value) (hg : w.heap[g]? = some (.cells cur t (0, 0))) (hs : cells.size = cur.size) (hi : (P.info? ty).map (·.size) = some cells.size) (h1 : ∀ v ∈ cells.toList, v.oneCell' = true) :
    (storeVar ty ⟨g, 0, none⟩ (.agg cells)).run P w = .ok () (w.setRow g cells) := by
  have h := run_storeCells_at P g 0 t cells.toList 0 cur w hg (by simp [hs]) h1
  have hd : cur.toList.drop cells.size = [] := List.drop_eq_nil_of_le (by simp [hs])
  simp only [Nat.add_zero, List.take_zero, List.nil_append, Nat.zero_add, Array.length_toList, hd, List.append_nil, Array.toArray_toList] at h
  cases hq : P.info? ty with
  | none => simp [hq] at hi
  | some i =>
    have hs : cells.size = i.size := by simp [hq] at hi; omega
    simp [storeVar, Go.sizeOf, typeInfo, hq, Value.cells, hs, h]

theorem wpList_store_whole {P : Program} {ops : Array Oper} {rest : List Oper} {op : Oper} {a : Act} {w : World} {Q : Exit → Act → World → Prop} (hgd : op.guard = none) {ty : TypeId} {x y : Operand} (ho : op.op = .store ty x y)
    (g : Nat) (t : TypeId) (cells cur : Array Value) (hx : a.eval x = .pointer (some ⟨g, 0, none⟩)) (hy : a.eval y = .agg cells)
    (hg : w.heap[g]? = some (.cells cur t (0, 0))) (hs : cells.size = cur.size) (hi : (P.info? ty).map (·.size) = some cells.size) (h1 : ∀ v ∈ cells.toList, v.oneCell' = true)
    (h : wpList P ops Q rest (a.put op.dst undef) (w.setRow g cells)) : wpList P ops Q (op :: rest) a w :=
  wpList_plain hgd fun K hK => by
    unfold Oper.wp execOp
    simp only [ho, hx, hy, Instr.storeAt, Instr.sureAddr, Sem.run_bind, Sem.run_pure, Result.andThen_ok, run_storeVar_whole w g ty t cells cur hg hs hi h1]
    exact hK _ _ h

end CW
