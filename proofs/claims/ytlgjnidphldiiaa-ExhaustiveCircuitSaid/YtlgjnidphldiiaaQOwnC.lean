/- Slices whose elements take several cells, of the call's own: what it is to own one, and append, for the walk. -/
import Derived.Test.YtlgjnidphldiiaaQRelX
import Derived.Test.YtlgjnidphldiiaaQListX
import Derived.Deep.AppendLies
namespace Go.Proofs.Ytlgjnidphldiiaa
open Go.RowKit

/-- How an element lies: its cells. -/
structure Lay (α : Type) where
  f : α → List Value
  m : Nat
  len : ∀ x, (f x).length = m
  pos : 0 < m
  one : ∀ x, ∀ u ∈ f x, u.oneCell' = true

section
variable {α : Type} (L : Lay α)

theorem Lay.flat_len (xs : List α) : (xs.flatMap L.f).length = xs.length * L.m := by
  induction xs with
  | nil => simp
  | cons x xs ih => rw [List.flatMap_cons, List.length_append, ih, L.len, List.length_cons, Nat.add_mul]; omega
theorem Lay.flat_get : ∀ (xs : List α) (d : α) {i j : Nat}, i < xs.length → j < L.m → (xs.flatMap L.f)[i * L.m + j]? = (L.f (xs.getD i d))[j]?
  | x :: xs, d, 0, j, _, hj => by
    rw [List.flatMap_cons, List.getElem?_append_left (by rw [L.len]; omega), Nat.zero_mul, Nat.zero_add]
    rfl
  | x :: xs, d, i + 1, j, hi, hj => by
    have e : (i + 1) * L.m + j - L.m = i * L.m + j := by rw [Nat.add_mul]; omega
    have h1 : L.m ≤ (i + 1) * L.m + j := by rw [Nat.add_mul]; omega
    rw [List.flatMap_cons, List.getElem?_append_right (by rw [L.len]; exact h1), L.len, e, Lay.flat_get xs d (by simpa using hi) hj]
    rfl
theorem Lay.flat_one (xs : List α) : ∀ u ∈ xs.flatMap L.f, u.oneCell' = true := fun u hu => by
  obtain ⟨x, _, hx⟩ := List.mem_flatMap.1 hu
  exact L.one x u hx

/-- A slice that reads as xs, wherever it lies. -/
def SlG (w : World) (a : Option Addr) (xs : List α) : Prop :=
  0 < xs.length → ∃ b off, a = some ⟨b, off, none⟩ ∧ b < w.heap.size ∧ ∀ k u, (xs.flatMap L.f)[k]? = some u → w.cell? ⟨b, off + k, none⟩ = some u
theorem SlG.mono {L : Lay α} {w w' : World} {a : Option Addr} {xs : List α} (h : SlG L w a xs) (hb : Below w.heap.size w w') : SlG L w' a xs := fun h0 => by
  obtain ⟨b, off, e, hl, hc⟩ := h h0
  exact ⟨b, off, e, Nat.lt_of_lt_of_le hl hb.size, fun k u hu => cell_below hb (hc k u hu)⟩
theorem SlG.alloc {L : Lay α} {w : World} {a : Option Addr} {xs : List α} (h : SlG L w a xs) (o : Obj) : SlG L (w.alloc o) a xs := h.mono ((Below.refl _ _).alloc (Nat.le_refl _) o)
theorem SlG.nil (w : World) (a : Option Addr) : SlG L w a ([] : List α) := fun h => absurd h (by simp)

/-- v is a slice of the call's own: the list xs. -/
def OwnG (w : World) (base : Nat) (E : TypeId) (v : Value) (xs : List α) : Prop := w.ownsRow base E L.m v xs.length (xs.flatMap L.f)
end

section
variable {α : Type} {L : Lay α} {w w' : World} {base : Nat} {E : TypeId} {v : Value} {xs : List α}

theorem OwnG.nil (L : Lay α) (w : World) (base : Nat) (E : TypeId) : OwnG L w base E (.slice none 0 0) [] := World.ownsRow_nil w base E L.m
theorem OwnG.lt (h : OwnG L w base E v xs) {b : Nat} (hb : v.ownBlock = some b) : base ≤ b ∧ b < w.heap.size := World.ownsRow.lt h b hb
theorem OwnG.form (h : OwnG L w base E v xs) : (v = .slice none 0 0 ∧ xs = []) ∨ ∃ g cap cur, v = .slice (some ⟨g, 0, none⟩) xs.length cap ∧ base ≤ g ∧ Blk w g cur E ∧ xs.length ≤ cap ∧ cap ≤ maxLen ∧ cur.size = cap * L.m ∧ cur.toList.take (xs.length * L.m) = xs.flatMap L.f := by
  obtain ⟨_, h2⟩ := h
  rcases h2 with ⟨h3, h4⟩ | ⟨g, cap, cur, h3, h4, h5, h6, h7, h8, h9⟩
  · exact .inl ⟨h3, List.eq_nil_of_length_eq_zero h4⟩
  · exact .inr ⟨g, cap, cur, h3, h4, h5, h6, h7, h8, h9⟩
theorem OwnG.of_blk {g cap : Nat} {cur : Array Value} (hb : base ≤ g) (h : Blk w g cur E) (h1 : xs.length ≤ cap) (h2 : cap ≤ maxLen) (h3 : cur.size = cap * L.m) (h4 : cur.toList.take (xs.length * L.m) = xs.flatMap L.f) : OwnG L w base E (.slice (some ⟨g, 0, none⟩) xs.length cap) xs :=
  ⟨L.flat_len xs, .inr ⟨g, cap, cur, rfl, hb, h, h1, h2, h3, h4⟩⟩
theorem OwnG.mono (h : OwnG L w base E v xs) (hb : Below w.heap.size w w') : OwnG L w' base E v xs := by
  rcases h.form with ⟨rfl, rfl⟩ | ⟨g, cap, cur, rfl, h1, h2, h3, h4, h5, h6⟩
  · exact OwnG.nil _ _ _ _
  · exact OwnG.of_blk h1 (h2.mono hb) h3 h4 h5 h6
theorem OwnG.alloc (h : OwnG L w base E v xs) (o : Obj) : OwnG L (w.alloc o) base E v xs := h.mono ((Below.refl _ _).alloc (Nat.le_refl _) o)
theorem OwnG.low (h : OwnG L w base E v xs) {b : Nat} (hb : b ≤ base) : OwnG L w b E v xs := by
  rcases h.form with ⟨rfl, rfl⟩ | ⟨g, cap, cur, rfl, h1, h2, h3, h4, h5, h6⟩
  · exact OwnG.nil _ _ _ _
  · exact OwnG.of_blk (Nat.le_trans hb h1) h2 h3 h4 h5 h6
theorem OwnG.other (h : OwnG L w base E v xs) {b j : Nat} (hn : v.ownBlock ≠ some b) (u : Value) : OwnG L (w.setCell ⟨b, j, none⟩ u) base E v xs := by
  rcases h.form with ⟨rfl, rfl⟩ | ⟨g, cap, cur, rfl, h1, h2, h3, h4, h5, h6⟩
  · exact OwnG.nil _ _ _ _
  · exact OwnG.of_blk h1 (h2.other (fun e => hn (by simp [Value.ownBlock, e])) _ _) h3 h4 h5 h6
theorem OwnG.neq {b : Nat} {cs : Array Value} {T : TypeId} (h : OwnG L w base E v xs) (g : Blk w b cs T) (hT : ¬ E = T) : v.ownBlock ≠ some b := fun e => by
  rcases h.form with ⟨rfl, _⟩ | ⟨g', cap, cur, rfl, _, hgb, _⟩
  · cases e
  · injection e with e
    subst e
    have := hgb.symm.trans g
    injection this with this
    injection this with _ this
    exact hT this
/-- As a slice that holds the list. -/
theorem OwnG.sl (h : OwnG L w base E v xs) : ∃ ad c, v = .slice ad xs.length c ∧ SlG L w ad xs ∧ xs.length ≤ c ∧ c ≤ maxLen ∧ (ad = none → c = 0) := by
  rcases h.form with ⟨rfl, rfl⟩ | ⟨g, cap, cur, rfl, h1, h2, h3, h4, h5, h6⟩
  · exact ⟨none, 0, rfl, SlG.nil _ _ _, Nat.le_refl _, by simp, fun _ => rfl⟩
  · refine ⟨_, cap, rfl, fun h0 => ⟨g, 0, rfl, h2.lt, fun k u hu => ?_⟩, h3, h4, fun e => by cases e⟩
    rw [Nat.zero_add]
    refine h2.cell ?_
    rw [← h6, List.getElem?_take] at hu
    split at hu
    · simpa using hu
    · cases hu
/-- []T{}, just made. -/
theorem OwnG.empty {w : World} {base : Nat} {E : TypeId} (hb : base ≤ w.heap.size) : OwnG L (w.alloc (.cells #[] E)) base E (.slice (some ⟨w.heap.size, 0, none⟩) 0 0) [] :=
  OwnG.of_blk (xs := []) hb (Blk.new w #[] E) (Nat.le_refl _) (by simp) (by simp) (by simp)

theorem SlG.one {w : World} {b : Nat} {cs : Array Value} {T : TypeId} {x : α} (g : Blk w b cs T) (e : cs.toList = L.f x) : SlG L w (some ⟨b, 0, none⟩) [x] := fun _ =>
  ⟨b, 0, rfl, g.lt, fun k u hu => by
    rw [Nat.zero_add]
    refine g.cell ?_
    rw [List.flatMap_cons, List.flatMap_nil, List.append_nil, ← e] at hu
    simpa using hu⟩

theorem addr_add0 (b off j : Nat) : (⟨b, off, none⟩ : Addr).add j = ⟨b, off + j, none⟩ := by unfold Addr.add; split <;> simp_all

theorem info_partsG {P : Program} {E : TypeId} {z : Value} {m bytes : Nat} (hinfo : (P.info? E).map (fun i => (i.zero, i.size, i.bytes)) = some (some z, m, bytes)) : ∃ i, P.info? E = some i ∧ i.zero = some z ∧ i.size = m ∧ i.bytes = bytes := by
  cases h : P.info? E with
  | none => rw [h] at hinfo; cases hinfo
  | some i =>
    rw [h] at hinfo
    simp only [Option.map_some, Option.some.injEq, Prod.mk.injEq] at hinfo
    exact ⟨i, rfl, hinfo.1, hinfo.2.1, hinfo.2.2⟩

/-- append of any slice onto one of the call's own. -/
theorem run_appG {P : Program} {w : World} {t ty E : TypeId} {z : Value} {bytes : Nat} (ht : P.underlying t = some (.slice E)) (hinfo : (P.info? E).map (fun i => (i.zero, i.size, i.bytes)) = some (some z, L.m, bytes)) (hz : z.cells.size = L.m) (h8 : bytes ≤ 128)
    {base c : Nat} {v : Value} {xs ys : List α} {A : Option Addr} (hown : OwnG L w base E v xs) (hsl : SlG L w A ys) (hlen : xs.length + ys.length < 68719476736) (hbase : base ≤ w.heap.size) :
    ∃ v' w', (Builtin.append_ #[t, t] ty #[v, .slice A ys.length c]).run P w = .ok v' w' ∧ OwnG L w' base E v' (xs ++ ys) ∧ w.grownBy w' v.ownBlock ∧ (v'.ownBlock = v.ownBlock ∨ v'.ownBlock = some w.heap.size) := by
  obtain ⟨i, hi, hzi, hsz, hby⟩ := info_partsG hinfo
  have h47 : (xs.length + ys.length) * bytes ≤ 140737488355328 := by
    have : (xs.length + ys.length) * bytes ≤ (xs.length + ys.length) * 128 := Nat.mul_le_mul_left _ h8
    omega
  have fin : ∀ v' w', w'.ownsRow base E L.m v' (xs.length + ys.length) (xs.flatMap L.f ++ ys.flatMap L.f) → OwnG L w' base E v' (xs ++ ys) := fun v' w' h => by
    unfold OwnG
    rw [List.length_append, List.flatMap_append]; exact h
  rcases Nat.eq_zero_or_pos ys.length with h0 | h0
  · obtain rfl := List.eq_nil_of_length_eq_zero h0
    rcases A with _ | ad
    · refine ⟨v, w, ?_, by simpa using hown, ⟨rfl, rfl, rfl, Nat.le_refl _, fun _ _ _ => rfl⟩, .inl rfl⟩
      rcases hown.2 with ⟨rfl, h4⟩ | ⟨g, cap, cur, rfl, _, _, hnc, _⟩
      · simp [Builtin.append_, run_underlying ht, sizeOf, typeInfo, hi, Builtin.lenOf, Builtin.firstCells]
      · simp [Builtin.append_, run_underlying ht, sizeOf, typeInfo, hi, Builtin.lenOf, Builtin.firstCells, hnc, storeCells]
    · obtain ⟨v', w', hr, h2, h3, _, h5⟩ := run_append_own_at (P := P) w base t ty E i z L.m bytes ht hi hzi hsz hby hz L.pos v xs.length _ hown ad 0 c [] (by simp) (fun j u hu => by simp at hu) (fun u hu => by simp at hu) (by simp only [maxLen]; simp only [List.length_nil] at hlen; omega) (by simpa using h47) hbase
      exact ⟨v', w', hr, fin _ _ (by simpa using h2), h3, h5⟩
  · obtain ⟨b, off, rfl, _, hc⟩ := hsl h0
    obtain ⟨v', w', hr, h2, h3, _, h5⟩ := run_append_own_at (P := P) w base t ty E i z L.m bytes ht hi hzi hsz hby hz L.pos v xs.length _ hown ⟨b, off, none⟩ ys.length c (ys.flatMap L.f) (L.flat_len ys) (fun j u hu => by
      rw [addr_add0]; exact hc j u hu) (L.flat_one ys) (by simp only [maxLen]; omega) h47 hbase
    exact ⟨v', w', hr, fin _ _ h2, h3, h5⟩

/-- append, for the walk. -/
theorem wpList_appG {P : Program} (w : World) {ops : Array Oper} {rest : List Oper} {o : Oper} {a : Act} {Q : Exit → Act → World → Prop} (L : Lay α) (xs ys : List α) (hgd : o.guard = none) (s x : Operand) (t : TypeId)
    (ho : o.op = .call { callee := .builtin .append, args := #[s, x], argTypes := #[t, t] })
    (base : Nat) (E : TypeId) (z : Value) (bytes : Nat) (ht : P.underlying t = some (.slice E)) (hinfo : (P.info? E).map (fun i => (i.zero, i.size, i.bytes)) = some (some z, L.m, bytes)) (hz : z.cells.size = L.m) (h8 : bytes ≤ 128)
    (v : Value) (c n : Nat) (A : Option Addr) (hs : a.eval s = v) (hx : a.eval x = .slice A n c) (hn : n = ys.length) (hown : OwnG L w base E v xs) (hsl : SlG L w A ys) (hlen : xs.length + ys.length < 68719476736) (hbase : base ≤ w.heap.size)
    (h : ∀ v' w', OwnG L w' base E v' (xs ++ ys) → Grew w w' v v' → wpList P ops Q rest (a.put o.dst v') w') : wpList P ops Q (o :: rest) a w := by
  subst hn
  refine wpList_plain hgd fun K hK => ?_
  obtain ⟨v', w', hr, h2, h3, h4⟩ := run_appG (P := P) (ty := o.type) (c := c) ht hinfo hz h8 hown hsl hlen hbase
  unfold Oper.wp execOp
  simp only [ho, resolve, invoke, builtin, Sem.run_bind, Sem.run_pure, Result.andThen_ok, List.map_toArray, List.map_cons, List.map_nil, hs, hx, hr]
  exact hK _ _ (h v' w' h2 (.of h3 h4))

end
theorem Grew.belowG {α : Type} {L : Lay α} {B base : Nat} {a w w' : World} {E : TypeId} {v v' : Value} {xs : List α} (h : Grew w w' v v') (hB : Below B a w) (hown : OwnG L w base E v xs) (h1 : B ≤ base) (h2 : B ≤ w.heap.size) : Below B a w' :=
  hB.grown h.by_ h2 fun _ hb => Nat.le_trans h1 (hown.lt hb).1
end Go.Proofs.Ytlgjnidphldiiaa
