/- Slices of integers as a law's parameters. -/
import Derived.Test.YtlgjnidphldiiaaQHeadX
import Derived.Maps.AppendAt
import Derived.Laws.AppendOwnNone
import Derived.Lib.SmallJoins
namespace Go.Proofs.Ytlgjnidphldiiaa
open Go.ChangeShapes Go.WideShapes Go.ChangeAt Go.RowKit

/-- A parameter that is a slice of integers. -/
structure SlP (w : World) (k : IntKind) (a : Option Addr) (c : Nat) (xs : List Int) : Prop where
  sl : Sl w k a xs
  wf : ∀ x ∈ xs, (Lit.int k x).wf = true
  le : xs.length ≤ c
  max : c ≤ maxLen
  nil : a = none → c = 0

theorem SlP.mono {w w' : World} {k : IntKind} {a : Option Addr} {c : Nat} {xs : List Int} (h : SlP w k a c xs) (hb : Below w.heap.size w w') : SlP w' k a c xs := ⟨h.sl.mono hb, h.wf, h.le, h.max, h.nil⟩

section
variable {H : Type} {enc : TypeId × Value → H} {P : Program} {w : World}

theorem open_slice {r : Reach} {b0 : Nat} {t e : TypeId} {k : IntKind} {v : Value} {d : DataW H} {ps : List MemPlace} (ht : P.underlying t = some (.slice e)) (he : P.underlying e = some (.int k)) (hc : P.cellsOf e = 1)
    (hd : DataW.Trod enc P w 0 (fun _ => true) true t v d ps) (hval : Value.okWide P w r b0 t v) (hlt : ∀ x ∈ ps, x.block < w.heap.size) :
    ∃ (ad : Option Addr) (c : Nat) (xs : List Int), v = .slice ad xs.length c ∧ SlP w k ad c xs := by
  obtain ⟨a, len, cap, rfl⟩ := okWide_slice ht hval
  obtain ⟨fuel, hf⟩ := hd
  have hcells : (Value.slice a len cap).cells.toList = [.slice a len cap] := by simp [Value.cells]
  rw [hcells] at hf
  rcases open_ints ht he hc hf with ⟨h1, _⟩ | ⟨c, len', cap', zs, h1, _, h2, h3, h4, h5, h6, h7⟩
  · simp only [List.cons.injEq, and_true] at h1
    exact ⟨none, 0, [], h1, Sl.nil _ _ _, by simp, by simp, by simp, fun _ => rfl⟩
  · simp only [List.cons.injEq, and_true] at h1
    cases h1
    simp only [if_true] at h4
    obtain ⟨xs, hxs⟩ : ∃ xs, xs = zs.take len := ⟨_, rfl⟩
    have hlen : xs.length = len := by rw [hxs, List.length_take]; omega
    subst hlen
    refine ⟨some c, cap, xs, rfl, ?_, fun x hx => h7 x (by rw [hxs] at hx; exact List.mem_of_mem_take hx), by omega, h3, fun h => by cases h⟩
    intro h0
    simp only [Prod.mk.injEq] at h5
    have hs : c.spot = none := by
      have := h6 0 (by omega)
      have e : c.add 0 = c := by simp [Addr.add]
      rw [e] at this
      unfold World.cell? at this
      split at this
      · cases hsp : c.spot with
        | none => rfl
        | some z => rw [hsp] at this; simp at this
      · cases this
    obtain ⟨b, off, spot⟩ := c
    simp only at hs
    subst hs
    refine ⟨b, off, rfl, ?_, fun i hi => ?_⟩
    · exact hlt (.cell b (off + 0)) (by rw [h5.2]; exact List.mem_map.2 ⟨0, List.mem_range.2 (by omega), rfl⟩)
    · have e : (⟨b, off + i, none⟩ : Addr) = (⟨b, off, none⟩ : Addr).add i := by
        unfold Addr.add
        split
        · rename_i h; subst h; rfl
        · rfl
      rw [e, h6 i (by omega)]
      congr 2
      rw [hxs]
      simp only [List.getD_eq_getElem?_getD]
      rw [List.getElem?_take_of_lt hi]
end

theorem wfs_u64 {xs : List Int} (h : ∀ x ∈ xs, (Lit.int .u64 x).wf = true) : AllW xs := fun x hx => wf_u64 (h x hx)
end Go.Proofs.Ytlgjnidphldiiaa

/- New arrays of three, and stores of whole arrays. -/
namespace Go.Proofs.Ytlgjnidphldiiaa
open Go.RowKit

/-- A new array of three. -/
def NewA (n : Nat) (cs : Array Value) (T : TypeId) (v : Value) (w : World) : Prop := ∃ b, v = .pointer (some ⟨b, 0, none⟩) ∧ n ≤ b ∧ Blk w b cs T

theorem NewA.keep {n : Nat} {cs : Array Value} {T : TypeId} {v : Value} {w w' : World} (h : NewA n cs T v w) (hb : Below w.heap.size w w') : NewA n cs T v w' := by
  obtain ⟨b, h1, h2, h3⟩ := h
  exact ⟨b, h1, h2, h3.mono hb⟩

end Go.Proofs.Ytlgjnidphldiiaa

/- Slices of integers that a call makes: what it is to own one, and append, for the walk. -/
namespace Go.Proofs.Ytlgjnidphldiiaa
open Go.RowKit

/-- v is a slice of the call's own (its block is number base or later), of elements of type E, integers of kind k: the list xs. -/
def Own (w : World) (base : Nat) (E : TypeId) (k : IntKind) (v : Value) (xs : List Int) : Prop := w.ownsRow base E 1 v xs.length (xs.map (Value.int k))

section
variable {w w' : World} {base : Nat} {E : TypeId} {k : IntKind} {v : Value} {xs : List Int}

theorem Own.nil (w : World) (base : Nat) (E : TypeId) (k : IntKind) : Own w base E k (.slice none 0 0) [] := World.ownsRow_nil w base E 1

theorem Own.lt (h : Own w base E k v xs) {b : Nat} (hb : v.ownBlock = some b) : base ≤ b ∧ b < w.heap.size := World.ownsRow.lt h b hb

theorem Own.form (h : Own w base E k v xs) : (v = .slice none 0 0 ∧ xs = []) ∨ ∃ g cap cur, v = .slice (some ⟨g, 0, none⟩) xs.length cap ∧ base ≤ g ∧ Blk w g cur E ∧ xs.length ≤ cap ∧ cap ≤ maxLen ∧ cur.size = cap ∧ cur.toList.take xs.length = xs.map (Value.int k) := by
  obtain ⟨_, h2⟩ := h
  rcases h2 with ⟨h3, h4⟩ | ⟨g, cap, cur, h3, h4, h5, h6, h7, h8, h9⟩
  · exact .inl ⟨h3, List.eq_nil_of_length_eq_zero h4⟩
  · exact .inr ⟨g, cap, cur, h3, h4, h5, h6, h7, by omega, by simpa using h9⟩

theorem Own.of_blk {g cap : Nat} {cur : Array Value} (hb : base ≤ g) (h : Blk w g cur E) (h1 : xs.length ≤ cap) (h2 : cap ≤ maxLen) (h3 : cur.size = cap) (h4 : cur.toList.take xs.length = xs.map (Value.int k)) : Own w base E k (.slice (some ⟨g, 0, none⟩) xs.length cap) xs :=
  ⟨by simp, .inr ⟨g, cap, cur, rfl, hb, h, h1, h2, by omega, by simpa using h4⟩⟩

theorem Own.mono (h : Own w base E k v xs) (hb : Below w.heap.size w w') : Own w' base E k v xs := by
  rcases h.form with ⟨rfl, rfl⟩ | ⟨g, cap, cur, rfl, h1, h2, h3, h4, h5, h6⟩
  · exact Own.nil _ _ _ _
  · exact Own.of_blk h1 (h2.mono hb) h3 h4 h5 h6

theorem Own.alloc (h : Own w base E k v xs) (o : Obj) : Own (w.alloc o) base E k v xs := h.mono ((Below.refl _ _).alloc (Nat.le_refl _) o)

theorem Own.low (h : Own w base E k v xs) {b : Nat} (hb : b ≤ base) : Own w b E k v xs := by
  rcases h.form with ⟨rfl, rfl⟩ | ⟨g, cap, cur, rfl, h1, h2, h3, h4, h5, h6⟩
  · exact Own.nil _ _ _ _
  · exact Own.of_blk (Nat.le_trans hb h1) h2 h3 h4 h5 h6

theorem Own.other (h : Own w base E k v xs) {b j : Nat} (hn : v.ownBlock ≠ some b) (u : Value) : Own (w.setCell ⟨b, j, none⟩ u) base E k v xs := by
  rcases h.form with ⟨rfl, rfl⟩ | ⟨g, cap, cur, rfl, h1, h2, h3, h4, h5, h6⟩
  · exact Own.nil _ _ _ _
  · exact Own.of_blk h1 (h2.other (fun e => hn (by simp [Value.ownBlock, e])) _ _) h3 h4 h5 h6

/-- As a slice that holds the list. -/
theorem Own.sl (h : Own w base E k v xs) : ∃ ad c, v = .slice ad xs.length c ∧ Sl w k ad xs ∧ xs.length ≤ c ∧ c ≤ maxLen := by
  rcases h.form with ⟨rfl, rfl⟩ | ⟨g, cap, cur, rfl, h1, h2, h3, h4, h5, h6⟩
  · exact ⟨none, 0, rfl, Sl.nil _ _ _, Nat.le_refl _, by simp⟩
  · refine ⟨_, cap, rfl, fun h0 => ⟨g, 0, rfl, h2.lt, fun i hi => ?_⟩, h3, h4⟩
    refine h2.cell ?_
    have e : cur.toList[i]? = some (Value.int k (xs.getD i 0)) := by
      have : (cur.toList.take xs.length)[i]? = (xs.map (Value.int k))[i]? := by rw [h6]
      rw [List.getElem?_take_of_lt hi] at this
      rw [this]
      simp [List.getD_eq_getElem?_getD, List.getElem?_eq_getElem hi]
    simpa using e

/-- Element number j is stored. -/
theorem Own.set {g n cap : Nat} (h : Own w base E k (.slice (some ⟨g, 0, none⟩) n cap) xs) (j : Nat) (x : Int) : Own (w.setCell ⟨g, j, none⟩ (.int k x)) base E k (.slice (some ⟨g, 0, none⟩) n cap) (xs.set j x) := by
  rcases h.form with ⟨h0, _⟩ | ⟨g', cap', cur, h0, h1, h2, h3, h4, h5, h6⟩
  · cases h0
  · cases h0
    have := Own.of_blk (w := w.setCell ⟨g, j, none⟩ (.int k x)) (k := k) (xs := xs.set j x) (cap := cap) h1 (h2.set j (.int k x)) (by simpa using h3) h4 (by simpa using h5) (by
      rw [Array.toList_setIfInBounds, List.length_set, List.map_set, ← h6, List.take_set])
    simpa using this

theorem Own.len {g : Addr} {n cap : Nat} (h : Own w base E k (.slice (some g) n cap) xs) : n = xs.length ∧ n ≤ cap := by
  rcases h.form with ⟨h0, _⟩ | ⟨g', cap', cur, h0, h1, h2, h3, _⟩
  · cases h0
  · cases h0
    exact ⟨rfl, h3⟩

theorem Own.cell {g n cap : Nat} (h : Own w base E k (.slice (some ⟨g, 0, none⟩) n cap) xs) {j : Nat} (hj : j < n) : w.cell? ⟨g, j, none⟩ = some (.int k (xs.getD j 0)) := by
  obtain ⟨rfl, _⟩ := h.len
  obtain ⟨ad, c, h1, h2, _⟩ := h.sl
  cases h1
  obtain ⟨b, off, e, _, hc⟩ := h2.get hj
  cases e
  simpa using hc

theorem Own.free {g n cap : Nat} (h : Own w base E k (.slice (some ⟨g, 0, none⟩) n cap) xs) (j : Nat) : w.frozen? ⟨g, j, none⟩ = false := by
  rcases h.form with ⟨h0, _⟩ | ⟨g', cap', cur, h0, h1, h2, _⟩
  · cases h0
  · cases h0
    exact h2.free j

theorem Own.made {cap : Nat} (z : Int) (hb : base ≤ w.heap.size) (hm : cap ≤ maxLen) : Own (w.alloc (.cells (madeCells #[.int k z] cap) E)) base E k (.slice (some ⟨w.heap.size, 0, none⟩) cap cap) (List.replicate cap z) := by
  have h : (madeCells #[.int k z] cap) = (List.replicate cap (Value.int k z)).toArray := by
    unfold madeCells
    apply Array.ext'
    rw [Array.toList_map]
    refine List.ext_getElem (by simp) fun i h1 h2 => ?_
    have e : i % 1 = 0 := Nat.mod_one i
    simp [e]
  have := Own.of_blk (k := k) (xs := List.replicate cap z) (cap := cap) hb (Blk.new w (madeCells #[.int k z] cap) E) (by simp) hm (by rw [h]; simp) (by rw [h]; simp)
  simpa using this

end

/-- One new cell. -/
theorem Sl.one (w : World) (k : IntKind) (x : Int) (T : TypeId) : Sl (w.alloc (.cells #[.int k x] T)) k (some ⟨w.heap.size, 0, none⟩) [x] := fun _ =>
  ⟨w.heap.size, 0, rfl, by simp, fun i hi => by
    have : i = 0 := by simpa using hi
    subst this
    exact (Blk.new w #[.int k x] T).cell (j := 0) rfl⟩

/-- []T{}, just made. -/
theorem Own.empty {w : World} {base : Nat} {E : TypeId} {k : IntKind} (hb : base ≤ w.heap.size) : Own (w.alloc (.cells #[] E)) base E k (.slice (some ⟨w.heap.size, 0, none⟩) 0 0) [] :=
  Own.of_blk (xs := []) hb (Blk.new w #[] E) (Nat.le_refl _) (by simp) rfl rfl

theorem Sl.alloc {w : World} {k : IntKind} {a : Option Addr} {xs : List Int} (h : Sl w k a xs) (o : Obj) : Sl (w.alloc o) k a xs := h.mono ((Below.refl _ _).alloc (Nat.le_refl _) o)

theorem Blk.grown {w w' : World} {b : Nat} {cs : Array Value} {T : TypeId} {row : Option Nat} (h : Blk w b cs T) (hg : w.grownBy w' row) (hn : row ≠ some b) : Blk w' b cs T := by
  have := hg.block b h.lt (fun e => hn e.symm)
  unfold Blk at *
  rw [this]; exact h

theorem own_ne {w : World} {v v' : Value} {b : Nat} (hat : v'.ownBlock = v.ownBlock ∨ v'.ownBlock = some w.heap.size) (hn : v.ownBlock ≠ some b) (hb : b < w.heap.size) : v'.ownBlock ≠ some b := by
  rcases hat with h | h
  · rw [h]; exact hn
  · rw [h]; intro e; cases e; exact absurd hb (Nat.lt_irrefl _)

theorem Sl.grown {w w' : World} {k : IntKind} {a : Option Addr} {xs : List Int} {B : Nat} {row : Option Nat} (h : Sl w k a xs) (hg : w.grownBy w' row) (hr : ∀ r, row = some r → B ≤ r) (ha : ∀ ad, a = some ad → ad.block < B) : Sl w' k a xs := fun h0 => by
  obtain ⟨b, off, e, hl, hc⟩ := h h0
  have hlt := ha _ e
  refine ⟨b, off, e, Nat.lt_of_lt_of_le hl hg.size, fun i hi => ?_⟩
  rw [World.cell?_of_block (w := w) (hg.block b hl (fun er => by have := hr b er.symm; simp only at hlt; omega))]
  exact hc i hi

theorem below_grown {B base : Nat} {a w w' : World} {E : TypeId} {k : IntKind} {v : Value} {xs : List Int} (h : Below B a w) (hown : Own w base E k v xs) (hg : w.grownBy w' v.ownBlock) (hB : B ≤ base) (hs : B ≤ w.heap.size) : Below B a w' :=
  h.grown hg hs fun _ hb => Nat.le_trans hB (hown.lt hb).1

/-- w' is w behind an append that turned v into v'. -/
structure Grew (w w' : World) (v v' : Value) : Prop where
  by_ : w.grownBy w' v.ownBlock
  ne : ∀ b, b < w.heap.size → v.ownBlock ≠ some b → v'.ownBlock ≠ some b

theorem Grew.of {w w' : World} {v v' : Value} (hg : w.grownBy w' v.ownBlock) (hat : v'.ownBlock = v.ownBlock ∨ v'.ownBlock = some w.heap.size) : Grew w w' v v' := ⟨hg, fun _ hb hn => own_ne hat hn hb⟩

theorem Grew.below {B base : Nat} {a w w' : World} {E : TypeId} {k : IntKind} {v v' : Value} {xs : List Int} (h : Grew w w' v v') (hB : Below B a w) (hown : Own w base E k v xs) (h1 : B ≤ base) (h2 : B ≤ w.heap.size) : Below B a w' := below_grown hB hown h.by_ h1 h2
theorem Grew.blk {w w' : World} {v v' : Value} {b : Nat} {cs : Array Value} {T : TypeId} (h : Grew w w' v v') (hk : Blk w b cs T) (hn : v.ownBlock ≠ some b) : Blk w' b cs T := hk.grown h.by_ hn
/-- Another slice of the call's own stays. -/
theorem Grew.own {w w' : World} {v v' u : Value} {base : Nat} {E : TypeId} {k : IntKind} {xs : List Int} (h : Grew w w' v v') (hu : Own w base E k u xs) (hn : u = .slice none 0 0 ∨ v.ownBlock ≠ u.ownBlock) : Own w' base E k u xs := by
  rcases hu.form with ⟨rfl, rfl⟩ | ⟨g, cap, cur, rfl, h1, h2, h3, h4, h5, h6⟩
  · exact Own.nil _ _ _ _
  · rcases hn with hn | hn
    · cases hn
    · exact Own.of_blk h1 (h2.grown h.by_ hn) h3 h4 h5 h6

/-- A walk's goal, held back: the tactics of the walk pass it by. -/
def Hold (p : Prop) : Prop := p
theorem Hold.mk {p : Prop} (h : Hold p) : p := h
theorem Hold.go {p : Prop} (h : p) : Hold p := h

section
variable {P : Program} (w : World)

/-- append, for the walk: onto a slice of the call's own, whatever slice is appended. -/
theorem wpList_app {ops : Array Oper} {rest : List Oper} {o : Oper} {a : Act} {Q : Exit → Act → World → Prop} (hgd : o.guard = none) (s x : Operand) (t : TypeId)
    (ho : o.op = .call { callee := .builtin .append, args := #[s, x], argTypes := #[t, t] })
    (base : Nat) (E : TypeId) (k : IntKind) (bytes : Nat) (ht : P.underlying t = some (.slice E)) (hinfo : (P.info? E).map (fun i => (i.zero, i.size, i.bytes)) = some (some (.int k 0), 1, bytes)) (h8 : bytes ≤ 8)
    (v : Value) (xs ys : List Int) (c : Nat) (A : Option Addr) (hs : a.eval s = v) (hx : a.eval x = .slice A ys.length c) (hown : Own w base E k v xs) (hsl : Sl w k A ys) (hlen : xs.length + ys.length < 1099511627776) (hbase : base ≤ w.heap.size)
    (h : ∀ v' w', Own w' base E k v' (xs ++ ys) → Grew w w' v v' → wpList P ops Q rest (a.put o.dst v') w') : wpList P ops Q (o :: rest) a w := by
  obtain ⟨i, hi, hz, hsz, hby⟩ := info_parts hinfo
  refine wpList_plain hgd fun K hK => ?_
  have key : ∃ v' w', (Builtin.append_ #[t, t] o.type #[v, .slice A ys.length c]).run P w = .ok v' w' ∧ Own w' base E k v' (xs ++ ys) ∧ w.grownBy w' v.ownBlock ∧ (v'.ownBlock = v.ownBlock ∨ v'.ownBlock = some w.heap.size) := by
    rcases Nat.eq_zero_or_pos ys.length with h0 | h0
    · obtain rfl := List.eq_nil_of_length_eq_zero h0
      rcases A with _ | ad
      · refine ⟨v, w, ?_, by simpa using hown, ⟨rfl, rfl, rfl, Nat.le_refl _, fun _ _ _ => rfl⟩, .inl rfl⟩
        rcases hown.2 with ⟨rfl, h4⟩ | ⟨g, cap, cur, rfl, _, _, hnc, _⟩
        · simp [Builtin.append_, run_underlying ht, sizeOf, typeInfo, hi, Builtin.lenOf, Builtin.firstCells]
        · simp [Builtin.append_, run_underlying ht, sizeOf, typeInfo, hi, Builtin.lenOf, Builtin.firstCells, hnc, storeCells]
      · obtain ⟨v', w', hr, h2, h3, _, h5⟩ := run_append_own_at (P := P) w base t o.type E i (.int k 0) 1 bytes ht hi hz hsz hby rfl (by omega) v xs.length _ hown ad 0 c [] rfl (fun j u hu => by simp at hu) (fun u hu => by simp at hu) (by simp only [maxLen]; omega) (by
          have : (xs.length + 0) * bytes ≤ (xs.length + 0) * 8 := Nat.mul_le_mul_left _ h8
          omega) hbase
        exact ⟨v', w', hr, by simpa [Own] using h2, h3, h5⟩
    · obtain ⟨b, off, rfl, _, hc⟩ := hsl h0
      obtain ⟨v', w', hr, h2, h3, _, h5⟩ := run_append_own_at (P := P) w base t o.type E i (.int k 0) 1 bytes ht hi hz hsz hby rfl (by omega) v xs.length _ hown ⟨b, off, none⟩ ys.length c (ys.map (Value.int k)) (by simp) (fun j u hu => by
          have hj : j < ys.length := by
            rcases Nat.lt_or_ge j ys.length with h | h
            · exact h
            · rw [List.getElem?_eq_none (by simpa using h)] at hu; cases hu
          have e : (⟨b, off, none⟩ : Addr).add j = ⟨b, off + j, none⟩ := by unfold Addr.add; split <;> simp_all
          rw [e, hc j hj]
          rw [List.getElem?_map, List.getElem?_eq_getElem hj] at hu
          rw [← hu]
          simp [List.getD_eq_getElem?_getD, List.getElem?_eq_getElem hj]) (fun u hu => by
          obtain ⟨z, _, rfl⟩ := List.mem_map.1 hu
          rfl) (by simp only [maxLen]; omega) (by
          have : (xs.length + ys.length) * bytes ≤ (xs.length + ys.length) * 8 := Nat.mul_le_mul_left _ h8
          omega) hbase
      exact ⟨v', w', hr, by simpa [Own] using h2, h3, h5⟩
  obtain ⟨v', w', hr, h2, h3, h4⟩ := key
  unfold Oper.wp execOp
  simp only [ho, resolve, invoke, builtin, Sem.run_bind, Sem.run_pure, Result.andThen_ok, List.map_toArray, List.map_cons, List.map_nil, hs, hx, hr]
  exact hK _ _ (h v' w' h2 (.of h3 h4))

/-- append of one element, which lies in the block just made. -/
theorem wpList_app1 {ops : Array Oper} {rest : List Oper} {o : Oper} {a : Act} {Q : Exit → Act → World → Prop} (E : TypeId) (k : IntKind) (y : Int) (hgd : o.guard = none) (s x : Operand) (t : TypeId)
    (ho : o.op = .call { callee := .builtin .append, args := #[s, x], argTypes := #[t, t] })
    (base : Nat) (bytes : Nat) (ht : P.underlying t = some (.slice E)) (hinfo : (P.info? E).map (fun i => (i.zero, i.size, i.bytes)) = some (some (.int k 0), 1, bytes)) (h8 : bytes ≤ 8)
    (v : Value) (xs : List Int) (hs : a.eval s = v) (hx : a.eval x = .slice (some ⟨w.heap.size, 0, none⟩) 1 1) (hown : Own w base E k v xs) (hlen : xs.length < 1099511627775) (hbase : base ≤ w.heap.size)
    (h : ∀ v' w', Own w' base E k v' (xs ++ [y]) → Grew w w' v v' → wpList P ops Q rest (a.put o.dst v') w') : wpList P ops Q (o :: rest) a (w.alloc (.cells #[.int k y] E)) := by
  refine wpList_app _ hgd s x t ho base E k bytes ht hinfo h8 v xs [y] 1 _ hs hx (hown.alloc _) (Sl.one _ _ _ _) (by simp; omega) (by simp; omega) fun v' w' h1 h2 => h v' w' h1 ⟨⟨h2.by_.os, h2.by_.tape, h2.by_.output, Nat.le_trans (by simp) h2.by_.size, fun i hi hn => ?_⟩, fun b hb hn => h2.ne b (by simp; omega) hn⟩
  rw [h2.by_.block i (by simp; omega) hn, alloc_at, if_neg (by omega)]
end

/-- make([]T, n, c), for the walk: an equation for every world. -/
theorem run_mkI {P : Program} {t e : TypeId} {k : IntKind} {bytes : Nat} (ht : P.underlying t = some (.slice e)) (hinfo : (P.info? e).map (fun i => (i.zero, i.size, i.bytes)) = some (some (.int k 0), 1, bytes)) (h8 : bytes ≤ 8) {L C : Int} (l c : Nat) (hL : L = l) (hC : C = c) (hlc : l ≤ c) (hc : c < 1099511627776) (w : World) :
    (Instr.makeSlice t (.int .i64 L) (.int .i64 C)).run P w = .ok (.slice (some ⟨w.heap.size, 0, none⟩) l c) (w.alloc (.cells (madeCells #[.int k 0] c) e)) := by
  subst hL hC
  obtain ⟨i, hi, hz, hsz, hby⟩ := info_parts hinfo
  have hb : (i.bytes : Int) * (c : Int) ≤ 281474976710656 := by
    rw [hby]
    have : bytes * c ≤ 8 * c := Nat.mul_le_mul_right _ h8
    have h : ((bytes * c : Nat) : Int) ≤ 281474976710656 := by omega
    rwa [Int.natCast_mul] at h
  have hr := run_make (P := P) w t e i (.int k 0) ht hi hz .i64 .i64 l c (by omega) (by omega) hb (by omega)
  simp only [Int.toNat_natCast, hsz, Nat.mul_one] at hr
  exact hr
theorem run_mk {P : Program} {t e : TypeId} {k : IntKind} {bytes : Nat} (ht : P.underlying t = some (.slice e)) (hinfo : (P.info? e).map (fun i => (i.zero, i.size, i.bytes)) = some (some (.int k 0), 1, bytes)) (h8 : bytes ≤ 8) (l c : Nat) (hlc : l ≤ c) (hc : c < 1099511627776) (w : World) :
    (Instr.makeSlice t (.int .i64 (l : Int)) (.int .i64 (c : Int))).run P w = .ok (.slice (some ⟨w.heap.size, 0, none⟩) l c) (w.alloc (.cells (madeCells #[.int k 0] c) e)) :=
  run_mkI ht hinfo h8 l c rfl rfl hlc hc w

theorem Try.infoU64 : (Try.prog.info? 22).map (fun i => (i.zero, i.size, i.bytes)) = some (some (.int .u64 0), 1, 8) := by kernel_rfl
/-- What a call returns that makes a slice. -/
def RetSl (w : World) (E : TypeId) (k : IntKind) (xs : List Int) (e : Ending) (w' : World) : Prop := ∃ v, e = .returned v ∧ Own w' w.heap.size E k v xs ∧ Below w.heap.size w w'

end Go.Proofs.Ytlgjnidphldiiaa

/- Structs with slices as a law's parameters. -/
namespace Go.Proofs.Ytlgjnidphldiiaa
open Go.ChangeShapes Go.WideShapes Go.ChangeAt Go.RowKit

section
variable {H : Type} {enc : TypeId × Value → H} {P : Program} {w : World}

end
end Go.Proofs.Ytlgjnidphldiiaa
