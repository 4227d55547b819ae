/- Exhaustive search: a new search: the state under way. -/
import Derived.Test.YtlgjnidphldiiaaExJ
namespace Go.Proofs.Ytlgjnidphldiiaa
open Go.ChangeShapes Go.WideShapes Go.ChangeAt Go.RowKit

/-- append of a slice, at a step of a region that draws. -/
theorem step_appX {P : Program} {w : World} {ops : Array Oper} {o : Oper} {a : Act} {K : Act → World → Prop} {Q : Exit → Act → World → Prop} {E' : Prop} {α : Type} (L : Lay α) (xs ys : List α) (hgd : o.guard = none) (s x : Operand) (t : TypeId)
    (ho : o.op = .call { callee := .builtin .append, args := #[s, x], argTypes := #[t, t] })
    (base : Nat) (E : TypeId) (z : Value) (bytes : Nat) (ht : P.underlying t = some (.slice E)) (hinfo : (P.info? E).map (fun i => (i.zero, i.size, i.bytes)) = some (some z, L.m, bytes)) (hz : z.cells.size = L.m) (h8 : bytes ≤ 128)
    (v : Value) (c n : Nat) (A : Option Addr) (hs : a.eval s = v) (hx : a.eval x = .slice A n c) (hn : n = ys.length) (hown : OwnG L w base E v xs) (hsl : SlG L w A ys) (hlen : xs.length + ys.length < 68719476736) (hbase : base ≤ w.heap.size)
    (h : ∀ v' w', OwnG L w' base E v' (xs ++ ys) → Grew w w' v v' → K (a.put o.dst v') w') : if Region.wanted o (yielded ops a.tmps) = true then Oper.wp P o a w K Q else E' := by
  subst hn
  rw [if_pos (by simp only [Region.wanted, hgd])]
  obtain ⟨v', w', hr, h2, h3, h4⟩ := run_appG (P := P) (ty := o.type) (c := c) ht hinfo hz h8 hown hsl hlen hbase
  unfold Oper.wp execOp
  simp only [ho, resolve, invoke, builtin, Sem.run_bind, Sem.run_pure, Result.andThen_ok, List.map_toArray, List.map_cons, List.map_nil, hs, hx, hr]
  exact h v' w' h2 (.of h3 h4)

def updX {α : Type} (f : Nat → α) (k : Nat) (x : α) : Nat → α := fun j => if j = k then x else f j
theorem updX_same {α : Type} (f : Nat → α) (k : Nat) (x : α) : updX f k x k = x := if_pos rfl
theorem updX_other {α : Type} (f : Nat → α) {k j : Nat} (x : α) (h : j ≠ k) : updX f k x j = f j := if_neg h
/-- The rows so far whose greatest variable is v. -/
def rwAt (Rd : List Rw) (v : Nat) : List Rw := Rd.filter fun r => gtR r.val == v
theorem rwAt_val (Rd : List Rw) (v : Nat) : (rwAt Rd v).map Rw.val = rowsAt (Rd.map Rw.val) v := by
  unfold rwAt rowsAt
  rw [List.filter_map]
  rfl
theorem rwAt_snoc (Rd : List Rw) (r : Rw) (v : Nat) : rwAt (Rd ++ [r]) v = if gtR r.val = v then rwAt Rd v ++ [r] else rwAt Rd v := by
  unfold rwAt
  rw [List.filter_append]
  by_cases h : gtR r.val = v
  · rw [if_pos h, List.filter_cons_of_pos (by simpa using h), List.filter_nil]
  · rw [if_neg h, List.filter_cons_of_neg (by simpa using h), List.filter_nil, List.append_nil]
/-- The slice of the rows at v. -/
def rwS (A : Nat → Option Addr) (C : Nat → Nat) (Rd : List Rw) (v : Nat) : Value := .slice (A v) (rwAt Rd v).length (C v)
/-- A search under way: the rows Rd have been laid. -/
structure NS (w0 w : World) (q p V last gi gr gw : Nat) (IL : List Int) (Wl : List Int) (Rd : List Rw) (A : Nat → Option Addr) (C : Nat → Nat) : Prop where
  below : Below w0.heap.size w0 w
  lq : w0.heap.size ≤ q
  lr : w0.heap.size ≤ gr
  blk : Blk w q #[.int .u64 p, .slice (some ⟨gi, 0, none⟩) p p, .slice (some ⟨gr, 0, none⟩) V V, .int .i64 last, .slice (some ⟨gw, 0, none⟩) V V] 143
  inv : Own w w0.heap.size 22 .u64 (.slice (some ⟨gi, 0, none⟩) p p) IL
  ow : Own w w0.heap.size 22 .u64 (.slice (some ⟨gw, 0, none⟩) V V) Wl
  neq : gi ≠ gw
  grb : Blk w gr ((List.range V).map (rwS A C Rd)).toArray 32
  own : ∀ v, v < V → OwnG rwL w w0.heap.size 106 (rwS A C Rd v) (rwAt Rd v)
  ne : ∀ u v, u < V → v < V → u ≠ v → ∀ g, (rwS A C Rd u).ownBlock = some g → (rwS A C Rd v).ownBlock ≠ some g
section
variable {w0 w w' : World} {q p V last gi gr gw : Nat} {IL Wl : List Int} {Rd : List Rw} {A : Nat → Option Addr} {C : Nat → Nat}
theorem NS.mono (h : NS w0 w q p V last gi gr gw IL Wl Rd A C) (hb : Below w.heap.size w w') : NS w0 w' q p V last gi gr gw IL Wl Rd A C :=
  ⟨below2 h.below hb, h.lq, h.lr, h.blk.mono hb, h.inv.mono hb, h.ow.mono hb, h.neq, h.grb.mono hb, fun v hv => (h.own v hv).mono hb, h.ne⟩
theorem NS.cell (h : NS w0 w q p V last gi gr gw IL Wl Rd A C) {v : Nat} (hv : v < V) : w.cell? ⟨gr, v, none⟩ = some (rwS A C Rd v) := h.grb.cell (by simp [hv])
theorem NS.free (h : NS w0 w q p V last gi gr gw IL Wl Rd A C) (v : Nat) : w.frozen? ⟨gr, v, none⟩ = false := h.grb.free v
theorem NS.setLast (h : NS w0 w q p V last gi gr gw IL Wl Rd A C) (l2 : Nat) : NS w0 (w.setCell ⟨q, 3, none⟩ (.int .i64 l2)) q p V l2 gi gr gw IL Wl Rd A C := by
  have k := KX.set (X := fun T => T = 143) (j := 3) (u := .int .i64 l2) h.blk rfl h.lq
  have hu : ∀ {T : TypeId}, T = 22 ∨ T = 32 ∨ T = 106 → ¬ T = 143 := fun hT => by rcases hT with rfl | rfl | rfl <;> decide
  have ho : ∀ {v : Value} {xs : List Int}, Own w w0.heap.size 22 .u64 v xs → Own (w.setCell ⟨q, 3, none⟩ (.int .i64 l2)) w0.heap.size 22 .u64 v xs := fun h2 => h2.other (own_neq h2 h.blk (by decide)) _
  exact ⟨h.below.setCell (show w0.heap.size ≤ q from h.lq) _, h.lq, h.lr, h.blk.set 3 _, ho h.inv, ho h.ow, h.neq, k.typ _ _ _ h.grb (hu (.inr (.inl rfl))), fun v hv => k.own (hu (.inr (.inr rfl))) (h.own v hv), h.ne⟩
/-- append to the rows at v, and the store. -/
theorem NS.push {r : Rw} {v : Nat} {a' : Option Addr} {c' : Nat} (h : NS w0 w q p V last gi gr gw IL Wl Rd A C) (hr : gtR r.val = v) (hv : v < V) (hg : Grew w w' (rwS A C Rd v) (.slice a' ((rwAt Rd v).length + 1) c'))
    (own' : OwnG rwL w' w0.heap.size 106 (.slice a' ((rwAt Rd v).length + 1) c') (rwAt Rd v ++ [r])) :
    NS w0 (w'.setCell ⟨gr, v, none⟩ (.slice a' ((rwAt Rd v).length + 1) c')) q p V last gi gr gw IL Wl (Rd ++ [r]) (updX A v a') (updX C v c') := by
  have hown := h.own v hv
  have kg := KX.grew (X := fun T => T = 106) hown hg rfl h.below.size
  have gr' := kg.typ _ _ _ h.grb (by decide)
  have ks := KX.set (X := fun T => T = 32) (j := v) (u := .slice a' ((rwAt Rd v).length + 1) c') gr' rfl h.lr
  have hs : ∀ u, u ≠ v → rwS (updX A v a') (updX C v c') (Rd ++ [r]) u = rwS A C Rd u := fun u hu => by
    unfold rwS
    rw [updX_other _ _ hu, updX_other _ _ hu, rwAt_snoc, if_neg (by rw [hr]; exact fun e => hu e.symm)]
  have hsv : rwS (updX A v a') (updX C v c') (Rd ++ [r]) v = .slice a' ((rwAt Rd v).length + 1) c' := by
    unfold rwS
    rw [updX_same, updX_same, rwAt_snoc, if_pos hr, List.length_append, List.length_singleton]
  have hlt : ∀ u, u < V → ∀ g, (rwS A C Rd u).ownBlock = some g → g < w.heap.size := fun u hu g he => ((h.own u hu).lt he).2
  have hb : Below w0.heap.size w0 (w'.setCell ⟨gr, v, none⟩ (.slice a' ((rwAt Rd v).length + 1) c')) := (hg.belowG h.below hown (Nat.le_refl _) h.below.size).setCell (show w0.heap.size ≤ gr from h.lr) _
  have hu64 : ∀ {u : Value} {xs : List Int}, Own w w0.heap.size 22 .u64 u xs → Own (w'.setCell ⟨gr, v, none⟩ (.slice a' ((rwAt Rd v).length + 1) c')) w0.heap.size 22 .u64 u xs := fun {u xs} h2 => by
    have h3 : Own w' w0.heap.size 22 .u64 u xs := hg.own h2 (by
      by_cases e : (rwS A C Rd v).ownBlock = u.ownBlock
      · left
        rcases h2.form with ⟨rfl, _⟩ | ⟨g, cap, cur, rfl, _, gb, _⟩
        · rfl
        · exact absurd e (fun e => hown.neq gb (by decide) (by rw [e]; rfl))
      · exact .inr e)
    exact h3.other (own_neq h3 gr' (by decide)) _
  refine ⟨hb, h.lq, h.lr, ks.typ _ _ _ (kg.typ _ _ _ h.blk (by decide)) (by decide), hu64 h.inv, hu64 h.ow, h.neq, ?_, fun u hu => ?_, fun u x hu hx hux g he => ?_⟩
  · have := gr'.set v (.slice a' ((rwAt Rd v).length + 1) c')
    have e : ((List.range V).map (rwS A C Rd)).toArray.setIfInBounds v (.slice a' ((rwAt Rd v).length + 1) c') = ((List.range V).map (rwS (updX A v a') (updX C v c') (Rd ++ [r]))).toArray := by
      apply Array.ext'
      rw [Array.toList_setIfInBounds]
      refine List.ext_getElem (by simp) fun i h1 h2 => ?_
      have hi : i < V := by simpa using h2
      rw [List.getElem_set]
      by_cases e : v = i
      · subst e
        rw [if_pos rfl]
        simp [hsv]
      · rw [if_neg e]
        simp [hs i (Ne.symm e)]
    rw [e] at this
    exact this
  · by_cases e : u = v
    · subst e
      rw [hsv, rwAt_snoc, if_pos hr]
      exact own'.other (own'.neq gr' (by decide)) _
    · rw [hs u e, rwAt_snoc, if_neg (by rw [hr]; exact fun e2 => e e2.symm)]
      have h2 := h.own u hu
      have h3 : OwnG rwL w' w0.heap.size 106 (rwS A C Rd u) (rwAt Rd u) := by
        rcases h2.form with ⟨e0, e1⟩ | ⟨g, cap, cur, e0, h1, hb2, h3, h4, h5, h6⟩
        · rw [e0, e1]; exact OwnG.nil _ _ _ _
        · rw [e0]
          exact OwnG.of_blk h1 (hg.blk hb2 (fun e3 => h.ne v u hv hu (Ne.symm e) g e3 (by rw [e0]; rfl))) h3 h4 h5 h6
      exact h3.other (h3.neq gr' (by decide)) _
  · by_cases e : u = v
    · subst e
      rw [hsv] at he
      rw [hs x (Ne.symm hux)]
      intro he2
      have hgl := hlt x hx g he2
      exact hg.ne g hgl (fun e3 => h.ne u x hu hx hux g e3 he2) he
    · rw [hs u e] at he
      have hgl := hlt u hu g he
      by_cases e2 : x = v
      · subst e2
        rw [hsv]
        exact hg.ne g hgl (h.ne u x hu hx hux g he)
      · rw [hs x e2]
        exact h.ne u x hu hx hux g he
/-- All rows have been laid. -/
theorem NS.done (h : NS w0 w q p V last gi gr gw IL Wl Rd A C) (hok : ∀ r ∈ Rd, LcOk w0 r.a ∧ LcOk w0 r.b ∧ LcOk w0 r.c) : SS w0 w q p V last gi gr gw IL (Rd.map Rw.val) Wl :=
  ⟨h.below, h.blk, h.inv, h.ow, h.neq, ⟨_, h.grb⟩, fun v hv => ⟨A v, C v, rwAt Rd v, h.cell hv, h.own v hv, fun r hr => hok r (List.mem_filter.1 hr).1, rwAt_val Rd v⟩⟩
end
end Go.Proofs.Ytlgjnidphldiiaa
