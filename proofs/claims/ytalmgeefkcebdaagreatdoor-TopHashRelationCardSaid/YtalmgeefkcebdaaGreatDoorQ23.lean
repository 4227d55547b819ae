/- Exhaustive search: a new search: the state under way. -/
import Derived.Test.YtalmgeefkcebdaaGreatDoorQ22
namespace Go.Proofs.YtalmgeefkcebdaaGreatDoor
open Go.ChangeShapes Go.WideShapes Go.ChangeAt Go.RowKit

/-- append of a slice, at a step of a region that draws. -/
theorem step_appX {P : Program} {w : World} {ops : Array Oper} {o : Oper} {a : Act} {K : Act → World → Prop} {Q : Exit → Act → World → Prop} {E' : Prop} {α : Type} (L : Lay α) (xs ys : List α) (hgd : o.guard = none) (s x : Operand) (t : TypeId)
    (ho : o.op = .call { callee := .builtin .append, args := #[s, x], argTypes := #[t, t] })
    (base : Nat) (E : TypeId) (z : Value) (bytes : Nat) (ht : P.underlying t = some (.slice E)) (hinfo : (P.info? E).map (fun i => (i.zero, i.size, i.bytes)) = some (some z, L.m, bytes)) (hz : z.cells.size = L.m) (h8 : bytes ≤ 128)
    (v : Value) (c n : Nat) (A : Option Addr) (hs : a.eval s = v) (hx : a.eval x = .slice A n c) (hn : n = ys.length) (hown : OwnG L w base E v xs) (hsl : SlG L w A ys) (hlen : xs.length + ys.length < 68719476736) (hbase : base ≤ w.heap.size)
    (h : ∀ v' w', OwnG L w' base E v' (xs ++ ys) → Grew w w' v v' → K (a.put o.dst v') w') : if Region.wanted o (yielded ops a.tmps) = true then Oper.wp P o a w K Q else E' := by
  subst hn
  rw [if_pos (by simp only [Region.wanted, hgd])]
  obtain ⟨v', w', hr, h2, h3, h4⟩ := run_appG (P := P) (ty := o.type) (c := c) ht hinfo hz h8 hown hsl hlen hbase
  unfold Oper.wp execOp
  simp only [ho, resolve, invoke, builtin, Sem.run_bind, Sem.run_pure, Result.andThen_ok, List.map_toArray, List.map_cons, List.map_nil, hs, hx, hr]
  exact h v' w' h2 (.of h3 h4)

def updX {α : Type} (f : Nat → α) (k : Nat) (x : α) : Nat → α := fun j => if j = k then x else f j
theorem updX_same {α : Type} (f : Nat → α) (k : Nat) (x : α) : updX f k x k = x := if_pos rfl
theorem updX_other {α : Type} (f : Nat → α) {k j : Nat} (x : α) (h : j ≠ k) : updX f k x j = f j := if_neg h
/-- The rows so far whose greatest variable is v. -/
def rwAt (Rd : List Rw) (v : Nat) : List Rw := Rd.filter fun r => gtR r.val == v
theorem rwAt_val (Rd : List Rw) (v : Nat) : (rwAt Rd v).map Rw.val = rowsAt (Rd.map Rw.val) v := by
  unfold rwAt rowsAt
  rw [List.filter_map]
  rfl
theorem rwAt_snoc (Rd : List Rw) (r : Rw) (v : Nat) : rwAt (Rd ++ [r]) v = if gtR r.val = v then rwAt Rd v ++ [r] else rwAt Rd v := by
  unfold rwAt
  rw [List.filter_append]
  by_cases h : gtR r.val = v
  · rw [if_pos h, List.filter_cons_of_pos (by simpa using h), List.filter_nil]
  · rw [if_neg h, List.filter_cons_of_neg (by simpa using h), List.filter_nil, List.append_nil]
/-- The slice of the rows at v. -/
def rwS (A : Nat → Option Addr) (C : Nat → Nat) (Rd : List Rw) (v : Nat) : Value := .slice (A v) (rwAt Rd v).length (C v)
/-- A search under way: the rows Rd have been laid. -/
structure NS (w0 w : World) (q p V last gi gr gw : Nat) (IL : List Int) (Wl : List Int) (Rd : List Rw) (A : Nat → Option Addr) (C : Nat → Nat) : Prop where
  below : Below w0.heap.size w0 w
  lq : w0.heap.size ≤ q
  lr : w0.heap.size ≤ gr
  blk : Blk w q #[.int .u64 p, .slice (some ⟨gi, 0, none⟩) p p, .slice (some ⟨gr, 0, none⟩) V V, .int .i64 last, .slice (some ⟨gw, 0, none⟩) V V] 170
  inv : Own w w0.heap.size 23 .u64 (.slice (some ⟨gi, 0, none⟩) p p) IL
  ow : Own w w0.heap.size 23 .u64 (.slice (some ⟨gw, 0, none⟩) V V) Wl
  neq : gi ≠ gw
  grb : Blk w gr ((List.range V).map (rwS A C Rd)).toArray 42
  own : ∀ v, v < V → OwnG rwL w w0.heap.size 97 (rwS A C Rd v) (rwAt Rd v)
  ne : ∀ u v, u < V → v < V → u ≠ v → ∀ g, (rwS A C Rd u).ownBlock = some g → (rwS A C Rd v).ownBlock ≠ some g
section
variable {w0 w w' : World} {q p V last gi gr gw : Nat} {IL Wl : List Int} {Rd : List Rw} {A : Nat → Option Addr} {C : Nat → Nat}
theorem NS.mono (h : NS w0 w q p V last gi gr gw IL Wl Rd A C) (hb : Below w.heap.size w w') : NS w0 w' q p V last gi gr gw IL Wl Rd A C :=
  ⟨below2 h.below hb, h.lq, h.lr, h.blk.mono hb, h.inv.mono hb, h.ow.mono hb, h.neq, h.grb.mono hb, fun v hv => (h.own v hv).mono hb, h.ne⟩
theorem NS.cell (h : NS w0 w q p V last gi gr gw IL Wl Rd A C) {v : Nat} (hv : v < V) : w.cell? ⟨gr, v, none⟩ = some (rwS A C Rd v) := h.grb.cell (by simp [hv])
theorem NS.setLast (h : NS w0 w q p V last gi gr gw IL Wl Rd A C) (l2 : Nat) : NS w0 (w.setCell ⟨q, 3, none⟩ (.int .i64 l2)) q p V l2 gi gr gw IL Wl Rd A C := by
  have k := KX.set (X := fun T => T = 170) (j := 3) (u := .int .i64 l2) h.blk rfl h.lq
  have hu : ∀ {T : TypeId}, T = 23 ∨ T = 42 ∨ T = 97 → ¬ T = 170 := fun hT => by rcases hT with rfl | rfl | rfl <;> decide
  have ho : ∀ {v : Value} {xs : List Int}, Own w w0.heap.size 23 .u64 v xs → Own (w.setCell ⟨q, 3, none⟩ (.int .i64 l2)) w0.heap.size 23 .u64 v xs := fun h2 => h2.other (own_neq h2 h.blk (by decide)) _
  exact ⟨h.below.setCell (show w0.heap.size ≤ q from h.lq) _, h.lq, h.lr, h.blk.set 3 _, ho h.inv, ho h.ow, h.neq, k.typ _ _ _ h.grb (hu (.inr (.inl rfl))), fun v hv => k.own (hu (.inr (.inr rfl))) (h.own v hv), h.ne⟩
/-- append to the rows at v, and the store. -/
theorem NS.push {r : Rw} {v : Nat} {a' : Option Addr} {c' : Nat} (h : NS w0 w q p V last gi gr gw IL Wl Rd A C) (hr : gtR r.val = v) (hv : v < V) (hg : Grew w w' (rwS A C Rd v) (.slice a' ((rwAt Rd v).length + 1) c'))
    (own' : OwnG rwL w' w0.heap.size 97 (.slice a' ((rwAt Rd v).length + 1) c') (rwAt Rd v ++ [r])) :
    NS w0 (w'.setCell ⟨gr, v, none⟩ (.slice a' ((rwAt Rd v).length + 1) c')) q p V last gi gr gw IL Wl (Rd ++ [r]) (updX A v a') (updX C v c') := by
  have hown := h.own v hv
  have kg := KX.grew (X := fun T => T = 97) hown hg rfl h.below.size
  have gr' := kg.typ _ _ _ h.grb (by decide)
  have ks := KX.set (X := fun T => T = 42) (j := v) (u := .slice a' ((rwAt Rd v).length + 1) c') gr' rfl h.lr
  have hs : ∀ u, u ≠ v → rwS (updX A v a') (updX C v c') (Rd ++ [r]) u = rwS A C Rd u := fun u hu => by
    unfold rwS
    rw [updX_other _ _ hu, updX_other _ _ hu, rwAt_snoc, if_neg (by rw [hr]; exact fun e => hu e.symm)]
  have hsv : rwS (updX A v a') (updX C v c') (Rd ++ [r]) v = .slice a' ((rwAt Rd v).length + 1) c' := by
    unfold rwS
    rw [updX_same, updX_same, rwAt_snoc, if_pos hr, List.length_append, List.length_singleton]
  have hlt : ∀ u, u < V → ∀ g, (rwS A C Rd u).ownBlock = some g → g < w.heap.size := fun u hu g he => ((h.own u hu).lt he).2
  have hb : Below w0.heap.size w0 (w'.setCell ⟨gr, v, none⟩ (.slice a' ((rwAt Rd v).length + 1) c')) := (hg.belowG h.below hown (Nat.le_refl _) h.below.size).setCell (show w0.heap.size ≤ gr from h.lr) _
  have hu64 : ∀ {u : Value} {xs : List Int}, Own w w0.heap.size 23 .u64 u xs → Own (w'.setCell ⟨gr, v, none⟩ (.slice a' ((rwAt Rd v).length + 1) c')) w0.heap.size 23 .u64 u xs := fun {u xs} h2 => by
    have h3 : Own w' w0.heap.size 23 .u64 u xs := hg.own h2 (by
      by_cases e : (rwS A C Rd v).ownBlock = u.ownBlock
      · left
        rcases h2.form with ⟨rfl, _⟩ | ⟨g, cap, cur, rfl, _, gb, _⟩
        · rfl
        · exact absurd e (fun e => hown.neq gb (by decide) (by rw [e]; rfl))
      · exact .inr e)
    exact h3.other (own_neq h3 gr' (by decide)) _
  refine ⟨hb, h.lq, h.lr, ks.typ _ _ _ (kg.typ _ _ _ h.blk (by decide)) (by decide), hu64 h.inv, hu64 h.ow, h.neq, ?_, fun u hu => ?_, fun u x hu hx hux g he => ?_⟩
  · have := gr'.set v (.slice a' ((rwAt Rd v).length + 1) c')
    have e : ((List.range V).map (rwS A C Rd)).toArray.setIfInBounds v (.slice a' ((rwAt Rd v).length + 1) c') = ((List.range V).map (rwS (updX A v a') (updX C v c') (Rd ++ [r]))).toArray := by
      apply Array.ext'
      rw [Array.toList_setIfInBounds]
      refine List.ext_getElem (by simp) fun i h1 h2 => ?_
      have hi : i < V := by simpa using h2
      rw [List.getElem_set]
      by_cases e : v = i
      · subst e
        rw [if_pos rfl]
        simp [hsv]
      · rw [if_neg e]
        simp [hs i (Ne.symm e)]
    rw [e] at this
    exact this
  · by_cases e : u = v
    · subst e
      rw [hsv, rwAt_snoc, if_pos hr]
      exact own'.other (own'.neq gr' (by decide)) _
    · rw [hs u e, rwAt_snoc, if_neg (by rw [hr]; exact fun e2 => e e2.symm)]
      have h2 := h.own u hu
      have h3 : OwnG rwL w' w0.heap.size 97 (rwS A C Rd u) (rwAt Rd u) := by
        rcases h2.form with ⟨e0, e1⟩ | ⟨g, cap, cur, e0, h1, hb2, h3, h4, h5, h6⟩
        · rw [e0, e1]; exact OwnG.nil _ _ _ _
        · rw [e0]
          exact OwnG.of_blk h1 (hg.blk hb2 (fun e3 => h.ne v u hv hu (Ne.symm e) g e3 (by rw [e0]; rfl))) h3 h4 h5 h6
      exact h3.other (h3.neq gr' (by decide)) _
  · by_cases e : u = v
    · subst e
      rw [hsv] at he
      rw [hs x (Ne.symm hux)]
      intro he2
      have hgl := hlt x hx g he2
      exact hg.ne g hgl (fun e3 => h.ne u x hu hx hux g e3 he2) he
    · rw [hs u e] at he
      have hgl := hlt u hu g he
      by_cases e2 : x = v
      · subst e2
        rw [hsv]
        exact hg.ne g hgl (h.ne u x hu hx hux g he)
      · rw [hs x e2]
        exact h.ne u x hu hx hux g he
/-- All rows have been laid. -/
theorem NS.done (h : NS w0 w q p V last gi gr gw IL Wl Rd A C) (hok : ∀ r ∈ Rd, LcOk w0 r.a ∧ LcOk w0 r.b ∧ LcOk w0 r.c) : SS w0 w q p V last gi gr gw IL (Rd.map Rw.val) Wl :=
  ⟨h.below, h.blk, h.inv, h.ow, h.neq, ⟨_, h.grb⟩, fun v hv => ⟨A v, C v, rwAt Rd v, h.cell hv, h.own v hv, fun r hr => hok r (List.mem_filter.1 hr).1, rwAt_val Rd v⟩⟩
end
end Go.Proofs.YtalmgeefkcebdaaGreatDoor

/- Exhaustive search: a new search. -/
namespace Go.Proofs.YtalmgeefkcebdaaGreatDoor
open Go.ChangeShapes Go.WideShapes Go.ChangeAt Go.RowKit

theorem Tryz.infoRs : (Tryz.prog.info? 42).map (fun i => (i.zero, i.size, i.bytes)) = some (some (.slice none 0 0), 1, 24) := by kernel_rfl
theorem rws_made (V : Nat) : madeCells #[.slice none 0 0] V = ((List.range V).map (rwS (fun _ => none) (fun _ => 0) [])).toArray := by
  apply Array.ext'
  refine List.ext_getElem (by simp [madeCells]) fun i h1 h2 => ?_
  simp only [madeCells, List.size_toArray, List.length_cons, List.length_nil, Nat.zero_add, Nat.mod_one, Array.toList_map, List.getElem_map]
  rfl
theorem own_made {w : World} {base b cap : Nat} {E : TypeId} {k : IntKind} {z : Int} (g : Blk w b (madeCells #[.int k z] cap) E) (hb : base ≤ b) (hm : cap ≤ maxLen) : Own w base E k (.slice (some ⟨b, 0, none⟩) cap cap) (List.replicate cap z) := by
  have h : (madeCells #[.int k z] cap) = (List.replicate cap (Value.int k z)).toArray := by
    unfold madeCells
    apply Array.ext'
    rw [Array.toList_map]
    refine List.ext_getElem (by simp) fun i h1 h2 => ?_
    have e : i % 1 = 0 := Nat.mod_one i
    simp [e]
  have := Own.of_blk (k := k) (xs := List.replicate cap z) (cap := cap) hb g (by simp) hm (by rw [h]; simp) (by rw [h]; simp)
  simpa using this
/-- A block of its own that makes. -/
def IsMd (n : Nat) (cs : Array Value) (T : TypeId) (V : Nat) (v : Value) (w : World) : Prop := ∃ b, v = .slice (some ⟨b, 0, none⟩) V V ∧ n ≤ b ∧ Blk w b cs T
theorem IsMd.mono {n : Nat} {cs : Array Value} {T : TypeId} {V : Nat} {v : Value} {w w' : World} (h : IsMd n cs T V v w) (hb : Below w.heap.size w w') : IsMd n cs T V v w' := by
  obtain ⟨b, h1, h2, h3⟩ := h
  exact ⟨b, h1, h2, h3.mono hb⟩
theorem rU_md {P : Program} (W : World) (p : Later) (fr : Bool) (cs : Array Value) (T : TypeId) (V : Nat) :
    Rel.rUpon P (later W p) fr (IsMd W.heap.size cs T V) (.ok (.value (.slice (some ⟨(later W p).heap.size, 0, none⟩) V V)) ((later W p).alloc (.cells cs T))) :=
  ⟨(Below.refl _ _).alloc (Nat.le_refl _) _, ⟨_, rfl, (below_later W p).size, Blk.new _ _ _⟩, fun _ => ⟨_, rfl, Nat.le_refl _, by simp⟩⟩
/-- The list of inverses. -/
def IsInv (n p : Nat) (v : Value) (w : World) : Prop := ∃ g L, v = .slice (some ⟨g, 0, none⟩) p p ∧ Own w n 23 .u64 (.slice (some ⟨g, 0, none⟩) p p) L ∧ L.length = p ∧ InvL p p L
theorem IsInv.mono {n p : Nat} {v : Value} {w w' : World} (h : IsInv n p v w) (hb : Below w.heap.size w w') : IsInv n p v w' := by
  obtain ⟨g, L, h1, h2, h3, h4⟩ := h
  exact ⟨g, L, h1, h2.mono hb, h3, h4⟩
theorem rU_inv {f : FuncId} {args : Array Value} {W : World} {q : Later} {p : Nat} (h : Calls Tryz.prog f args (later W q) fun en w' => ∃ g L, en = .returned (.slice (some ⟨g, 0, none⟩) p p) ∧ Own w' (later W q).heap.size 23 .u64 (.slice (some ⟨g, 0, none⟩) p p) L ∧ L.length = p ∧ InvL p p L ∧ Below (later W q).heap.size (later W q) w') :
    Rel.rUpon Tryz.prog (later W q) true (IsInv W.heap.size p) (.ok (.enter f args) (later W q)) :=
  ⟨rfl, h.mono fun _ _ ⟨g, L, he, ho, hl, hi, hb⟩ => ⟨_, he, hb, ⟨g, L, rfl, ho.low (below_later W q).size, hl, hi⟩, fun _ => ⟨g, rfl, (ho.lt (b := g) rfl).1, (ho.lt (b := g) rfl).2⟩⟩⟩

theorem lin_mem {p hi : Int} {x : Lin} (h : LinIn p 0 hi x) : ∀ t ∈ x, 0 ≤ t.1 ∧ t.1 < hi := fun t ht => ⟨by
  obtain ⟨i, hi, rfl⟩ := List.mem_iff_getElem.1 ht
  have := asc_get x 0 h.2.1 i hi
  rw [List.getD_eq_getElem?_getD, List.getElem?_eq_getElem hi] at this
  exact this, h.2.2 t ht⟩
theorem gtL_lt {p : Int} {V : Nat} {x : Lin} (h : LinIn p 0 V x) (h0 : 0 < V) : gtL x < V := by
  by_cases e : x = []
  · subst e; exact h0
  · obtain ⟨y, t, _, _, _, h3, h4⟩ := lin_last h e
    omega
theorem Grew.cell' {w w' : World} {v v' u : Value} {a : Addr} (h : Grew w w' v v') (hc : w.cell? a = some u) (hn : v.ownBlock ≠ some a.block) : w'.cell? a = some u := by
  rw [h.by_.cell_far a (cell_lt hc) (fun e => hn e.symm)]; exact hc
/-- What newSearch answers. -/
def RetN (w : World) (p V : Nat) (R : List Row3) (en : Ending) (w' : World) : Prop :=
  ∃ q last gi gr gw IL Wl, en = .returned (.pointer (some ⟨q, 0, none⟩)) ∧ SS w w' q p V last gi gr gw IL R Wl ∧ AllW Wl ∧ Wl.length = V ∧ Wl.take 1 = [1] ∧ InvL p p IL ∧ IL.length = p ∧ (∀ r ∈ R, gtR r ≤ last) ∧ last < V

set_option maxRecDepth 10000 in
set_option maxHeartbeats 16000000 in
theorem newSearch_any (p V : Nat) (pub : Int) (ra : Option Addr) (Rs : List Rw) (rc : Nat) (w : World) (hR : RowsP w ra rc Rs) (hv : vld (p : Int) = true) (h257 : p ≤ 257) (h0 : 0 < V) (hV : V ≤ 65536) (hok : ∀ r ∈ Rs, RowOk p V r.val) (hn : Rs.length ≤ 16384) :
    Calls Tryz.prog 40 #[.agg #[.int .u64 p, .int .i64 pub, .int .i64 V, .slice ra Rs.length rc]] w (RetN w p V (Rs.map Rw.val)) := by
  have hp := vld_pos hv
  have cI := fun W => inverses_any p W hv h257
  have m1 := fun W => run_mkG lcL (P := Tryz.prog) (t := 168) (e := 42) Tryz.underlying168 Tryz.infoRs (by decide) (N := (V : Int)) (C := (V : Int)) V V rfl rfl (Nat.le_refl _) (by omega) W
  have e1 : V * lcL.m = V := Nat.mul_one V
  simp only [e1] at m1
  clear e1
  have m2 := fun W => run_mk (P := Tryz.prog) (t := 52) (e := 23) Tryz.underlying52 Tryz.infoU64 (by decide) V V (Nat.le_refl _) (by omega) W
  have hVI : (V : Int) ≤ 65536 := by omega
  have hVI0 : (0 : Int) < V := by omega
  obtain ⟨n, hnl⟩ : ∃ n, Rs.length = n := ⟨_, rfl⟩
  rw [hnl] at hn
  have hnI : (n : Int) ≤ 16384 := by omega
  rw [hnl]
  replace hok := hide hok
  replace hnl := hide hnl
  replace hv := hide hv
  go_enter Tryz.func40, Tryz.ntmps40
  go_wp2_with fail
  refine name_world fun w3 hN => ?_
  have g0 : Blk w3 w.heap.size #[.int .u64 p, .int .i64 pub, .int .i64 V, .slice ra n rc] 44 := by rw [hN]; exact Blk.newAt rfl
  have hB : Below w.heap.size w w3 := by rw [hN]; exact (Below.refl _ _).alloc (Nat.le_refl _) _
  clear hN
  have k0 := cell_later' (g0.cell (j := 0) (v := .int .u64 p) rfl); have k2 := cell_later' (g0.cell (j := 2) (v := .int .i64 V) rfl)
  refine Rel.wp_region_mix 11 [4, 10] [(4, IsInv w3.heap.size p), (7, IsMd w3.heap.size (madeCells #[.slice none 0 0] V) 42 V), (10, IsMd w3.heap.size (madeCells #[.int .u64 0] V) 23 V)] Tryz.mixed (by kernel_rfl) (by kernel_rfl) ?_ ?_
  rotate_left
  simp only [List.take_succ_cons, List.take_zero, List.drop_succ_cons, List.drop_zero, List.map_cons, List.map_nil]
  repeat (first | (refine Rel.wpA_b (by rfl) ?_) | (refine Rel.wpA_step (by rfl) fun K hK => ?_; go_simp; first | (refine hK _ ?_; clear hK K) | (apply Exists.intro; refine ⟨fun _ => ?_, hK _ ?_⟩; (first | fail); clear hK K)))
  refine Rel.wpA_nil ?_
  rotate_left
  · intro z hz v u u' h1 h2
    simp only [List.mem_cons, List.not_mem_nil, or_false] at hz
    rcases hz with rfl | rfl | rfl
    · exact IsInv.mono h1 h2
    · exact IsMd.mono h1 h2
    · exact IsMd.mono h1 h2
  refine Rel.wpB_step _ rfl rfl (fun p' hc => ?_) (fun v4 => ?_)
  · go_simp
    exact rU_inv (cI _)
  refine Rel.wpB_step _ rfl rfl (fun p' hc => ?_) (fun v7 => ?_)
  · go_simp
    exact rU_md _ _ _ _ _ _
  refine Rel.wpB_step _ rfl rfl (fun p' hc => ?_) (fun v10 => ?_)
  · go_simp
    exact rU_md _ _ _ _ _ _
  refine Rel.wpB_nil ?_
  intro p' hctx hfr
  simp only [List.nil_append, List.cons_append, List.mem_cons, List.not_mem_nil, or_false, forall_eq_or_imp, forall_eq] at hctx
  obtain ⟨⟨gi, IL, rfl, oI, lI, iI⟩, ⟨gr, rfl, lr, gr3⟩, ⟨gw, rfl, lw, gw3⟩⟩ := hctx
  have hb4 : Below w3.heap.size w3 (later w3 p') := below_later _ _
  have hne : gi ≠ gw := fun e => by
    simp [Rel.blkOf] at hfr
    exact hfr e
  clear hfr k0 k2 m1 m2 cI
  generalize later w3 p' = w4 at *
  have hz3 := g0.lt
  replace g0 := g0.mono hb4
  have hz := hB.size
  have hz4 := hb4.size
  replace hB := below2 hB hb4
  have ow4 : Own w4 w.heap.size 23 .u64 (.slice (some ⟨gw, 0, none⟩) V V) (List.replicate V 0) := own_made gw3 (by omega) (by simp only [maxLen]; omega)
  replace oI := oI.low hz
  have hlr : w.heap.size ≤ gr := by omega
  have fF := fun o => (ow4.alloc o).free 0
  have fC := fun o => (ow4.alloc o).cell (j := 0) h0
  have kC0 := fun o => (g0.alloc o).cell (j := 3) (v := .slice ra n rc) rfl
  clear hb4
  go_wp2_with fail
  refine name_world fun w5 hN => ?_
  have NS0 : NS w w5 w4.heap.size p V 0 gi gr gw IL ((List.replicate V 0).set 0 1) [] (fun _ => none) (fun _ => 0) := by
    rw [hN]
    have b1 := fun o => (Below.refl w4.heap.size w4).alloc (Nat.le_refl _) o
    have k := fun (o : Obj) => KX.set (X := XU8) (w := w4.alloc o) (j := 0) (u := .int .u64 1) (gw3.mono (b1 o)) rfl (show w.heap.size ≤ gw by omega)
    have ks := k (.cells #[.int .u64 p, .slice (some ⟨gi, 0, none⟩) p p, .slice (some ⟨gr, 0, none⟩) V V, .int .i64 0, .slice (some ⟨gw, 0, none⟩) V V] 170)
    refine ⟨((hB.alloc (by omega) _).trans ks.below), by omega, hlr, ks.typ _ _ _ (Blk.new _ _ _) (by unfold XU8; decide), ?_, (ow4.alloc _).set 0 1, hne, ?_, fun v hv => ?_, fun u v _ _ _ g he => ?_⟩
    · exact (oI.alloc _).other (by intro e; injection e with e; exact hne e) _
    · rw [← rws_made]
      exact ks.typ _ _ _ (gr3.alloc _) (by unfold XU8; decide)
    · exact OwnG.nil _ _ _ _
    · cases he
  have g5 : Blk w5 w.heap.size #[.int .u64 p, .int .i64 pub, .int .i64 V, .slice ra n rc] 44 := by
    rw [hN]
    exact (g0.alloc _).other (by intro e; have := g0.lt; omega) _ _
  clear hN fF fC kC0 gr3 gw3 ow4 oI g0 lr lw
  clear hz3 hz4 hz hlr
  have hAW : AllW ((List.replicate V (0 : Int)).set 0 1) := fun u hu => by
    rcases List.mem_or_eq_of_mem_set hu with hu | hu
    · rw [List.eq_of_mem_replicate hu]; omega
    · subst hu; omega
  have hWl : ((List.replicate V (0 : Int)).set 0 1).length = V := by rw [List.length_set, List.length_replicate]
  have hW1 : ((List.replicate V (0 : Int)).set 0 1).take 1 = [1] := by
    obtain ⟨m, rfl⟩ : ∃ m, V = m + 1 := ⟨V - 1, by omega⟩
    rfl
  obtain ⟨Wl, hWd⟩ : ∃ Wl, Wl = (List.replicate V (0 : Int)).set 0 1 := ⟨_, rfl⟩
  rw [← hWd] at NS0 hAW hWl hW1
  obtain ⟨q, hq⟩ : ∃ q, w4.heap.size = q := ⟨_, rfl⟩
  rw [hq] at NS0
  rw [hq]
  clear hWd hq hB
  replace hAW := hide hAW
  replace hWl := hide hWl
  replace hW1 := hide hW1
  replace iI := hide iI
  replace lI := hide lI
  go_loopw [28] (fun t28 wr => ∃ (i last : Nat) (A : Nat → Option Addr) (C : Nat → Nat), i ≤ n ∧ t28 = .int .i64 i ∧ NS w wr q p V last gi gr gw IL Wl (Rs.take i) A C ∧ Blk wr w.heap.size #[.int .u64 p, .int .i64 pub, .int .i64 V, .slice ra n rc] 44 ∧ last < V ∧ Hid (∀ r ∈ Rs.take i, gtR r.val ≤ last)) (fun t28 _ => n - (intOf t28).toNat)
  case atStart => exact ⟨0, 0, fun _ => none, fun _ => 0, Nat.zero_le _, rfl, NS0, g5, h0, hide fun r hr => by simp at hr⟩
  case round =>
    clear NS0 g5
    obtain ⟨i, last, A, C, hi, rfl, D, g5, hlV, hlast⟩ := hrel
    by_cases hlt : i < n
    · have hltI : (i : Int) < n := by omega
      have hi0 : (0 : Int) ≤ i := by omega
      have hiR : i < Rs.length := by have := hnl.out; omega
      obtain ⟨b, off, rfl, hbl, hc⟩ := hR.s (by omega)
      obtain ⟨d0, d1, d2⟩ := hc i hiR
      have hmem := getD_mem' hiR default
      have hok1 := hok.out _ hmem
      have hlc := hR.ok _ hmem
      have htk : Rs.take (i + 1) = Rs.take i ++ [Rs.getD i default] := take_succ_getD _ _ hiR
      obtain ⟨r, hr⟩ : ∃ r, r = Rs.getD i default := ⟨_, rfl⟩
      rw [← hr] at d0 d1 d2 hok1 hlc htk
      replace hr := hide hr
      replace d0 := cell_below D.below d0
      replace d1 := cell_below D.below d1
      replace d2 := cell_below D.below d2
      clear hc hmem
      have hnb : ∀ v, v < V → (rwS A C (Rs.take i) v).ownBlock ≠ some wr.heap.size := fun v hv e => absurd ((D.own v hv).lt e).2 (Nat.lt_irrefl _)
      obtain ⟨⟨ra1, ra2⟩, ⟨rb1, rb2⟩, ⟨rc1, rc2⟩⟩ := hok1
      obtain ⟨la, lb, lc⟩ := hlc
      have cA := fun W (h : Below w.heap.size w W) => greatest_any r.a V W (la.mono h) (lin_mem ra1) (Nat.le_trans ra2 (by decide))
      have cB := fun W (h : Below w.heap.size w W) => greatest_any r.b V W (lb.mono h) (lin_mem rb1) (Nat.le_trans rb2 (by decide))
      have cC := fun W (h : Below w.heap.size w W) => greatest_any r.c V W (lc.mono h) (lin_mem rc1) (Nat.le_trans rc2 (by decide))
      have ga : gtL r.a.l < V := gtL_lt ra1 h0
      have gb : gtL r.b.l < V := gtL_lt rb1 h0
      have gc : gtL r.c.l < V := gtL_lt rc1 h0
      have hgR : gtR r.val = max (max (gtL r.a.l) (gtL r.b.l)) (gtL r.c.l) := rfl
      generalize gtL r.a.l = xa at *
      generalize gtL r.b.l = xb at *
      generalize gtL r.c.l = xc at *
      clear ra1 ra2 rb1 rb2 rc1 rc2
      replace hgR := hide hgR
      go_wp2_with fail
      refine name_world fun w6 hN => ?_
      have gT : Blk w6 wr.heap.size #[.slice r.a.ad r.a.l.length r.a.cap, .slice r.b.ad r.b.l.length r.b.cap, .slice r.c.ad r.c.l.length r.c.cap] 97 := by rw [hN]; exact Blk.newAt rfl
      have hb6 : Below wr.heap.size wr w6 := by rw [hN]; exact (Below.refl _ _).alloc (Nat.le_refl _) _
      replace D := D.mono hb6
      replace g5 := g5.mono hb6
      clear hN d0 d1 d2 hb6
      refine Rel.region_any Tryz.mixed fun w7 hb7 => ?_
      replace gT := gT.mono hb7
      replace D := D.mono hb7
      replace g5 := g5.mono hb7
      clear hb7
      refine Rel.any_held (fun W => W.cell? ⟨wr.heap.size, 0, none⟩ = some (.slice r.a.ad r.a.l.length r.a.cap) ∧ W.cell? ⟨wr.heap.size, 1, none⟩ = some (.slice r.b.ad r.b.l.length r.b.cap) ∧ W.cell? ⟨wr.heap.size, 2, none⟩ = some (.slice r.c.ad r.c.l.length r.c.cap)) 10 ⟨gT.cell (j := 0) rfl, gT.cell (j := 1) rfl, gT.cell (j := 2) rfl⟩ fun hH0 => ?_
      refine Rel.tk (v := ?_) 0 ?_ ?_
      rotate_left
      · (intro W hSw; (try dsimp only at hSw); go_simp; try with_reducible rfl)
      try simp only [Act.put, List.setIfInBounds_toArray, List.set_cons_zero, List.set_cons_succ]
      refine Rel.tk (v := ?_) 1 ?_ ?_
      rotate_left
      · (intro W hSw; (try dsimp only at hSw); go_simp; try with_reducible rfl)
      try simp only [Act.put, List.setIfInBounds_toArray, List.set_cons_zero, List.set_cons_succ]
      refine Rel.tk (v := ?_) 3 ?_ ?_
      rotate_left
      · (intro W hSw; (try dsimp only at hSw); go_simp; try with_reducible rfl)
      try simp only [Act.put, List.setIfInBounds_toArray, List.set_cons_zero, List.set_cons_succ]
      refine Rel.tk (v := ?_) 4 ?_ ?_
      rotate_left
      · (intro W hSw; (try dsimp only at hSw); go_simp; try with_reducible rfl)
      try simp only [Act.put, List.setIfInBounds_toArray, List.set_cons_zero, List.set_cons_succ]
      refine Rel.tk (v := ?_) 6 ?_ ?_
      rotate_left
      · (intro W hSw; (try dsimp only at hSw); go_simp; try with_reducible rfl)
      try simp only [Act.put, List.setIfInBounds_toArray, List.set_cons_zero, List.set_cons_succ]
      refine Rel.tk (v := ?_) 7 ?_ ?_
      rotate_left
      · (intro W hSw; (try dsimp only at hSw); go_simp; try with_reducible rfl)
      try simp only [Act.put, List.setIfInBounds_toArray, List.set_cons_zero, List.set_cons_succ]
      refine Rel.heldNext 2 rfl (by kernel_rfl) fun K hK => ?_
      go_simp
      refine (cA w7 D.below).mono ?_
      rintro e w8 ⟨rfl, hb8⟩
      replace gT := gT.mono hb8
      replace D := D.mono hb8
      replace g5 := g5.mono hb8
      clear hb8
      refine hK.out _ _ ⟨gT.cell (j := 0) rfl, gT.cell (j := 1) rfl, gT.cell (j := 2) rfl⟩ (fun hH1 => ?_)
      clear hK K
      try simp only [Act.put, List.setIfInBounds_toArray, List.set_cons_zero, List.set_cons_succ]
      refine Rel.heldNext 5 rfl (by kernel_rfl) fun K hK => ?_
      go_simp
      refine (cB w8 D.below).mono ?_
      rintro e w9 ⟨rfl, hb9⟩
      replace gT := gT.mono hb9
      replace D := D.mono hb9
      replace g5 := g5.mono hb9
      clear hb9
      refine hK.out _ _ ⟨gT.cell (j := 0) rfl, gT.cell (j := 1) rfl, gT.cell (j := 2) rfl⟩ (fun hH2 => ?_)
      clear hK K
      try simp only [Act.put, List.setIfInBounds_toArray, List.set_cons_zero, List.set_cons_succ]
      refine Rel.heldNext 8 rfl (by kernel_rfl) fun K hK => ?_
      go_simp
      refine (cC w9 D.below).mono ?_
      rintro e wA ⟨rfl, hbA⟩
      replace gT := gT.mono hbA
      replace D := D.mono hbA
      replace g5 := g5.mono hbA
      clear hbA
      refine hK.out _ _ ⟨gT.cell (j := 0) rfl, gT.cell (j := 1) rfl, gT.cell (j := 2) rfl⟩ (fun hH3 => ?_)
      clear hK K
      try simp only [Act.put, List.setIfInBounds_toArray, List.set_cons_zero, List.set_cons_succ]
      clear cA cB cC
      refine Rel.tk (v := ?_) 9 ?_ ?_
      rotate_left
      · (intro W hSw; (try dsimp only at hSw); go_simp; try with_reducible rfl)
      try simp only [Act.put, List.setIfInBounds_toArray, List.set_cons_zero, List.set_cons_succ]
      obtain ⟨v, hvd⟩ : ∃ v, v = gtR r.val := ⟨_, rfl⟩
      have hmx : (if (if xa < xb then (xb : Int) else xa) < xc then (xc : Int) else if xa < xb then (xb : Int) else xa) = (v : Int) := by
        rw [hvd, hgR.out]
        repeat' split
        all_goals omega
      have hvV : v < V := by rw [hvd, hgR.out]; omega
      rw [hmx]
      replace hvd := hide hvd
      clear hmx hgR ga gb gc
      refine Rel.heldLast 10 rfl (by kernel_rfl) rfl (by kernel_rfl) fun K hK => ?_
      go_simp
      refine hK.out _ _ ?_
      clear hK K hH0 hH1 hH2 hH3
      have hvI : (v : Int) < V := by omega
      have hvI0 : (0 : Int) ≤ v := by omega
      obtain ⟨m, hm⟩ : ∃ m, m = (rwAt (Rs.take i) v).length := ⟨_, rfl⟩
      have hml : m ≤ 16384 := by
        have h1 : (rwAt (Rs.take i) v).length ≤ (Rs.take i).length := List.length_filter_le _ _
        rw [List.length_take] at h1
        omega
      have hrv : rwS A C (Rs.take i) v = .slice (A v) m (C v) := by unfold rwS; rw [hm]
      replace hm := hide hm
      go_wp2_with fail
      refine Rel.region_any Tryz.mixed fun wB hbB => ?_
      replace gT := gT.mono hbB
      replace D := D.mono hbB
      replace g5 := g5.mono hbB
      clear hbB
      have cv := D.cell hvV
      rw [hrv] at cv
      refine Rel.any_held (fun W => (W.cell? ⟨q, 2, none⟩ = some (.slice (some ⟨gr, 0, none⟩) V V) ∧ W.cell? ⟨gr, v, none⟩ = some (.slice (A v) m (C v))) ∧ W.cell? ⟨wr.heap.size, 0, none⟩ = some (.slice r.a.ad r.a.l.length r.a.cap) ∧ W.cell? ⟨wr.heap.size, 1, none⟩ = some (.slice r.b.ad r.b.l.length r.b.cap) ∧ W.cell? ⟨wr.heap.size, 2, none⟩ = some (.slice r.c.ad r.c.l.length r.c.cap)) 16 ⟨⟨D.blk.cell (j := 2) rfl, cv⟩, gT.cell (j := 0) rfl, gT.cell (j := 1) rfl, gT.cell (j := 2) rfl⟩ fun hH0 => ?_
      refine Rel.tk (v := ?_) 0 ?_ ?_
      rotate_left
      · (intro W hSw; (try dsimp only at hSw); go_simp; try with_reducible rfl)
      try simp only [Act.put, List.setIfInBounds_toArray, List.set_cons_zero, List.set_cons_succ]
      refine Rel.tk (v := ?_) 1 ?_ ?_
      rotate_left
      · (intro W hSw; (try dsimp only at hSw); go_simp; try with_reducible rfl)
      try simp only [Act.put, List.setIfInBounds_toArray, List.set_cons_zero, List.set_cons_succ]
      refine Rel.tk (v := ?_) 2 ?_ ?_
      rotate_left
      · (intro W hSw; (try dsimp only at hSw); go_simp; try with_reducible rfl)
      try simp only [Act.put, List.setIfInBounds_toArray, List.set_cons_zero, List.set_cons_succ]
      refine Rel.tk (v := ?_) 3 ?_ ?_
      rotate_left
      · (intro W hSw; (try dsimp only at hSw); go_simp; try with_reducible rfl)
      try simp only [Act.put, List.setIfInBounds_toArray, List.set_cons_zero, List.set_cons_succ]
      refine Rel.tk (v := ?_) 4 ?_ ?_
      rotate_left
      · (intro W hSw; (try dsimp only at hSw); go_simp; try with_reducible rfl)
      try simp only [Act.put, List.setIfInBounds_toArray, List.set_cons_zero, List.set_cons_succ]
      refine Rel.tk (v := ?_) 5 ?_ ?_
      rotate_left
      · (intro W hSw; (try dsimp only at hSw); go_simp; try with_reducible rfl)
      try simp only [Act.put, List.setIfInBounds_toArray, List.set_cons_zero, List.set_cons_succ]
      refine Rel.tk (v := ?_) 6 ?_ ?_
      rotate_left
      · (intro W hSw; (try dsimp only at hSw); go_simp; try with_reducible rfl)
      try simp only [Act.put, List.setIfInBounds_toArray, List.set_cons_zero, List.set_cons_succ]
      refine Rel.tk (v := ?_) 7 ?_ ?_
      rotate_left
      · (intro W hSw; (try dsimp only at hSw); go_simp; try with_reducible rfl)
      try simp only [Act.put, List.setIfInBounds_toArray, List.set_cons_zero, List.set_cons_succ]
      refine Rel.tk (v := ?_) 8 ?_ ?_
      rotate_left
      · (intro W hSw; (try dsimp only at hSw); go_simp; try with_reducible rfl)
      try simp only [Act.put, List.setIfInBounds_toArray, List.set_cons_zero, List.set_cons_succ]
      refine Rel.tk (v := ?_) 9 ?_ ?_
      rotate_left
      · (intro W hSw; (try dsimp only at hSw); go_simp; try with_reducible rfl)
      try simp only [Act.put, List.setIfInBounds_toArray, List.set_cons_zero, List.set_cons_succ]
      refine Rel.tk (v := ?_) 10 ?_ ?_
      rotate_left
      · (intro W hSw; (try dsimp only at hSw); go_simp; try with_reducible rfl)
      try simp only [Act.put, List.setIfInBounds_toArray, List.set_cons_zero, List.set_cons_succ]
      refine Rel.tk (v := ?_) 11 ?_ ?_
      rotate_left
      · (intro W hSw; (try dsimp only at hSw); go_simp; try with_reducible rfl)
      try simp only [Act.put, List.setIfInBounds_toArray, List.set_cons_zero, List.set_cons_succ]
      refine Rel.tk (v := ?_) 12 ?_ ?_
      rotate_left
      · (intro W hSw; (try dsimp only at hSw); go_simp; try with_reducible rfl)
      try simp only [Act.put, List.setIfInBounds_toArray, List.set_cons_zero, List.set_cons_succ]
      refine Rel.heldNext 13 rfl (by kernel_rfl) fun K hK => ?_
      go_simp
      have bA := (Below.refl wB.heap.size wB).alloc (Nat.le_refl _) (.cells #[.slice r.a.ad r.a.l.length r.a.cap, .slice r.b.ad r.b.l.length r.b.cap, .slice r.c.ad r.c.l.length r.c.cap] 97)
      replace gT := gT.mono bA
      replace D := D.mono bA
      replace g5 := g5.mono bA
      replace cv := cell_below bA cv
      refine hK.out _ _ ⟨⟨D.blk.cell (j := 2) rfl, cv⟩, gT.cell (j := 0) rfl, gT.cell (j := 1) rfl, gT.cell (j := 2) rfl⟩ (fun hH1 => ?_)
      clear hK K
      try simp only [Act.put, List.setIfInBounds_toArray, List.set_cons_zero, List.set_cons_succ]
      have ownv := D.own v hvV
      have hnv := hnb v hvV
      rw [hrv] at ownv hnv
      refine Rel.heldNext 14 rfl (by kernel_rfl) fun K hK => ?_
      refine step_appX rwL (rwAt (Rs.take i) v) [r] rfl _ _ 42 rfl w.heap.size 97 (.agg #[.slice none 0 0, .slice none 0 0, .slice none 0 0]) 72 Tryz.underlying42 Tryz.infoRw rfl (by decide) _ 1 1 (some ⟨wB.heap.size, 0, none⟩) rfl rfl rfl ownv (SlG.one (Blk.new _ _ _) rfl) (by rw [← hm.out]; simp; omega) D.below.size ?_
      intro v' wD own' hg'
      obtain ⟨a', c', ve', _⟩ := own'.sl
      simp only [List.length_append, List.length_cons, List.length_nil, Nat.zero_add] at ve'
      have DD := D.push (r := r) (v := v) (a' := a') (c' := c') hvd.out.symm hvV (by rw [hrv, ← ve']; exact hg') (by rw [← ve']; exact own')
      rw [← hm.out] at ve' DD
      rw [← htk] at DD
      subst ve'
      have gTD := hg'.blk gT hnv
      have g5D := hg'.blk g5 (ownv.neq g5 (by decide))
      have gqD := hg'.blk D.blk (ownv.neq D.blk (by decide))
      have grD := hg'.blk D.grb (ownv.neq D.grb (by decide))
      have cvD := hg'.cell' cv (ownv.neq D.grb (by decide))
      have ffD := grD.free v
      refine hK.out _ _ ⟨⟨gqD.cell (j := 2) rfl, cvD⟩, gTD.cell (j := 0) rfl, gTD.cell (j := 1) rfl, gTD.cell (j := 2) rfl⟩ (fun hH2 => ?_)
      clear hK K
      try simp only [Act.put, List.setIfInBounds_toArray, List.set_cons_zero, List.set_cons_succ]
      refine Rel.tk (v := ?_) 15 ?_ ?_
      rotate_left
      · (intro W hSw; (try dsimp only at hSw); go_simp; try with_reducible rfl)
      try simp only [Act.put, List.setIfInBounds_toArray, List.set_cons_zero, List.set_cons_succ]
      refine Rel.heldLast 16 rfl (by kernel_rfl) rfl (by kernel_rfl) fun K hK => ?_
      go_simp
      refine hK.out _ _ ?_
      clear hK K hH0 hH1 hH2 cvD ffD grD gqD gTD own' hg' ownv hnv cv bA
      obtain ⟨l2, hl2⟩ : ∃ l2, l2 = max last v := ⟨_, rfl⟩
      have hmx : max (last : Int) (v : Int) = (l2 : Int) := by omega
      have hl2V : l2 < V := by omega
      have hlN : Hid (∀ x ∈ Rs.take (i + 1), gtR x.val ≤ l2) := hide fun x hx => by
        rw [htk] at hx
        rcases List.mem_append.1 hx with hx | hx
        · have := hlast.out x hx; omega
        · rw [List.mem_singleton] at hx; subst hx
          have := hvd.out; omega
      replace hl2 := hide hl2
      replace htk := hide htk
      have DE := DD.setLast l2
      have q3 := DD.blk.cell (j := 3) rfl
      have q3f := DD.blk.free 3
      have g5E := (g5D.other (b := w.heap.size) (c := gr) (by intro e; subst e; exact absurd (blk_type g5 D.grb) (by decide)) v (.slice a' (m + 1) c')).other (c := q) (by intro e; subst e; exact absurd (blk_type g5 D.blk) (by decide)) 3 (.int .i64 l2)
      clear D DD g5D
      go_wp2
      go_roundw
      case rel => exact ⟨i + 1, l2, _, _, by omega, by go_num, DE, g5E, hl2V, hlN⟩
      case measure => simp [intOf]; omega
    · obtain rfl : i = n := by omega
      have hall : Rs.take i = Rs := List.take_of_length_le (by rw [hnl.out]; exact Nat.le_refl _)
      rw [hall] at D hlast
      have hS := D.done (fun r hr => hR.ok r hr)
      have hfinal : RetN w p V (Rs.map Rw.val) (.returned (.pointer (some ⟨q, 0, none⟩))) wr := ⟨q, last, gi, gr, gw, IL, Wl, rfl, hS, hAW.out, hWl.out, hW1.out, iI.out, lI.out, fun r hr => by
        obtain ⟨x, hx, rfl⟩ := List.mem_map.1 hr
        exact hlast.out x hx, hlV⟩
      clear hall
      go_wp2
      exact bodyPost_ret (v := .pointer (some ⟨q, 0, none⟩)) (by simp [results, Tryz.results40, go_sem]) rfl hfinal
end Go.Proofs.YtalmgeefkcebdaaGreatDoor

/- Exhaustive search: Count. -/
namespace Go.Proofs.YtalmgeefkcebdaaGreatDoor
open Go.ChangeShapes Go.WideShapes Go.ChangeAt Go.RowKit

theorem asc_of : ∀ (x : Lin) (lo : Int), (0 < x.length → lo ≤ (x.getD 0 (0, 0)).1) → (∀ i, i + 1 < x.length → (x.getD i (0, 0)).1 < (x.getD (i + 1) (0, 0)).1) → Asc lo x
  | [], _, _, _ => trivial
  | t :: x, lo, h0, h => ⟨h0 (by simp), asc_of x (t.1 + 1) (fun hl => by
    have h1 := h 0 (by simp; omega)
    have h2 : t.1 < (x.getD 0 (0, 0)).1 := by simpa using h1
    omega) fun i hi => by have := h (i + 1) (by simp; omega); simpa using this⟩
theorem lin_of {p n : Int} {x : Lin} (h : linOk p n x = true) (hw : LinW x) : LinIn p 0 n x := by
  have h := of_decide_eq_true h
  refine ⟨fun t ht => ?_, asc_of x 0 (fun hl => (h 0 hl).1.1) (fun i hi => ?_), fun t ht => ?_⟩
  · obtain ⟨i, hi, rfl⟩ := List.mem_iff_getElem.1 ht
    obtain ⟨_, _, h3, h4⟩ := h i hi
    have h2 := wf_u64 (hw _ ht).2
    rw [List.getD_eq_getElem?_getD, List.getElem?_eq_getElem hi] at h3 h4
    simp only [Option.getD_some] at h3 h4
    omega
  · have := (h (i + 1) hi).2.1 (by omega)
    rwa [Nat.add_sub_cancel] at this
  · obtain ⟨i, hi, rfl⟩ := List.mem_iff_getElem.1 ht
    have h1 := (h i hi).1.2
    rw [List.getD_eq_getElem?_getD, List.getElem?_eq_getElem hi] at h1
    exact h1
theorem row_of {p V : Nat} {r : Rw} {w : World} (hV : V ≤ 65536) (h : rowOk p V r = true) (hl : LcOk w r.a ∧ LcOk w r.b ∧ LcOk w r.c) : RowOk p V r.val := by
  unfold rowOk at h
  rw [Bool.and_eq_true, Bool.and_eq_true] at h
  obtain ⟨⟨h1, h2⟩, h3⟩ := h
  have k : ∀ x : Lc, linOk p V x.l = true → LcOk w x → LinIn p 0 V x.l ∧ x.l.length ≤ 1000000 := fun x hx hc => by
    have h4 := lin_of hx hc.wl
    refine ⟨h4, ?_⟩
    have := h4.len (by omega)
    omega
  exact ⟨k _ h1 hl.1, k _ h2 hl.2.1, k _ h3 hl.2.2⟩
theorem rows_of {p V : Nat} {pub : Int} {Rs : List Rw} {w : World} {ra : Option Addr} {rc : Nat} (h : tblOk p pub V Rs = true) (hR : RowsP w ra rc Rs) : ∀ r ∈ Rs, RowOk p V r.val := fun r hr => by
  obtain ⟨i, hi, rfl⟩ := List.mem_iff_getElem.1 hr
  have h2 := (of_decide_eq_true h).2.2 i hi
  rw [List.getD_eq_getElem?_getD, List.getElem?_eq_getElem hi] at h2
  obtain ⟨_, _, _, h3, _⟩ := tbl_bd h
  exact row_of (by omega) h2 (hR.ok _ hr)

def cntOk (p pub vars : Int) (Rs : List Rw) (front : List Int) (most : Int) : Bool := tblOk p pub vars Rs && decide ((front.length : Int) < vars) && decide (0 ≤ most) && allLt p front
/-- What Count answers: the number, the error. -/
def cntN (p pub vars : Int) (Rs : List Rw) (front : List Int) (most : Int) : Int := if cntOk p pub vars Rs front most then (if 257 < p then 0 else totN p.toNat (Rs.map Rw.val) vars.toNat front most) else 0
def cntE (p pub vars : Int) (Rs : List Rw) (front : List Int) (most : Int) : Int := if cntOk p pub vars Rs front most then (if 257 < p then 7 else 0) else 1
/-- The pair that Count answers. -/
def RetC (n e : Int) (w : World) (en : Ending) (w' : World) : Prop := en = .returned (.tuple #[.int .i64 n, .int .i64 e]) ∧ Below w.heap.size w w'
theorem RetC.no {p pub vars : Int} {Rs : List Rw} {front : List Int} {most : Int} {w w' : World} (h : cntOk p pub vars Rs front most = false) (hb : Below w.heap.size w w') : RetC (cntN p pub vars Rs front most) (cntE p pub vars Rs front most) w (.returned (.tuple #[.int .i64 0, .int .i64 1])) w' :=
  ⟨by unfold cntN cntE; rw [h]; rfl, hb⟩

set_option maxRecDepth 10000 in
set_option maxHeartbeats 16000000 in
theorem Count_any (p pub vars : Int) (ra : Option Addr) (R : List Rw) (rc : Nat) (fa : Option Addr) (fc : Nat) (front : List Int) (most : Int) (w : World) (hR : RowsP w ra rc R) (sF : Sl w .u64 fa front) (hF : AllW front) (hfl : (front.length : Int) ≤ 9223372036854775807) (hm : -9223372036854775808 ≤ most ∧ most ≤ 9223372036854775807) :
    Calls Tryz.prog 13 #[.agg #[.int .u64 p, .int .i64 pub, .int .i64 vars, .slice ra R.length rc], .slice fa front.length fc, .int .i64 most] w (RetC (cntN p pub vars R front most) (cntE p pub vars R front most) w) := by
  have cT := fun W h => tValid_any p pub vars ra R rc W h
  obtain ⟨n, hnl⟩ : ∃ n, front.length = n := ⟨_, rfl⟩
  rw [hnl] at hfl
  rw [hnl]
  obtain ⟨hm1, hm2⟩ := hm
  by_cases hT : tblOk p pub vars R = true
  · obtain ⟨hv, hpub, hpv, hvl, hRl⟩ := tbl_bd hT
    have hp := vld_pos hv
    rw [hT] at cT
    obtain ⟨P, rfl⟩ : ∃ P : Nat, p = (P : Int) := ⟨p.toNat, by omega⟩
    obtain ⟨V, rfl⟩ : ∃ V : Nat, vars = (V : Int) := ⟨vars.toNat, by omega⟩
    have hVI : (V : Int) ≤ 65536 := by omega
    have hwV : IntKind.i64.wrap ((V : Int) - 1) = (V : Int) - 1 := by rw [IntKind.wrap_i64]; omega
    by_cases hl : n < V
    · have hlI : (n : Int) < V := by omega
      have hlN : ¬ ((n : Int) > (V : Int) - 1) := by omega
      by_cases h0 : 0 ≤ most
      · have h0N : ¬ most < 0 := by omega
        have hrow := rows_of hT hR
        have hno : ∀ k, k < n → (P : Int) ≤ front.getD k 0 → cntOk P pub V R front most = false := fun k hk h => by
          unfold cntOk
          rw [allLt_stop (by omega) h, Bool.and_false]
        have hyes : (∀ k, k < n → front.getD k 0 < P) → cntOk P pub V R front most = true := fun h => by
          unfold cntOk
          rw [allLt_all (by rw [hnl]; exact h), hT, hnl, decide_eq_true hlI, decide_eq_true h0]
          rfl
        have cS := fun W h (h257 : P ≤ 257) => newSearch_any P V pub ra R rc W h hv h257 (by omega) (by omega) hrow hRl
        have hRv : ∀ r ∈ R.map Rw.val, RowOk P V r := fun r hr => by
          obtain ⟨x, hx, rfl⟩ := List.mem_map.1 hr
          exact hrow x hx
        replace hnl := hide hnl
        replace hrow := hide hrow
        replace hno := hide hno
        replace hyes := hide hyes
        replace hv := hide hv
        replace hRl := hide hRl
        replace hRv := hide hRv
        clear hT
        go_enter Tryz.func13, Tryz.ntmps13
        go_wp2_with fail
        refine name_calls fun W hN => ?_
        have g0 : Blk W w.heap.size #[.int .u64 P, .int .i64 pub, .int .i64 V, .slice ra R.length rc] 44 := by rw [hN]; exact Blk.newAt rfl
        have hB : Below w.heap.size w W := by rw [hN]; exact (Below.refl _ _).alloc (Nat.le_refl _) _
        clear hN
        refine (cT W (hR.mono hB)).mono ?_
        rintro e w1 ⟨rfl, hb1⟩
        replace hB := below2 hB hb1
        replace g0 := g0.mono hb1
        clear hb1 cT
        have k0 := g0.cell (j := 0) (v := .int .u64 P) rfl; have k2 := g0.cell (j := 2) (v := .int .i64 V) rfl
        go_wp2_with fail
        clear k0 k2
        go_loopw [28] (fun t28 wr => ∃ i : Nat, i ≤ n ∧ t28 = .int .i64 i ∧ Below w.heap.size w wr ∧ Blk wr w.heap.size #[.int .u64 P, .int .i64 pub, .int .i64 V, .slice ra R.length rc] 44 ∧ Hid (∀ k, k < i → front.getD k 0 < P)) (fun t28 _ => n - (intOf t28).toNat)
        case atStart => exact ⟨0, Nat.zero_le _, rfl, hB, g0, hide fun k hk => absurd hk (by omega)⟩
        case round =>
          clear g0 hB
          obtain ⟨i, hi, rfl, hB, g0, hk⟩ := hrel
          have k0 := g0.cell (j := 0) (v := .int .u64 P) rfl
          by_cases hlt : i < n
          · have hltI : (i : Int) < n := by omega
            have hif : i < front.length := by have := hnl.out; omega
            obtain ⟨b, off, rfl, _, hfc⟩ := (sF.mono hB) (by omega)
            have hc := hfc i hif
            have hxr := hF.get hif
            by_cases hx : (P : Int) ≤ front.getD i 0
            · have hno2 := hno.out i hlt hx
              generalize front.getD i 0 = x at *
              clear hfc
              go_wp2
              exact bodyPost_ret (v := .tuple #[.int .i64 0, .int .i64 1]) (by simp [results, Tryz.results13, go_sem]) rfl (RetC.no hno2 hB)
            · have hkn : Hid (∀ k, k < i + 1 → front.getD k 0 < P) := hide fun k hk2 => by
                by_cases e : k = i
                · subst e; omega
                · exact hk.out k (by omega)
              generalize front.getD i 0 = x at *
              clear hfc
              go_wp2
              go_roundw
              case rel => exact ⟨i + 1, by omega, by go_num, hB, g0, hkn⟩
              case measure => simp [intOf]; omega
          · obtain rfl : i = n := by omega
            have hok := hyes.out hk.out
            by_cases h257 : P ≤ 257
            · have h257N : ¬ (257 : Int) < P := by omega
              have hres : Hid (cntN P pub V R front most = totN P (R.map Rw.val) V front most ∧ cntE P pub V R front most = 0) := hide (by
                unfold cntN cntE
                rw [hok, if_pos rfl, if_pos rfl, if_neg h257N, if_neg h257N, Int.toNat_natCast, Int.toNat_natCast]
                exact ⟨rfl, rfl⟩)
              have hfr : ∀ x ∈ front, 0 ≤ x ∧ x < P := fun x hx => by
                obtain ⟨k, hk2, rfl⟩ := List.mem_iff_getElem.1 hx
                have := hk.out k (by have := hnl.out; omega)
                rw [List.getD_eq_getElem?_getD, List.getElem?_eq_getElem hk2] at this
                exact ⟨(hF _ hx).1, this⟩
              have hRl2 : (R.map Rw.val).length ≤ 1000000 := by rw [List.length_map]; have := hRl.out; omega
              have k2 := g0.cell (j := 1) (v := .int .i64 pub) rfl; have k3 := g0.cell (j := 2) (v := .int .i64 V) rfl; have k4 := g0.cell (j := 3) (v := .slice ra R.length rc) rfl
              replace hfr := hide hfr
              clear hok
              go_wp2_with fail
              refine (cS wr (hR.mono hB) h257).mono ?_
              rintro en w3 ⟨q, last, gi, gr, gw, IL, Wl, rfl, D, hA, hWl, hW1, hI, hIl, hlast, hlV⟩
              have hfa : 0 < front.length → ∀ b off, fa = some ⟨b, off, none⟩ → b ≠ gw := fun hf b off e => by
                obtain ⟨b2, off2, e2, h3, _⟩ := sF hf
                rw [e] at e2
                cases e2
                have := (D.ow.lt (b := gw) rfl).1
                have := hB.size
                omega
              have cW := with_any (w0 := wr) D hA hWl hW1 (by omega) hv.out h257 hRv.out hRl2 hI hIl hlast hlV fa fc front most ((sF.mono hB).mono D.below) hfr.out (by have := hnl.out; omega) hfa ⟨h0, hm2⟩
              rw [hnl.out] at cW
              have g3 := g0.mono D.below
              have hB3 := below2 hB D.below
              have hbz := hB.size
              clear cS D hA hWl hW1 hI hIl hlast hlV hfa k2 k3 k4 k0 hRl2
              go_wp2_with fail
              refine cW.mono ?_
              rintro en w4 ⟨rfl, Wl', D4, _⟩
              have hfinal : RetC (cntN P pub V R front most) (cntE P pub V R front most) w (.returned (.tuple #[.int .i64 (totN P (R.map Rw.val) V front most), .int .i64 0])) w4 := ⟨by rw [hres.out.1, hres.out.2], below2 hB D4.below⟩
              clear cW D4 hres
              generalize totN P (R.map Rw.val) V front most = z at *
              go_wp2
              exact bodyPost_ret (v := .tuple #[.int .i64 z, .int .i64 0]) (by simp [results, Tryz.results13, go_sem]) rfl hfinal
            · have h257N : (257 : Int) < P := by omega
              have hfinal : RetC (cntN P pub V R front most) (cntE P pub V R front most) w (.returned (.tuple #[.int .i64 0, .int .i64 7])) wr := ⟨by unfold cntN cntE; rw [hok, if_pos rfl, if_pos rfl, if_pos h257N, if_pos h257N], hB⟩
              clear hok
              go_wp2
              exact bodyPost_ret (v := .tuple #[.int .i64 0, .int .i64 7]) (by simp [results, Tryz.results13, go_sem]) rfl hfinal
      · have h0N : most < 0 := by omega
        have hF := hide (show cntOk P pub V R front most = false by unfold cntOk; rw [decide_eq_false h0, Bool.and_false, Bool.false_and])
        clear hT hv
        go_enter Tryz.func13, Tryz.ntmps13
        go_wp2_with fail
        refine name_calls fun W hN => ?_
        have g0 : Blk W w.heap.size #[.int .u64 P, .int .i64 pub, .int .i64 V, .slice ra R.length rc] 44 := by rw [hN]; exact Blk.newAt rfl
        have hB : Below w.heap.size w W := by rw [hN]; exact (Below.refl _ _).alloc (Nat.le_refl _) _
        clear hN
        refine (cT W (hR.mono hB)).mono ?_
        rintro e w1 ⟨rfl, hb1⟩
        replace hB := below2 hB hb1
        replace g0 := g0.mono hb1
        clear hb1 cT
        have k2 := g0.cell (j := 2) (v := .int .i64 V) rfl
        go_wp2
        exact bodyPost_ret (v := .tuple #[.int .i64 0, .int .i64 1]) (by simp [results, Tryz.results13, go_sem]) rfl (RetC.no hF.out hB)
    · have hlN : (n : Int) > (V : Int) - 1 := by omega
      have hF := hide (show cntOk P pub V R front most = false by unfold cntOk; rw [hnl, decide_eq_false (by omega), Bool.and_false, Bool.false_and, Bool.false_and])
      clear hT hv
      replace hnl := hide hnl
      go_enter Tryz.func13, Tryz.ntmps13
      go_wp2_with fail
      refine name_calls fun W hN => ?_
      have g0 : Blk W w.heap.size #[.int .u64 P, .int .i64 pub, .int .i64 V, .slice ra R.length rc] 44 := by rw [hN]; exact Blk.newAt rfl
      have hB : Below w.heap.size w W := by rw [hN]; exact (Below.refl _ _).alloc (Nat.le_refl _) _
      clear hN
      refine (cT W (hR.mono hB)).mono ?_
      rintro e w1 ⟨rfl, hb1⟩
      replace hB := below2 hB hb1
      replace g0 := g0.mono hb1
      clear hb1 cT
      have k2 := g0.cell (j := 2) (v := .int .i64 V) rfl
      go_wp2
      exact bodyPost_ret (v := .tuple #[.int .i64 0, .int .i64 1]) (by simp [results, Tryz.results13, go_sem]) rfl (RetC.no hF.out hB)
  · have hT2 : tblOk p pub vars R = false := by simpa using hT
    have hF := hide (show cntOk p pub vars R front most = false by unfold cntOk; rw [hT2, Bool.false_and, Bool.false_and, Bool.false_and])
    rw [hT2] at cT
    clear hT hT2
    replace hnl := hide hnl
    go_enter Tryz.func13, Tryz.ntmps13
    go_wp2_with fail
    refine name_calls fun W hN => ?_
    have hB : Below w.heap.size w W := by rw [hN]; exact (Below.refl _ _).alloc (Nat.le_refl _) _
    clear hN
    refine (cT W (hR.mono hB)).mono ?_
    rintro e w1 ⟨rfl, hb1⟩
    replace hB := below2 hB hb1
    clear hb1 cT
    go_wp2
    exact bodyPost_ret (v := .tuple #[.int .i64 0, .int .i64 1]) (by simp [results, Tryz.results13, go_sem]) rfl (RetC.no hF.out hB)
end Go.Proofs.YtalmgeefkcebdaaGreatDoor

