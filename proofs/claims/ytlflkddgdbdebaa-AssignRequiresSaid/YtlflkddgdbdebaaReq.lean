/- The closure of AssignRequires: a circuit with one row more. -/
import Derived.Test.YtlflkddgdbdebaaCirL
import Derived.Test.YtlflkddgdbdebaaCircH
namespace Go.Proofs.Ytlflkddgdbdebaa
open Go.RowKit

/-- A new slice without elements, of no capacity; a new slice of one element. -/
def NewEC (n : Nat) (E : TypeId) (v : Value) (w : World) : Prop := ∃ b, v = .slice (some ⟨b, 0, none⟩) 0 0 ∧ n ≤ b ∧ Blk w b #[] E
theorem NewEC.keep {n : Nat} {E : TypeId} {v : Value} {w w' : World} (h : NewEC n E v w) (hb : Below w.heap.size w w') : NewEC n E v w' := by
  obtain ⟨b, h1, h2, h3⟩ := h
  exact ⟨b, h1, h2, h3.mono hb⟩
theorem Grew.belowG {α : Type} {L : Lay α} {B base : Nat} {a w w' : World} {E : TypeId} {v v' : Value} {xs : List α} (h : Grew w w' v v') (hB : Below B a w) (hown : OwnG L w base E v xs) (h1 : B ≤ base) (h2 : B ≤ w.heap.size) : Below B a w' :=
  hB.grown h.by_ h2 fun _ hb => Nat.le_trans h1 (hown.lt hb).1
theorem rU_newe {P : Program} (W : World) (p : Later) (E : TypeId) :
    Rel.rUpon P (later W p) false (NewEC W.heap.size E) (.ok (.value (.slice (some ⟨(later W p).heap.size, 0, none⟩) 0 0)) ((later W p).alloc (.cells #[] E))) :=
  ⟨(Below.refl _ _).alloc (Nat.le_refl _) _, ⟨_, rfl, (below_later W p).size, Blk.new _ _ _⟩, fun h => by cases h⟩
def NewBC (cs : Array Value) (E : TypeId) (v : Value) (w : World) : Prop := ∃ b, v = .slice (some ⟨b, 0, none⟩) 1 1 ∧ Blk w b cs E
theorem NewBC.keep {cs : Array Value} {E : TypeId} {v : Value} {w w' : World} (h : NewBC cs E v w) (hb : Below w.heap.size w w') : NewBC cs E v w' := by
  obtain ⟨b, h1, h3⟩ := h
  exact ⟨b, h1, h3.mono hb⟩
theorem rU_newb {P : Program} (W : World) (p : Later) (cs : Array Value) (E : TypeId) :
    Rel.rUpon P (later W p) false (NewBC cs E) (.ok (.value (.slice (some ⟨(later W p).heap.size, 0, none⟩) 1 1)) ((later W p).alloc (.cells cs E))) :=
  ⟨(Below.refl _ _).alloc (Nat.le_refl _) _, ⟨_, rfl, Blk.new _ _ _⟩, fun h => by cases h⟩
theorem rU_appG0 {P : Program} {W0 : World} {p : Later} {o : Oper} {a : Act} {α : Type} (L : Lay α) (s x : Operand) (t : TypeId)
    (ho : o.op = .call { callee := .builtin .append, args := #[s, x], argTypes := #[t, t] }) {E : TypeId} {z : Value} {bytes : Nat}
    (ht : P.underlying t = some (.slice E)) (hinfo : (P.info? E).map (fun i => (i.zero, i.size, i.bytes)) = some (some z, L.m, bytes)) (hz : z.cells.size = L.m) (h8 : bytes ≤ 128)
    {ys : List α} {c : Nat} {A : Option Addr} {v : Value} (hv : NewEC W0.heap.size E v (later W0 p)) (hs : a.eval s = v) (hx : a.eval x = .slice A ys.length c) (hsl : SlG L (later W0 p) A ys) (hlen : ys.length < 68719476736) :
    Rel.rUpon P (later W0 p) false (fun v w => OwnG L w W0.heap.size E v ys) ((execOp a.eval o).run P (later W0 p)) := by
  obtain ⟨g, rfl, n4, g4⟩ := hv
  have hown : OwnG L (later W0 p) W0.heap.size E (.slice (some ⟨g, 0, none⟩) 0 0) [] := OwnG.of_blk n4 g4 (Nat.le_refl _) (by simp) (by simp) (by simp)
  obtain ⟨v', w', hr, h2, h3⟩ := run_appG0 (P := P) (ty := o.type) (c := c) ht hinfo hz h8 hown hsl hlen (below_later W0 p).size
  unfold execOp
  simp only [ho, resolve, invoke, builtin, Sem.run_bind, Sem.run_pure, Result.andThen_ok, List.map_toArray, List.map_cons, List.map_nil, hs, hx, hr]
  exact ⟨h3, h2, fun h => by cases h⟩

theorem OwnG.sl_of {α : Type} {L : Lay α} {w : World} {base n c : Nat} {E : TypeId} {ad : Option Addr} {xs : List α} (h : OwnG L w base E (.slice ad n c) xs) : SlG L w ad xs := by
  obtain ⟨a, c, e, hs, _⟩ := h.sl
  cases e
  exact hs
/-- The third combination of the row: none, or one of a block of its own. -/
def ZOk (w : World) (n : Int) (B : Nat) (z : Lc) : Prop := (n = 0 ∧ z = ⟨none, 0, []⟩) ∨ (¬ n = 0 ∧ ∃ b, B ≤ b ∧ z = ⟨some ⟨b, 0, none⟩, 1, [(0, n)]⟩ ∧ LcOk w z)
theorem ZOk.mono {w w' : World} {n : Int} {B : Nat} {z : Lc} (h : ZOk w n B z) (hb : Below w.heap.size w w') : ZOk w' n B z := by
  rcases h with h | ⟨h1, b, h2, h3, h4⟩
  · exact .inl h
  · exact .inr ⟨h1, b, h2, h3, h4.mono hb⟩
theorem ZOk.kp {w w' : World} {n : Int} {B c : Nat} {z : Lc} (h : ZOk w n B z) (hk : Kp c w w') (hc : c < B) : ZOk w' n B z := by
  rcases h with h | ⟨h1, b, h2, rfl, h4⟩
  · exact .inl h
  · exact .inr ⟨h1, b, h2, rfl, hk.lc h4 (by omega)⟩
theorem ZOk.ok {w : World} {n : Int} {B : Nat} {z : Lc} (h : ZOk w n B z) : LcOk w z ∧ z.l = (if n = 0 then [] else [(0, n)]) := by
  rcases h with ⟨h1, rfl⟩ | ⟨h1, b, _, rfl, h4⟩
  · exact ⟨LcOk.nil _, by rw [if_pos h1]⟩
  · exact ⟨h4, by rw [if_neg h1]⟩

/-- What the closure returns. -/
def RetRow (w : World) (n v p pub vars : Int) (R : List Rw) (sec : Int) (ha : Option Addr) (H : List Hn) (hc : Nat) (e : Ending) (w' : World) : Prop := ∃ ra' rc' r, e = .returned (.agg #[.int .u64 p, .int .i64 pub, .int .i64 vars, .slice ra' (R.length + 1) rc', .int .i64 sec, .slice ha H.length hc]) ∧
      RowsP w' ra' rc' (R ++ [r]) ∧ r.a.l = [(v, 1)] ∧ r.b.l = [(0, 1)] ∧ r.c.l = (if n = 0 then [] else [(0, n)]) ∧ Below w.heap.size w w'
theorem RetRow.ret {w w7 w' : World} {n v p pub vars : Int} {R : List Rw} {sec : Int} {ha : Option Addr} {H : List Hn} {hc x y c7 B : Nat} {a7 : Option Addr} {z : Lc}
    (hR : ∀ q ∈ R, LcOk w' q.a ∧ LcOk w' q.b ∧ LcOk w' q.c) (hx : LcOk w' ⟨some ⟨x, 0, none⟩, 1, [(v, 1)]⟩) (hy : LcOk w' ⟨some ⟨y, 0, none⟩, 1, [(0, 1)]⟩) (hz : ZOk w' n B z)
    (own : OwnG rwL w' w7.heap.size 51 (.slice a7 (R.length + 1) c7) (R ++ [⟨⟨some ⟨x, 0, none⟩, 1, [(v, 1)]⟩, ⟨some ⟨y, 0, none⟩, 1, [(0, 1)]⟩, z⟩])) (hB : Below w.heap.size w w') :
    RetRow w n v p pub vars R sec ha H hc (.returned (.agg #[.int .u64 p, .int .i64 pub, .int .i64 vars, .slice a7 (R.length + 1) c7, .int .i64 sec, .slice ha H.length hc])) w' := by
  obtain ⟨a, c, e, hs, h1, h2, h3⟩ := own.sl
  rw [List.length_append, List.length_cons, List.length_nil] at e
  simp only [Value.slice.injEq] at e
  obtain ⟨rfl, _, rfl⟩ := e
  refine ⟨_, _, _, rfl, RowsP.of_slg hs (fun q hq => ?_) h1 h2 h3, rfl, rfl, hz.ok.2, hB⟩
  rcases List.mem_append.1 hq with h | h
  · exact hR q h
  · rw [List.mem_singleton] at h
    subst h
    exact ⟨hx, hy, hz.ok.1⟩

set_option maxRecDepth 10000 in
set_option maxHeartbeats 4000000 in
theorem row22_any (n v : Int) (bC bV : Nat) (p pub vars : Int) (ra : Option Addr) (R : List Rw) (rc : Nat) (sec : Int) (ha : Option Addr) (H : List Hn) (hc : Nat) (w : World) (gC : Blk w bC #[.int .u64 p, .int .i64 pub, .int .i64 vars, .slice ra R.length rc, .int .i64 sec, .slice ha H.length hc] 28) (gV : Blk w bV #[.int .i64 v] 3)
    (hR : RowsP w ra rc R) (hRl : R.length ≤ 400) (hv : (Lit.int .i64 v).wf = true) (hn : 0 ≤ n ∧ n < 18446744073709551616) :
    Calls Try.prog 22 #[.int .u64 n, .pointer (some ⟨bC, 0, none⟩), .pointer (some ⟨bV, 0, none⟩)] w (RetRow w n v p pub vars R sec ha H hc) := by
  have hR0 := hR
  have k0 := gC.cell (j := 0) (v := .int .u64 p) rfl; have k1 := gC.cell (j := 1) (v := .int .i64 pub) rfl; have k2 := gC.cell (j := 2) (v := .int .i64 vars) rfl; have k3 := gC.cell (j := 3) (v := .slice ra R.length rc) rfl; have k4 := gC.cell (j := 4) (v := .int .i64 sec) rfl; have k5 := gC.cell (j := 5) (v := .slice ha H.length hc) rfl
  have c0 := gV.cell (j := 0) (v := .int .i64 v) rfl
  have hltC := gC.lt
  have hltV := gV.lt
  go_enter Try.func22, Try.ntmps22
  go_wp2_with fail
  refine name_calls fun W hN => ?_
  have gX : Blk W w.heap.size #[.int .u64 0, .int .i64 0, .int .i64 0, .slice none 0 0, .int .i64 0, .slice none 0 0] 28 := by rw [hN]; exact (Blk.newAt rfl).alloc _
  have gD : Blk W (w.heap.size + 1) #[.int .u64 p, .int .i64 pub, .int .i64 vars, .slice ra R.length rc, .int .i64 sec, .slice ha H.length hc] 28 := by rw [hN]; exact Blk.newAt (by simp)
  have hB : Below w.heap.size w W := by rw [hN]; exact ((Below.refl _ _).alloc (Nat.le_refl _) _).alloc (by simp) _
  have hWs : W.heap.size = w.heap.size + 2 := by rw [hN]; simp
  clear hN
  refine (variable_any v W hv).mono ?_
  rintro e w1 ⟨x, rfl, lx, hx, hb1⟩
  have lw1 := hb1.size
  replace gX := gX.mono hb1
  replace gD := gD.mono hb1
  replace hB := below2 hB hb1
  clear hb1
  go_wp2_with fail
  refine (variable_any 0 w1 (by decide)).mono ?_
  rintro e w2 ⟨y, rfl, ly, hy, hb2⟩
  replace gX := gX.mono hb2
  replace gD := gD.mono hb2
  replace hx := hx.mono hb2
  replace hB := below2 hB hb2
  have hW2 : W.heap.size = w.heap.size + 2 := hWs
  have lx2 := hide (show w.heap.size + 2 ≤ x by omega)
  have ly2 := hide (show w.heap.size + 2 ≤ y by have := lw1; omega)
  clear hb2 lx ly k0 k1 k2 k3 k4 k5 c0 hWs hW2 lw1
  by_cases h0 : n = 0
  case' pos =>
    subst h0
    go_wp2_with fail
    refine name_world fun W3 hN => ?_
    have hz : ∃ z : Lc, ZOk W3 0 (w.heap.size + 2) z ∧ Blk W3 w2.heap.size #[.slice (some ⟨x, 0, none⟩) 1 1, .slice (some ⟨y, 0, none⟩) 1 1, .slice z.ad z.l.length z.cap] 51 := ⟨⟨none, 0, []⟩, .inl ⟨rfl, rfl⟩, by rw [hN]; exact Blk.newAt rfl⟩
    have hb3 : Below w2.heap.size w2 W3 := by rw [hN]; exact (Below.refl _ _).alloc (Nat.le_refl _) _
    obtain ⟨z, hz, gT⟩ := hz
    clear hN
  case' neg =>
    have hne : (n != 0) = true := by simpa using h0
    have hnw : (Lit.int .u64 n).wf = true := by simp [Lit.wf, IntKind.min, IntKind.max, IntKind.signed, IntKind.bits]; omega
    replace h0 := hide h0
    go_wp2_with fail
    refine name_world fun W3 hN => ?_
    have gZ : Blk W3 (w2.heap.size + 1) #[.int .i64 0, .int .u64 n] 53 := by rw [hN]; exact Blk.newAt (by simp)
    have hw2 : w.heap.size + 1 < w2.heap.size := gD.lt
    have hz : ∃ z : Lc, ZOk W3 n (w.heap.size + 2) z ∧ Blk W3 w2.heap.size #[.slice (some ⟨x, 0, none⟩) 1 1, .slice (some ⟨y, 0, none⟩) 1 1, .slice z.ad z.l.length z.cap] 51 := ⟨⟨some ⟨w2.heap.size + 1, 0, none⟩, 1, [(0, n)]⟩, .inr ⟨h0.out, w2.heap.size + 1, by omega, rfl, LinS.one gZ, fun t ht => by
      rw [List.mem_singleton] at ht
      subst ht
      exact ⟨by show (Lit.int .i64 0).wf = true; decide, hnw⟩, by simp, by simp [maxLen]⟩, by rw [hN]; exact (Blk.newAt rfl).alloc _⟩
    have hb3 : Below w2.heap.size w2 W3 := by rw [hN]; exact ((Below.refl _ _).alloc (Nat.le_refl _) _).alloc (by simp) _
    obtain ⟨z, hz, gT⟩ := hz
    clear hN gZ hne hnw hw2
  all_goals
    replace gX := gX.mono hb3
    replace gD := gD.mono hb3
    replace hx := hx.mono hb3
    replace hy := hy.mono hb3
    replace hB := below2 hB hb3
    have hW3 : w.heap.size + 2 ≤ W3.heap.size := by have := gD.lt; omega
    replace hW3 := hide hW3
    clear hb3
    replace gC := gC.mono hB
    replace hR := hR.mono hB
    have k3 := cell_later' (gC.cell (j := 3) (v := .slice ra R.length rc) rfl)
    have t0 := cell_later' (gT.cell (j := 0) (v := .slice (some ⟨x, 0, none⟩) 1 1) rfl); have t1 := cell_later' (gT.cell (j := 1) (v := .slice (some ⟨y, 0, none⟩) 1 1) rfl); have t2 := cell_later' (gT.cell (j := 2) (v := .slice z.ad z.l.length z.cap) rfl)
    refine Rel.wp_region_mix 7 [] [(0, NewEC W3.heap.size 51), (4, fun v w => OwnG rwL w W3.heap.size 51 v R), (6, NewBC #[.slice (some ⟨x, 0, none⟩) 1 1, .slice (some ⟨y, 0, none⟩) 1 1, .slice z.ad z.l.length z.cap] 51)] Try.mixed (by kernel_rfl) (by kernel_rfl) ?_ ?_
    rotate_left
    simp only [List.take_succ_cons, List.take_zero, List.drop_succ_cons, List.drop_zero, List.map_cons, List.map_nil]
    repeat (first | (refine Rel.wpA_b (by rfl) ?_) | (refine Rel.wpA_step (by rfl) fun K hK => ?_; go_simp; first | (refine hK _ ?_; clear hK K) | (apply Exists.intro; refine ⟨fun _ => ?_, hK _ ?_⟩; (first | fail); clear hK K)))
    refine Rel.wpA_nil ?_
    rotate_left
    · intro q hq v u u' h1 h2
      simp only [List.mem_cons, List.not_mem_nil, or_false] at hq
      rcases hq with rfl | rfl | rfl
      · exact NewEC.keep h1 h2
      · exact OwnG.mono h1 h2
      · exact NewBC.keep h1 h2
    refine Rel.wpB_step _ rfl rfl (fun p' hx' => ?_) (fun v0 => ?_)
    · go_simp
      exact rU_newe _ _ _
    refine Rel.wpB_step _ rfl rfl (fun p' hx' => ?_) (fun v4 => ?_)
    · have h4 : NewEC W3.heap.size 51 v0 (later W3 p') := hx' _ (List.Mem.head _) (by kernel_rfl)
      exact rU_appG0 rwL _ _ 23 rfl Try.underlying23 Try.infoRw rfl (by decide) h4 rfl rfl (hR.slg.mono (below_later _ _)) (by omega)
    refine Rel.wpB_step _ rfl rfl (fun p' hx' => ?_) (fun v6 => ?_)
    · go_simp
      exact rU_newb _ _ _ _
    refine Rel.wpB_nil ?_
    intro p' hctx hfr
    simp only [List.nil_append, List.cons_append, List.mem_cons, List.not_mem_nil, or_false, forall_eq_or_imp, forall_eq] at hctx
    obtain ⟨_, o4, o6⟩ := hctx
    have hb4 : Below W3.heap.size W3 (later W3 p') := below_later _ _
    clear hfr k3 t0 t1 t2 gT gC
    generalize later W3 p' = w4 at *
    obtain ⟨b6, e6, g6⟩ := o6
    have hg : ∃ r : Rw, r = ⟨⟨some ⟨x, 0, none⟩, 1, [(v, 1)]⟩, ⟨some ⟨y, 0, none⟩, 1, [(0, 1)]⟩, z⟩ := ⟨_, rfl⟩
    obtain ⟨r, hr⟩ := hg
    have s6 : SlG rwL w4 (some ⟨b6, 0, none⟩) [r] := SlG.one g6 (by rw [hr]; rfl)
    have hWW := hW3.out
    subst e6
    refine wpList_appG _ rwL R [r] rfl _ _ 23 rfl W3.heap.size 51 _ _ Try.underlying23 Try.infoRw rfl (by decide) v4 1 1 _ rfl rfl rfl o4 s6 (by simp; omega) hb4.size ?_
    intro v7 w7 own7 hg7
    have hb7 : Below W3.heap.size W3 w7 := hg7.belowG hb4 o4 (Nat.le_refl _) hb4.size
    clear hg7 o4 s6 g6 hb4
    replace hR := hR.mono hb7
    replace gX := gX.mono hb7
    replace gD := gD.mono hb7
    replace hx := hx.mono hb7
    replace hy := hy.mono hb7
    replace hz := hz.mono hb7
    replace hB := below2 hB hb7
    obtain ⟨a7, c7, rfl, _⟩ := own7.sl
    have eL : (R ++ [r]).length = R.length + 1 := by simp
    rw [eL] at own7 ⊢
    subst hr
    replace hR0 := fun W' (h : Below w.heap.size w W') => (hR0.mono h).ok
    have n0 := fun (g : Nat) e => (own7.lt (b := g) e).1
    replace n0 := hide n0
    clear hR hb7 eL
    have d0 := gD.cell (j := 0) (v := .int .u64 p) rfl; have d1 := gD.cell (j := 1) (v := .int .i64 pub) rfl; have d2 := gD.cell (j := 2) (v := .int .i64 vars) rfl; have d3 := gD.cell (j := 3) (v := .slice ra R.length rc) rfl; have d4 := gD.cell (j := 4) (v := .int .i64 sec) rfl; have d5 := gD.cell (j := 5) (v := .slice ha H.length hc) rfl
    have x0 := gX.cell (j := 0) (v := .int .u64 0) rfl; have x1 := gX.cell (j := 1) (v := .int .i64 0) rfl; have x2 := gX.cell (j := 2) (v := .int .i64 0) rfl; have x3 := gX.cell (j := 3) (v := .slice none 0 0) rfl; have x4 := gX.cell (j := 4) (v := .int .i64 0) rfl; have x5 := gX.cell (j := 5) (v := .slice none 0 0) rfl
    have fX := gX.free
    have fD := gD.free
    have lX := gX.lt
    have lD := gD.lt
    clear hWW
    replace own7 := hide own7
    replace hz := hide hz
    replace hx := hide hx
    replace hy := hide hy
    go_wp2
    have hWW := hW3.out
    have lx3 := lx2.out
    have ly3 := ly2.out
    have q1 : (Value.slice a7 (R.length + 1) c7).ownBlock ≠ some (w.heap.size + 1) := fun e => by have := n0.out _ e; omega
    have q0 : (Value.slice a7 (R.length + 1) c7).ownBlock ≠ some w.heap.size := fun e => by have := n0.out _ e; omega
    have kD := (Kp.refl (w.heap.size + 1) w7).set 3 (.slice a7 (R.length + 1) c7)
    have kX := ((((((Kp.refl w.heap.size (w7.setCell ⟨w.heap.size + 1, 3, none⟩ (.slice a7 (R.length + 1) c7))).set 0 (.int .u64 p)).set 1 (.int .i64 pub)).set 2 (.int .i64 vars)).set 3 (.slice a7 (R.length + 1) c7)).set 4 (.int .i64 sec)).set 5 (.slice ha H.length hc)
    have hB8 : Below w.heap.size w _ := ((((((hB.setCell (p := ⟨w.heap.size + 1, 3, none⟩) (by simp) (.slice a7 (R.length + 1) c7)).setCell (p := ⟨w.heap.size, 0, none⟩) (by simp) (.int .u64 p)).setCell (p := ⟨w.heap.size, 1, none⟩) (by simp) (.int .i64 pub)).setCell (p := ⟨w.heap.size, 2, none⟩) (by simp) (.int .i64 vars)).setCell (p := ⟨w.heap.size, 3, none⟩) (by simp) (.slice a7 (R.length + 1) c7)).setCell (p := ⟨w.heap.size, 4, none⟩) (by simp) (.int .i64 sec)).setCell (p := ⟨w.heap.size, 5, none⟩) (by simp) (.slice ha H.length hc)
    refine bodyPost_ret (v := .agg #[.int .u64 p, .int .i64 pub, .int .i64 vars, .slice a7 (R.length + 1) c7, .int .i64 sec, .slice ha H.length hc]) (by simp [results, Try.results22, go_sem, x0, x1, x2, x3, x4, x5]) rfl ?_
    exact RetRow.ret (w7 := W3) (hR0 _ hB8) (kX.lc (kD.lc hx.out (by omega)) (by omega)) (kX.lc (kD.lc hy.out (by omega)) (by omega)) ((hz.out.kp kD (by omega)).kp kX (by omega)) (((((((own7.out.other q1 _).other q0 _).other q0 _).other q0 _).other q0 _).other q0 _).other q0 _) hB8

/-- The closure's value, in a region that draws. -/
def IsRw (n v p pub vars : Int) (R : List Rw) (sec : Int) (ha : Option Addr) (H : List Hn) (hc : Nat) (x : Value) (w : World) : Prop := ∃ ra' rc' r, x = .agg #[.int .u64 p, .int .i64 pub, .int .i64 vars, .slice ra' (R.length + 1) rc', .int .i64 sec, .slice ha H.length hc] ∧
      RowsP w ra' rc' (R ++ [r]) ∧ r.a.l = [(v, 1)] ∧ r.b.l = [(0, 1)] ∧ r.c.l = (if n = 0 then [] else [(0, n)])
theorem IsRw.mono {n v p pub vars : Int} {R : List Rw} {sec : Int} {ha : Option Addr} {H : List Hn} {hc : Nat} {x : Value} {w w' : World} (h : IsRw n v p pub vars R sec ha H hc x w) (hb : Below w.heap.size w w') : IsRw n v p pub vars R sec ha H hc x w' := by
  obtain ⟨a, c, r, h1, h2, h3⟩ := h
  exact ⟨a, c, r, h1, h2.mono hb, h3⟩
theorem rU_row {P : Program} {f : FuncId} {args : Array Value} {W : World} {q : Later} {n v p pub vars : Int} {R : List Rw} {sec : Int} {ha : Option Addr} {H : List Hn} {hc : Nat} (h : Calls P f args (later W q) (RetRow (later W q) n v p pub vars R sec ha H hc)) :
    Rel.rUpon P (later W q) false (IsRw n v p pub vars R sec ha H hc) (.ok (.enter f args) (later W q)) :=
  ⟨rfl, h.mono fun _ _ ⟨a, c, r, he, h1, h2, h3, h4, hb⟩ => ⟨_, he, hb, ⟨a, c, r, rfl, h1, h2, h3, h4⟩, fun h => by cases h⟩⟩
end Go.Proofs.Ytlflkddgdbdebaa
