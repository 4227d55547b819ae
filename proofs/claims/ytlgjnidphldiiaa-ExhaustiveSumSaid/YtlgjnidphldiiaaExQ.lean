/- Exhaustive search, reference: count. -/
import Derived.Test.YtlgjnidphldiiaaExP
import Derived.Test.YtlgjnidphldiiaaFork
namespace Go.Proofs.Ytlgjnidphldiiaa
open Go.ChangeShapes Go.WideShapes Go.ChangeAt Go.RowKit

/-- Slices of words, as slices of elements of one cell. -/
def uL : Lay Int := ⟨fun x => [.int .u64 x], 1, fun _ => rfl, by decide, fun x u hu => by rw [List.mem_singleton] at hu; subst hu; rfl⟩
theorem uL_flat (xs : List Int) : xs.flatMap uL.f = xs.map (Value.int .u64) := by
  induction xs with
  | nil => rfl
  | cons x xs ih => rw [List.flatMap_cons, List.map_cons, ih]; rfl
theorem Own.toG {w : World} {base : Nat} {E : TypeId} {v : Value} {xs : List Int} (h : Own w base E .u64 v xs) : OwnG uL w base E v xs := by
  unfold OwnG
  rw [uL_flat]
  exact h
theorem OwnG.toU {w : World} {base : Nat} {E : TypeId} {v : Value} {xs : List Int} (h : OwnG uL w base E v xs) : Own w base E .u64 v xs := by
  unfold OwnG at h
  rw [uL_flat] at h
  exact h
theorem Sl.toG {w : World} {a : Option Addr} {xs : List Int} (h : Sl w .u64 a xs) : SlG uL w a xs := fun h0 => by
  obtain ⟨b, off, e, hl, hc⟩ := h h0
  refine ⟨b, off, e, hl, fun k u hu => ?_⟩
  rw [uL_flat, List.getElem?_map] at hu
  cases hg : xs[k]? with
  | none => rw [hg] at hu; cases hu
  | some y =>
    rw [hg] at hu
    cases hu
    have hk : k < xs.length := (List.getElem?_eq_some_iff.1 hg).1
    have := hc k hk
    rw [List.getD_eq_getElem?_getD, hg] at this
    exact this
/-- A new slice: without elements; with some cells. -/
def NewE0 (n : Nat) (E : TypeId) (v : Value) (w : World) : Prop := ∃ b, v = .slice (some ⟨b, 0, none⟩) 0 0 ∧ n ≤ b ∧ Blk w b #[] E
theorem NewE0.keep {n : Nat} {E : TypeId} {v : Value} {w w' : World} (h : NewE0 n E v w) (hb : Below w.heap.size w w') : NewE0 n E v w' := by
  obtain ⟨b, h1, h2, h3⟩ := h
  exact ⟨b, h1, h2, h3.mono hb⟩
def NewB1 (n : Nat) (cs : Array Value) (E : TypeId) (v : Value) (w : World) : Prop := ∃ b, v = .slice (some ⟨b, 0, none⟩) 1 1 ∧ n ≤ b ∧ Blk w b cs E
theorem NewB1.keep {n : Nat} {cs : Array Value} {E : TypeId} {v : Value} {w w' : World} (h : NewB1 n cs E v w) (hb : Below w.heap.size w w') : NewB1 n cs E v w' := by
  obtain ⟨b, h1, h2, h3⟩ := h
  exact ⟨b, h1, h2, h3.mono hb⟩
theorem rF_newe {P : Program} {n : Nat} {w' : World} (hn : n ≤ w'.heap.size) (E : TypeId) : Rel.rUpon P w' false (NewE0 n E) (.ok (.value (.slice (some ⟨w'.heap.size, 0, none⟩) 0 0)) (w'.alloc (.cells #[] E))) :=
  ⟨(Below.refl _ _).alloc (Nat.le_refl _) _, ⟨_, rfl, hn, Blk.new _ _ _⟩, fun h => by cases h⟩
theorem rF_newb {P : Program} {n : Nat} {w' : World} (hn : n ≤ w'.heap.size) (cs : Array Value) (E : TypeId) : Rel.rUpon P w' false (NewB1 n cs E) (.ok (.value (.slice (some ⟨w'.heap.size, 0, none⟩) 1 1)) (w'.alloc (.cells cs E))) :=
  ⟨(Below.refl _ _).alloc (Nat.le_refl _) _, ⟨_, rfl, hn, Blk.new _ _ _⟩, fun h => by cases h⟩
theorem rF_app {P : Program} {n : Nat} {w' : World} {o : Oper} {a : Act} {α : Type} (L : Lay α) (s x : Operand) (t : TypeId)
    (ho : o.op = .call { callee := .builtin .append, args := #[s, x], argTypes := #[t, t] }) {E : TypeId} {z : Value} {bytes : Nat}
    (ht : P.underlying t = some (.slice E)) (hinfo : (P.info? E).map (fun i => (i.zero, i.size, i.bytes)) = some (some z, L.m, bytes)) (hz : z.cells.size = L.m) (h8 : bytes ≤ 128) (hn : n ≤ w'.heap.size)
    {ys : List α} {c m : Nat} {A : Option Addr} {v : Value} (hv : NewE0 n E v w') (hs : a.eval s = v) (hx : a.eval x = .slice A m c) (hm : ys.length = m) (hsl : SlG L w' A ys) (hlen : ys.length < 68719476736) :
    Rel.rUpon P w' false (fun v w => OwnG L w n E v ys) ((execOp a.eval o).run P w') := by
  subst hm
  obtain ⟨g, rfl, n4, g4⟩ := hv
  have hown : OwnG L w' n E (.slice (some ⟨g, 0, none⟩) 0 0) [] := OwnG.of_blk n4 g4 (Nat.le_refl _) (by simp) (by simp) (by simp)
  obtain ⟨v', w2, hr, h2, h3⟩ := run_appG0 (P := P) (ty := o.type) (c := c) ht hinfo hz h8 hown hsl hlen hn
  unfold execOp
  simp only [ho, resolve, invoke, builtin, Sem.run_bind, Sem.run_pure, Result.andThen_ok, List.map_toArray, List.map_cons, List.map_nil, hs, hx, hr]
  exact ⟨h3, h2, fun h => by cases h⟩

/-- What count of the reference answers. -/
def refN (p : Nat) (R : List Row3) (k : Nat) (ws : List Int) (most : Int) : Int := if okAt p R ws then min most (cnt p R k ws : Int) else 0
/-- What a further value brings. -/
def nxN (p : Nat) (R : List Row3) (k : Nat) (ws : List Int) (x : Nat) : Nat := if okAt p R (ws ++ [(x : Int)]) then cnt p R k (ws ++ [(x : Int)]) else 0
theorem cnt_nx (p : Nat) (R : List Row3) (k : Nat) (ws : List Int) : cnt p R (k + 1) ws = sumN p (nxN p R k ws) := rfl
theorem refN_nx {p : Nat} {R : List Row3} {k : Nat} {ws : List Int} {x : Nat} {most : Int} (h : 0 ≤ most) : refN p R k (ws ++ [(x : Int)]) most = min most (nxN p R k ws x : Int) := by
  unfold refN nxN
  split
  · rfl
  · rw [show min most ((0 : Nat) : Int) = 0 by omega]

set_option maxRecDepth 10000 in
set_option maxHeartbeats 16000000 in
theorem rCount_any (p V : Nat) (pub : Int) (ra : Option Addr) (R : List Rw) (rc : Nat) (hp : 17 ≤ p) (h257 : p ≤ 257) (hrow : ∀ r ∈ R, RowOk p V r.val) (hV : V ≤ 65536) (hRl : R.length ≤ 16384) :
    ∀ (k : Nat) (ws : List Int), ws.length + k = V → 1 ≤ ws.length → AllW ws → ∀ (wa : Option Addr) (wc : Nat) (most : Int) (w : World), RowsP w ra rc R → Sl w .u64 wa ws → 0 ≤ most → most ≤ 9223372036854775807 →
      Calls Try.prog 106 #[.agg #[.int .u64 p, .int .i64 pub, .int .i64 V, .slice ra R.length rc], .slice wa ws.length wc, .int .i64 most] w fun e w' => e = .returned (.int .i64 (refN p (R.map Rw.val) k ws most)) ∧ Below w.heap.size w w'
  | k, ws, hk, h1, hA, wa, wc, most, w, hR, hW, hm0, hm1 => by
    have cC := fun W h2 h3 => rComplete_any p V pub ra R rc wa wc ws W h2 h3 hA hrow hRl ⟨h1, by omega⟩
    have cR := fun (k' : Nat) (hk' : k = k' + 1) (x : Nat) (hx : x < p) wa wc most W h2 h3 h4 h5 => rCount_any p V pub ra R rc hp h257 hrow hV hRl k' (ws ++ [(x : Int)]) (by rw [List.length_append, List.length_singleton]; omega) (by rw [List.length_append]; omega) (fun u hu => by
      rcases List.mem_append.1 hu with hu | hu
      · exact hA u hu
      · rw [List.mem_singleton] at hu; subst hu; omega) wa wc most W h2 h3 h4 h5
    have eL : ∀ x : Nat, (ws ++ [(x : Int)]).length = ws.length + 1 := fun x => by rw [List.length_append, List.length_singleton]
    simp only [eL] at cR
    clear eL
    have hsl := hW.toG
    obtain ⟨n, hnl⟩ : ∃ n, ws.length = n := ⟨_, rfl⟩
    rw [hnl] at hk h1 cC cR
    rw [hnl]
    have hnI : (n : Int) ≤ V := by omega
    have hVI : (V : Int) ≤ 65536 := by omega
    obtain ⟨ok, hok⟩ : ∃ ok, okAt (p : Int) (R.map Rw.val) ws = ok := ⟨_, rfl⟩
    have hres : refN p (R.map Rw.val) k ws most = if ok then min most (cnt p (R.map Rw.val) k ws : Int) else 0 := by unfold refN; rw [hok]
    rw [hok] at cC
    rw [hres]
    clear hres
    replace hok := hide hok
    replace hnl := hide hnl
    have hpI : 17 ≤ (p : Int) ∧ (p : Int) ≤ 257 := by omega
    obtain ⟨hpI1, hpI2⟩ := hpI
    cases ok with
    | false =>
      show Calls _ _ _ _ (fun e w' => e = .returned (.int .i64 0) ∧ Below w.heap.size w w')
      clear cR
      go_enter Try.func106, Try.ntmps106
      go_wp2_with fail
      refine name_calls fun W hN => ?_
      have hB : Below w.heap.size w W := by rw [hN]; exact (Below.refl _ _).alloc (Nat.le_refl _) _
      clear hN
      refine (cC W (hR.mono hB) (hW.mono hB)).mono ?_
      rintro e w1 ⟨rfl, hb1⟩
      replace hB := below2 hB hb1
      clear hb1 cC
      go_wp2
      go_ret
      exact ⟨rfl, hB⟩
    | true =>
      rw [if_pos rfl]
      by_cases hm : most = 0
      · subst hm
        have hres : min (0 : Int) (cnt p (R.map Rw.val) k ws : Int) = 0 := by omega
        rw [hres]
        clear cR hres
        go_enter Try.func106, Try.ntmps106
        go_wp2_with fail
        refine name_calls fun W hN => ?_
        have hB : Below w.heap.size w W := by rw [hN]; exact (Below.refl _ _).alloc (Nat.le_refl _) _
        clear hN
        refine (cC W (hR.mono hB) (hW.mono hB)).mono ?_
        rintro e w1 ⟨rfl, hb1⟩
        replace hB := below2 hB hb1
        clear hb1 cC
        go_wp2
        go_ret
        exact ⟨rfl, hB⟩
      · have hmp : ¬ most ≤ 0 := by omega
        cases k with
        | zero =>
          have hres : min most (cnt p (R.map Rw.val) 0 ws : Int) = 1 := by show min most ((1 : Nat) : Int) = 1; omega
          rw [hres]
          have hnV : (n : Int) = V := by omega
          clear cR hres
          go_enter Try.func106, Try.ntmps106
          go_wp2_with fail
          refine name_calls fun W hN => ?_
          have g0 : Blk W w.heap.size #[.int .u64 p, .int .i64 pub, .int .i64 V, .slice ra R.length rc] 34 := by rw [hN]; exact Blk.newAt rfl
          have hB : Below w.heap.size w W := by rw [hN]; exact (Below.refl _ _).alloc (Nat.le_refl _) _
          clear hN
          refine (cC W (hR.mono hB) (hW.mono hB)).mono ?_
          rintro e w1 ⟨rfl, hb1⟩
          replace hB := below2 hB hb1
          replace g0 := g0.mono hb1
          clear hb1 cC
          have k2 := g0.cell (j := 2) (v := .int .i64 V) rfl
          go_wp2
          go_ret
          exact ⟨rfl, hB⟩
        | succ k' =>
          replace cR := fun (x : Nat) hx => cR k' rfl x hx
          have hnV : ((n : Int) == (V : Int)) = false := by rw [beq_eq_false_iff_ne]; omega
          rw [cnt_nx]
          have hnx := hide (fun (x : Nat) (m : Int) h => refN_nx (p := p) (R := R.map Rw.val) (k := k') (ws := ws) (x := x) (most := m) h)
          obtain ⟨F, hF⟩ : ∃ F, F = nxN p (R.map Rw.val) k' ws := ⟨_, rfl⟩
          rw [← hF] at hnx
          rw [← hF]
          replace hF := hide hF
          go_enter Try.func106, Try.ntmps106
          go_wp2_with fail
          refine name_calls fun W hN => ?_
          have g0 : Blk W w.heap.size #[.int .u64 p, .int .i64 pub, .int .i64 V, .slice ra R.length rc] 34 := by rw [hN]; exact Blk.newAt rfl
          have hB : Below w.heap.size w W := by rw [hN]; exact (Below.refl _ _).alloc (Nat.le_refl _) _
          clear hN
          refine (cC W (hR.mono hB) (hW.mono hB)).mono ?_
          rintro e w1 ⟨rfl, hb1⟩
          replace hB := below2 hB hb1
          replace g0 := g0.mono hb1
          clear hb1 cC
          have k2 := g0.cell (j := 2) (v := .int .i64 V) rfl
          go_wp2_with fail
          clear k2
          go_loopw [7, 8] (fun t7 t8 wr => ∃ x : Nat, x ≤ p ∧ t7 = .int .i64 (min most (sumN x F : Int)) ∧ t8 = .int .u64 x ∧ Below w.heap.size w wr ∧ Blk wr w.heap.size #[.int .u64 p, .int .i64 pub, .int .i64 V, .slice ra R.length rc] 34) (fun _ t8 _ => p - (intOf t8).toNat)
          case atStart => exact ⟨0, Nat.zero_le _, by rw [sumN, show min most ((0 : Nat) : Int) = 0 by omega], rfl, hB, g0⟩
          case round =>
            clear g0 hB
            obtain ⟨x, hx, rfl, rfl, hB, g0⟩ := hrel
            obtain ⟨cur, hcur⟩ : ∃ cur : Int, cur = min most (sumN x F : Int) := ⟨_, rfl⟩
            have hcb : 0 ≤ cur ∧ cur ≤ most := by omega
            have hmono := sumN_mono F hx
            rw [← hcur]
            have k0 := g0.cell (j := 0) (v := .int .u64 p) rfl
            have hx0 : (0 : Int) ≤ x := by omega
            obtain ⟨hcb1, hcb2⟩ := hcb
            by_cases hxp : x < p
            · have hxpI : (x : Int) < p := by omega
              by_cases hcm : cur < most
              · have hsn : ∀ z : Int, z = min (most - cur) (F x : Int) → cur + z = min most (sumN (x + 1) F : Int) := fun z hz => by rw [sumN]; omega
                have hww : IntKind.i64.wrap (most - cur) = most - cur := by rw [IntKind.wrap_i64]; omega
                replace hcur := hide hcur
                replace hsn := hide hsn
                have cX := cR x hxp
                have hnxx := hnx.out x (most - cur) (by omega)
                go_wp2_with fail
                refine Rel.region_any Try.mixed fun w7 hb7 => ?_
                replace g0 := g0.mono hb7
                replace hB := below2 hB hb7
                clear hb7 k0
                refine Rel.any_held (fun W => W.cell? ⟨w.heap.size, 0, none⟩ = some (.int .u64 p) ∧ W.cell? ⟨w.heap.size, 1, none⟩ = some (.int .i64 pub) ∧ W.cell? ⟨w.heap.size, 2, none⟩ = some (.int .i64 V) ∧ W.cell? ⟨w.heap.size, 3, none⟩ = some (.slice ra R.length rc)) 13 ⟨g0.cell (j := 0) rfl, g0.cell (j := 1) rfl, g0.cell (j := 2) rfl, g0.cell (j := 3) rfl⟩ fun hH0 => ?_
                refine Rel.heldTake (v := ?_) 0 rfl (by kernel_rfl) (by kernel_rfl) (by kernel_rfl) (fun _ _ _ h => h) (by assumption) (by rfl) ?_ ?_
                rotate_left
                · (intro W hSw; (try dsimp only at hSw); go_simp; try with_reducible rfl)
                try simp only [Act.put, List.setIfInBounds_toArray, List.set_cons_zero, List.set_cons_succ]
                refine Rel.heldTake (v := ?_) 1 rfl (by kernel_rfl) (by kernel_rfl) (by kernel_rfl) (fun _ _ _ h => h) (by assumption) (by rfl) ?_ ?_
                rotate_left
                · (intro W hSw; (try dsimp only at hSw); go_simp; try with_reducible rfl)
                try simp only [Act.put, List.setIfInBounds_toArray, List.set_cons_zero, List.set_cons_succ]
                refine Rel.heldTake (v := ?_) 3 rfl (by kernel_rfl) (by kernel_rfl) (by kernel_rfl) (fun _ _ _ h => h) (by assumption) (by rfl) ?_ ?_
                rotate_left
                · (intro W hSw; (try dsimp only at hSw); go_simp; try with_reducible rfl)
                try simp only [Act.put, List.setIfInBounds_toArray, List.set_cons_zero, List.set_cons_succ]
                refine Rel.heldTake (v := ?_) 5 rfl (by kernel_rfl) (by kernel_rfl) (by kernel_rfl) (fun _ _ _ h => h) (by assumption) (by rfl) ?_ ?_
                rotate_left
                · (intro W hSw; (try dsimp only at hSw); go_simp; try with_reducible rfl)
                try simp only [Act.put, List.setIfInBounds_toArray, List.set_cons_zero, List.set_cons_succ]
                refine Rel.heldTake (v := ?_) 8 rfl (by kernel_rfl) (by kernel_rfl) (by kernel_rfl) (fun _ _ _ h => h) (by assumption) (by rfl) ?_ ?_
                rotate_left
                · (intro W hSw; (try dsimp only at hSw); go_simp; try with_reducible rfl)
                try simp only [Act.put, List.setIfInBounds_toArray, List.set_cons_zero, List.set_cons_succ]
                refine Rel.heldTake (v := ?_) 9 rfl (by kernel_rfl) (by kernel_rfl) (by kernel_rfl) (fun _ _ _ h => h) (by assumption) (by rfl) ?_ ?_
                rotate_left
                · (intro W hSw; (try dsimp only at hSw); go_simp; try with_reducible rfl)
                try simp only [Act.put, List.setIfInBounds_toArray, List.set_cons_zero, List.set_cons_succ]
                refine Rel.heldTake (v := ?_) 10 rfl (by kernel_rfl) (by kernel_rfl) (by kernel_rfl) (fun _ _ _ h => h) (by assumption) (by rfl) ?_ ?_
                rotate_left
                · (intro W hSw; (try dsimp only at hSw); go_simp; try with_reducible rfl)
                try simp only [Act.put, List.setIfInBounds_toArray, List.set_cons_zero, List.set_cons_succ]
                have hsW := fun w' (h : Below w7.heap.size w7 w') => hsl.mono (below2 hB h)
                refine Rel.heldFork 2 4 6 (NewE0 w7.heap.size 22) (fun v w => OwnG uL w w7.heap.size 22 v ws) (NewB1 w7.heap.size #[.int .u64 x] 22) rfl rfl rfl rfl rfl rfl rfl rfl rfl (by decide) (by kernel_rfl) (by kernel_rfl) (by kernel_rfl) (by kernel_rfl) (by kernel_rfl) ?_ ?_ ?_ (fun _ _ _ => NewE0.keep) (fun _ _ _ => OwnG.mono) (fun _ _ _ => NewB1.keep) (by intro v; go_simp) (by intro v u; go_simp) (by intro v; go_simp) (by intro v u; go_simp) ?_ ?_
                · intro w' hb
                  go_simp
                  exact rF_newe hb.size _
                · intro w' hb
                  go_simp
                  exact rF_newb hb.size _ _
                · intro vi w' hb hv
                  exact rF_app uL _ _ 54 rfl Try.underlying54 Try.infoU64 rfl (by decide) hb.size hv rfl rfl hnl.out (hsW w' hb) (by have := hnl.out; omega)
                · intro w' hb
                  have g := g0.mono hb
                  exact ⟨g.cell (j := 0) rfl, g.cell (j := 1) rfl, g.cell (j := 2) rfl, g.cell (j := 3) rfl⟩
                intro v2 v4 v6 w8 hb8 o4 o6
                simp only [Act.put, List.setIfInBounds_toArray, List.set_cons_zero, List.set_cons_succ]
                obtain ⟨b6, rfl, n6, g6⟩ := o6
                have g8 := g0.mono hb8
                have hB8 := below2 hB hb8
                have s6 : SlG uL w8 (some ⟨b6, 0, none⟩) [(x : Int)] := SlG.one g6 rfl
                refine Rel.heldNext 7 rfl (by kernel_rfl) fun K hK => ?_
                refine step_appX uL ws [(x : Int)] rfl _ _ 54 rfl w7.heap.size 22 (.int .u64 0) 8 Try.underlying54 Try.infoU64 rfl (by decide) v4 1 1 (some ⟨b6, 0, none⟩) rfl rfl rfl o4 s6 (by have := hnl.out; simp; omega) hb8.size ?_
                intro v' w9 own' hg'
                have g9 := hg'.blk g8 (o4.neq g8 (by decide))
                have hB9 : Below w.heap.size w w9 := hg'.belowG hB8 o4 hB.size hB8.size
                obtain ⟨va', vc', ve', sl', _, _⟩ := Own.sl own'.toU
                rw [List.length_append, List.length_singleton, hnl.out] at ve'
                subst ve'
                clear own' hg' s6 g6 o4 g8 hB8 hb8 hH0
                refine hK.out _ _ ⟨g9.cell (j := 0) rfl, g9.cell (j := 1) rfl, g9.cell (j := 2) rfl, g9.cell (j := 3) rfl⟩ (fun hH2 => ?_)
                clear hK K
                try simp only [Act.put, List.setIfInBounds_toArray, List.set_cons_zero, List.set_cons_succ]
                refine Rel.heldNext 11 rfl (by kernel_rfl) fun K hK => ?_
                go_simp
                refine (cX va' vc' (most - cur) w9 (hR.mono hB9) sl' (by omega) (by omega)).mono ?_
                rintro e wA ⟨rfl, hbA⟩
                rw [hnxx]
                obtain ⟨z, hz⟩ : ∃ z : Int, z = min (most - cur) (F x : Int) := ⟨_, rfl⟩
                rw [← hz]
                have hsnz := hsn.out z hz
                have hzb : 0 ≤ z ∧ cur + z ≤ most := by omega
                have hwz : IntKind.i64.wrap (cur + z) = cur + z := by rw [IntKind.wrap_i64]; omega
                have gA := g9.mono hbA
                have hBA := below2 hB9 hbA
                replace hz := hide hz
                replace hsnz := hide hsnz
                clear cX cR hnxx hzb g0 hB g9 hB9 hsn
                refine hK.out _ _ ⟨gA.cell (j := 0) rfl, gA.cell (j := 1) rfl, gA.cell (j := 2) rfl, gA.cell (j := 3) rfl⟩ (fun hH3 => ?_)
                clear hK K
                try simp only [Act.put, List.setIfInBounds_toArray, List.set_cons_zero, List.set_cons_succ]
                refine Rel.heldTake (v := ?_) 12 rfl (by kernel_rfl) (by kernel_rfl) (by kernel_rfl) (fun _ _ _ h => h) (by assumption) (by rfl) ?_ ?_
                rotate_left
                · (intro W hSw; (try dsimp only at hSw); go_simp; try with_reducible rfl)
                try simp only [Act.put, List.setIfInBounds_toArray, List.set_cons_zero, List.set_cons_succ]
                refine Rel.heldLast 13 rfl (by kernel_rfl) rfl (by kernel_rfl) fun K hK => ?_
                go_simp
                refine hK.out _ _ ?_
                clear hK K hH2 hH3
                go_wp2
                go_roundw
                case rel => exact ⟨x + 1, by omega, by rw [hsnz.out], by go_num, hBA, gA⟩
                case measure => simp [intOf]; omega
              · have hres : Hid (cur = min most (sumN p F : Int)) := hide (by omega)
                clear cR hcur
                go_wp2
                go_ret
                exact ⟨congrArg (fun x => Ending.returned (.int .i64 x)) hres.out, hB⟩
            · obtain rfl : x = p := by omega
              replace hcur := hide hcur
              clear cR
              go_wp2
              go_ret
              exact ⟨congrArg (fun x => Ending.returned (.int .i64 x)) hcur.out, hB⟩
end Go.Proofs.Ytlgjnidphldiiaa
