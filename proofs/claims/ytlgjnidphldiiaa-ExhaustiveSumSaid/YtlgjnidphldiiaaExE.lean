/- Exhaustive search: the equations of a variable. -/
import Derived.Test.YtlgjnidphldiiaaExD
namespace Go.Proofs.Ytlgjnidphldiiaa
open Go.ChangeShapes Go.WideShapes Go.ChangeAt Go.RowKit

theorem Try.infoEq : (Try.prog.info? 158).map (fun i => (i.zero, i.size, i.bytes)) = some (some (.agg #[.int .u64 0, .int .u64 0, .int .u64 0, .int .u64 0, .int .u64 0, .int .u64 0]), 6, 48) := by kernel_rfl
theorem flat6_set : ∀ (xs : List Eq3) (i : Nat) (t : Eq3), i < xs.length → ((((((xs.flatMap eqL.f).set (i * 6) (.int .u64 t.a.b)).set (i * 6 + 1) (.int .u64 t.a.s)).set (i * 6 + 2) (.int .u64 t.b.b)).set (i * 6 + 3) (.int .u64 t.b.s)).set (i * 6 + 4) (.int .u64 t.c.b)).set (i * 6 + 5) (.int .u64 t.c.s) = (xs.set i t).flatMap eqL.f
  | [], _, _, h => absurd h (by simp)
  | x :: xs, 0, t, _ => rfl
  | x :: xs, i + 1, t, h => by
    have ih := flat6_set xs i t (by simpa using h)
    rw [List.set_cons_succ, List.flatMap_cons, List.flatMap_cons, ← ih, show (i + 1) * 6 = i * 6 + 6 by omega]
    rfl
theorem OwnG.setEq {w : World} {base g n cap : Nat} {E : TypeId} {xs : List Eq3} (h : OwnG eqL w base E (.slice (some ⟨g, 0, none⟩) n cap) xs) (i : Nat) (hi : i < xs.length) (t : Eq3) :
    OwnG eqL ((((((w.setCell ⟨g, i * 6, none⟩ (.int .u64 t.a.b)).setCell ⟨g, i * 6 + 1, none⟩ (.int .u64 t.a.s)).setCell ⟨g, i * 6 + 2, none⟩ (.int .u64 t.b.b)).setCell ⟨g, i * 6 + 3, none⟩ (.int .u64 t.b.s)).setCell ⟨g, i * 6 + 4, none⟩ (.int .u64 t.c.b)).setCell ⟨g, i * 6 + 5, none⟩ (.int .u64 t.c.s)) base E (.slice (some ⟨g, 0, none⟩) n cap) (xs.set i t) := by
  rcases h.form with ⟨h0, _⟩ | ⟨g', cap', cur, h0, h1, h2, h3, h4, h5, h6⟩
  · cases h0
  · cases h0
    have := OwnG.of_blk (L := eqL) (w := (((((w.setCell ⟨g, i * 6, none⟩ (.int .u64 t.a.b)).setCell ⟨g, i * 6 + 1, none⟩ (.int .u64 t.a.s)).setCell ⟨g, i * 6 + 2, none⟩ (.int .u64 t.b.b)).setCell ⟨g, i * 6 + 3, none⟩ (.int .u64 t.b.s)).setCell ⟨g, i * 6 + 4, none⟩ (.int .u64 t.c.b)).setCell ⟨g, i * 6 + 5, none⟩ (.int .u64 t.c.s)) (xs := xs.set i t) (cap := cap) h1 ((((((h2.set (i * 6) _).set (i * 6 + 1) _).set (i * 6 + 2) _).set (i * 6 + 3) _).set (i * 6 + 4) _).set (i * 6 + 5) _) (by simpa using h3) h4 (by simpa using h5) (by
      simp only [Array.toList_setIfInBounds, List.length_set]
      rw [← flat6_set xs i t hi, ← h6]
      simp only [List.take_set])
    rw [List.length_set] at this
    exact this
/-- The equation of a row at v. -/
def eqnV (p : Int) (Wl : List Int) (v : Nat) (r : Row3) : Eq3 := ⟨lnV p Wl v r.a, lnV p Wl v r.b, lnV p Wl v r.c⟩
/-- A row that a search may hold. -/
def RowOk (p V : Nat) (r : Row3) : Prop := (LinIn p 0 V r.a ∧ r.a.length ≤ 1000000) ∧ (LinIn p 0 V r.b ∧ r.b.length ≤ 1000000) ∧ (LinIn p 0 V r.c ∧ r.c.length ≤ 1000000)
theorem eqs_ext {f : Rw → Eq3} {Rv : List Rw} {es : List Eq3} (hl : es.length = Rv.length) (h : ∀ k, k < Rv.length → es.getD k default = f (Rv.getD k default)) : es = Rv.map f := by
  refine List.ext_getElem (by rw [List.length_map, hl]) fun k h1 h2 => ?_
  have h3 := h k (by omega)
  rw [List.getD_eq_getElem?_getD, List.getD_eq_getElem?_getD, List.getElem?_eq_getElem h1, List.getElem?_eq_getElem (by omega)] at h3
  rw [List.getElem_map]
  exact h3

set_option maxRecDepth 10000 in
set_option maxHeartbeats 8000000 in
theorem equations_any {w0 w : World} {q p V last gi gr gw : Nat} {IL : List Int} {R : List Row3} {Wl : List Int} (D : SS w0 w q p V last gi gr gw IL R Wl) (hA : AllW Wl) (hVl : Wl.length = V) (v : Nat) (hv : vld (p : Int) = true) (hR : ∀ r ∈ R, RowOk p V r) (hvV : v < V) (hn : R.length ≤ 1000000) :
    Calls Try.prog 130 #[.pointer (some ⟨q, 0, none⟩), .int .i64 v] w fun en w' => ∃ g, en = .returned (.slice (some ⟨g, 0, none⟩) ((rowsAt R v).map (eqnV p Wl v)).length ((rowsAt R v).map (eqnV p Wl v)).length) ∧ OwnG eqL w' w.heap.size 158 (.slice (some ⟨g, 0, none⟩) ((rowsAt R v).map (eqnV p Wl v)).length ((rowsAt R v).map (eqnV p Wl v)).length) ((rowsAt R v).map (eqnV p Wl v)) ∧ Below w.heap.size w w' := by
  obtain ⟨a, c, Rv, h1, h2, h3, h4⟩ := D.rows v hvV
  have hlen : Rv.length ≤ 1000000 := by
    have : (Rv.map Rw.val).length ≤ R.length := by rw [h4]; exact List.length_filter_le _ _
    rw [List.length_map] at this
    omega
  have hrk : ∀ r ∈ Rv, RowOk p V r.val := fun r hr => hR _ (by
    have : r.val ∈ rowsAt R v := by rw [← h4]; exact List.mem_map_of_mem hr
    exact (List.mem_filter.1 this).1)
  have e4 : (rowsAt R v).map (eqnV p Wl v) = Rv.map fun r => eqnV p Wl v r.val := by rw [← h4, List.map_map]; rfl
  rw [e4]
  have cL := fun (x : Lc) W (D : SS w0 W q p V last gi gr gw IL R Wl) h1 h2 h3 => line_any D hA hVl x v h1 hv h2 hvV h3
  have hmk := fun W => run_mkG eqL (P := Try.prog) (t := 146) (e := 158) Try.underlying146 Try.infoEq (by decide) (N := (Rv.length : Int)) (C := (Rv.length : Int)) Rv.length Rv.length rfl rfl (Nat.le_refl _) (by omega) W
  have hvV' : (v : Int) < V := by omega
  have hv0 : (0 : Int) ≤ v := by omega
  replace hrk := hide hrk
  have k2 := D.blk.cell (j := 2) rfl
  obtain ⟨n, hn'⟩ : ∃ n, Rv.length = n := ⟨_, rfl⟩
  rw [hn'] at hlen h1 hmk
  rw [List.length_map, hn']
  have bl := fun o => (Below.refl w.heap.size w).alloc (Nat.le_refl _) o
  have k2' := fun o => cell_below (bl o) k2
  have h1' := fun o => cell_below (bl o) h1
  have sR := h2.slE
  have h30 := hide h3
  clear h3 h4 e4 hR h2 bl
  have hlenI : (n : Int) ≤ 1000000 := by omega
  replace hn' := hide hn'
  have own0 : OwnG eqL (w.alloc (.cells (madeCells #[.int .u64 0, .int .u64 0, .int .u64 0, .int .u64 0, .int .u64 0, .int .u64 0] (n * eqL.m)) 158)) w.heap.size 158 (.slice (some ⟨w.heap.size, 0, none⟩) n n) (List.replicate n ⟨⟨0, 0⟩, ⟨0, 0⟩, ⟨0, 0⟩⟩) := OwnG.made (⟨⟨0, 0⟩, ⟨0, 0⟩, ⟨0, 0⟩⟩ : Eq3) rfl (Nat.le_refl _) (by simp only [maxLen]; omega)
  go_enter Try.func130, Try.ntmps130
  go_wp2_with fail
  refine name_world fun w2 hN => ?_
  have hB2 : Below w.heap.size w w2 := by rw [hN]; exact (Below.refl _ _).alloc (Nat.le_refl _) _
  rw [← hN] at own0
  clear hN hmk k2 h1 k2' h1'
  go_loopw [25] (fun t25 wr => ∃ i : Nat, i ≤ n ∧ t25 = .int .i64 i ∧ Below w.heap.size w wr ∧ ∃ es, OwnG eqL wr w.heap.size 158 (.slice (some ⟨w.heap.size, 0, none⟩) n n) es ∧ Hid (es.length = n) ∧ Hid (∀ k, k < i → es.getD k default = eqnV p Wl v (Rv.getD k default).val)) (fun t25 _ => n - (intOf t25).toNat)
  case atStart => exact ⟨0, Nat.zero_le _, rfl, hB2, _, own0, hide (List.length_replicate ..), hide fun k hk => absurd hk (by omega)⟩
  case round =>
    clear hB2 own0
    obtain ⟨i, hi, rfl, hB, es, ow, hel, hes⟩ := hrel
    by_cases hlt : i < n
    · have hlt' : (i : Int) < n := by omega
      have hi0 : (0 : Int) ≤ i := by omega
      have hiR : i < Rv.length := by have := hn'.out; omega
      obtain ⟨b, off, rfl, hbl, hc⟩ := sR (by have := hn'.out; omega)
      have hmem := getD_mem' hiR default
      have hok := h30.out _ hmem
      have hrk1 := hrk.out _ hmem
      have d0 := cell_below hB (SlG.at_ (j := 0) default hc hiR (by decide) rfl)
      have d1 := cell_below hB (SlG.at_ (j := 1) default hc hiR (by decide) rfl)
      have d2 := cell_below hB (SlG.at_ (j := 2) default hc hiR (by decide) rfl)
      rw [show off + i * rwL.m + 0 = off + i * 3 from rfl] at d0
      rw [show off + i * rwL.m + 1 = off + i * 3 + 1 from rfl] at d1
      rw [show off + i * rwL.m + 2 = off + i * 3 + 2 from rfl] at d2
      have hnx : ∀ t, t = eqnV p Wl v (Rv.getD i default).val → Hid (∀ k, k < i + 1 → (es.set i t).getD k default = eqnV p Wl v (Rv.getD k default).val) := fun t ht => hide fun k hk => by
        by_cases e : k = i
        · subst e
          rw [List.getD_eq_getElem?_getD, List.getElem?_set_self (by have := hel.out; omega)]
          exact ht
        · rw [List.getD_eq_getElem?_getD, List.getElem?_set_ne (Ne.symm e), ← List.getD_eq_getElem?_getD]
          exact hes.out k (by omega)
      obtain ⟨r, hr⟩ : ∃ r, r = Rv.getD i default := ⟨_, rfl⟩
      rw [← hr] at d0 d1 d2 hok hrk1 hnx
      replace hr := hide hr
      replace d0 : wr.cell? ⟨b, off + i * 3, none⟩ = some (.slice r.a.ad r.a.l.length r.a.cap) := d0
      replace d1 : wr.cell? ⟨b, off + i * 3 + 1, none⟩ = some (.slice r.b.ad r.b.l.length r.b.cap) := d1
      replace d2 : wr.cell? ⟨b, off + i * 3 + 2, none⟩ = some (.slice r.c.ad r.c.l.length r.c.cap) := d2
      clear hc hmem hes sR
      obtain ⟨⟨ra1, ra2⟩, ⟨rb1, rb2⟩, ⟨rc1, rc2⟩⟩ := hrk1
      have cA := fun W D => cL r.a W D hok.1 ra1 ra2
      have cB := fun W D => cL r.b W D hok.2.1 rb1 rb2
      have cC := fun W D => cL r.c W D hok.2.2 rc1 rc2
      replace hnx := hide (hnx _ rfl)
      simp only [eqnV, Rw.val] at hnx
      generalize hA' : lnV p Wl v r.a.l = A at *
      generalize hB' : lnV p Wl v r.b.l = B at *
      generalize hC' : lnV p Wl v r.c.l = C at *
      clear cL hok ra1 ra2 rb1 rb2 rc1 rc2 hA' hB' hC' hvV
      go_wp2_with fail
      refine name_world fun w3 hN => ?_
      have gT : Blk w3 wr.heap.size #[.slice r.a.ad r.a.l.length r.a.cap, .slice r.b.ad r.b.l.length r.b.cap, .slice r.c.ad r.c.l.length r.c.cap] 106 := by rw [hN]; exact Blk.newAt rfl
      have hb3 : Below wr.heap.size wr w3 := by rw [hN]; exact (Below.refl _ _).alloc (Nat.le_refl _) _
      replace ow := ow.mono hb3
      replace hB := below2 hB hb3
      clear hN d0 d1 d2 hb3
      refine Rel.region_any Try.mixed fun w4 hb4 => ?_
      replace gT := gT.mono hb4
      replace ow := ow.mono hb4
      replace hB := below2 hB hb4
      have D4 := D.mono hB
      clear hb4
      refine Rel.any_held (fun W => W.cell? ⟨wr.heap.size, 0, none⟩ = some (.slice r.a.ad r.a.l.length r.a.cap) ∧ W.cell? ⟨wr.heap.size, 1, none⟩ = some (.slice r.b.ad r.b.l.length r.b.cap) ∧ W.cell? ⟨wr.heap.size, 2, none⟩ = some (.slice r.c.ad r.c.l.length r.c.cap)) 19 ⟨gT.cell (j := 0) rfl, gT.cell (j := 1) rfl, gT.cell (j := 2) rfl⟩ fun hH0 => ?_
      refine Rel.heldTake (v := ?_) 0 rfl (by kernel_rfl) (by kernel_rfl) (by kernel_rfl) (fun _ _ _ h => h) (by assumption) (by rfl) ?_ ?_
      rotate_left
      · (intro W hSw; (try dsimp only at hSw); go_simp; try with_reducible rfl)
      try simp only [Act.put, List.setIfInBounds_toArray, List.set_cons_zero, List.set_cons_succ]
      refine Rel.heldTake (v := ?_) 1 rfl (by kernel_rfl) (by kernel_rfl) (by kernel_rfl) (fun _ _ _ h => h) (by assumption) (by rfl) ?_ ?_
      rotate_left
      · (intro W hSw; (try dsimp only at hSw); go_simp; try with_reducible rfl)
      try simp only [Act.put, List.setIfInBounds_toArray, List.set_cons_zero, List.set_cons_succ]
      refine Rel.heldTake (v := ?_) 2 rfl (by kernel_rfl) (by kernel_rfl) (by kernel_rfl) (fun _ _ _ h => h) (by assumption) (by rfl) ?_ ?_
      rotate_left
      · (intro W hSw; (try dsimp only at hSw); go_simp; try with_reducible rfl)
      try simp only [Act.put, List.setIfInBounds_toArray, List.set_cons_zero, List.set_cons_succ]
      refine Rel.heldTake (v := ?_) 3 rfl (by kernel_rfl) (by kernel_rfl) (by kernel_rfl) (fun _ _ _ h => h) (by assumption) (by rfl) ?_ ?_
      rotate_left
      · (intro W hSw; (try dsimp only at hSw); go_simp; try with_reducible rfl)
      try simp only [Act.put, List.setIfInBounds_toArray, List.set_cons_zero, List.set_cons_succ]
      refine Rel.heldTake (v := ?_) 4 rfl (by kernel_rfl) (by kernel_rfl) (by kernel_rfl) (fun _ _ _ h => h) (by assumption) (by rfl) ?_ ?_
      rotate_left
      · (intro W hSw; (try dsimp only at hSw); go_simp; try with_reducible rfl)
      try simp only [Act.put, List.setIfInBounds_toArray, List.set_cons_zero, List.set_cons_succ]
      refine Rel.heldTake (v := ?_) 5 rfl (by kernel_rfl) (by kernel_rfl) (by kernel_rfl) (fun _ _ _ h => h) (by assumption) (by rfl) ?_ ?_
      rotate_left
      · (intro W hSw; (try dsimp only at hSw); go_simp; try with_reducible rfl)
      try simp only [Act.put, List.setIfInBounds_toArray, List.set_cons_zero, List.set_cons_succ]
      refine Rel.heldTake (v := ?_) 7 rfl (by kernel_rfl) (by kernel_rfl) (by kernel_rfl) (fun _ _ _ h => h) (by assumption) (by rfl) ?_ ?_
      rotate_left
      · (intro W hSw; (try dsimp only at hSw); go_simp; try with_reducible rfl)
      try simp only [Act.put, List.setIfInBounds_toArray, List.set_cons_zero, List.set_cons_succ]
      refine Rel.heldTake (v := ?_) 8 rfl (by kernel_rfl) (by kernel_rfl) (by kernel_rfl) (fun _ _ _ h => h) (by assumption) (by rfl) ?_ ?_
      rotate_left
      · (intro W hSw; (try dsimp only at hSw); go_simp; try with_reducible rfl)
      try simp only [Act.put, List.setIfInBounds_toArray, List.set_cons_zero, List.set_cons_succ]
      refine Rel.heldTake (v := ?_) 9 rfl (by kernel_rfl) (by kernel_rfl) (by kernel_rfl) (fun _ _ _ h => h) (by assumption) (by rfl) ?_ ?_
      rotate_left
      · (intro W hSw; (try dsimp only at hSw); go_simp; try with_reducible rfl)
      try simp only [Act.put, List.setIfInBounds_toArray, List.set_cons_zero, List.set_cons_succ]
      refine Rel.heldTake (v := ?_) 10 rfl (by kernel_rfl) (by kernel_rfl) (by kernel_rfl) (fun _ _ _ h => h) (by assumption) (by rfl) ?_ ?_
      rotate_left
      · (intro W hSw; (try dsimp only at hSw); go_simp; try with_reducible rfl)
      try simp only [Act.put, List.setIfInBounds_toArray, List.set_cons_zero, List.set_cons_succ]
      refine Rel.heldTake (v := ?_) 12 rfl (by kernel_rfl) (by kernel_rfl) (by kernel_rfl) (fun _ _ _ h => h) (by assumption) (by rfl) ?_ ?_
      rotate_left
      · (intro W hSw; (try dsimp only at hSw); go_simp; try with_reducible rfl)
      try simp only [Act.put, List.setIfInBounds_toArray, List.set_cons_zero, List.set_cons_succ]
      refine Rel.heldTake (v := ?_) 13 rfl (by kernel_rfl) (by kernel_rfl) (by kernel_rfl) (fun _ _ _ h => h) (by assumption) (by rfl) ?_ ?_
      rotate_left
      · (intro W hSw; (try dsimp only at hSw); go_simp; try with_reducible rfl)
      try simp only [Act.put, List.setIfInBounds_toArray, List.set_cons_zero, List.set_cons_succ]
      refine Rel.heldTake (v := ?_) 14 rfl (by kernel_rfl) (by kernel_rfl) (by kernel_rfl) (fun _ _ _ h => h) (by assumption) (by rfl) ?_ ?_
      rotate_left
      · (intro W hSw; (try dsimp only at hSw); go_simp; try with_reducible rfl)
      try simp only [Act.put, List.setIfInBounds_toArray, List.set_cons_zero, List.set_cons_succ]
      refine Rel.heldTake (v := ?_) 15 rfl (by kernel_rfl) (by kernel_rfl) (by kernel_rfl) (fun _ _ _ h => h) (by assumption) (by rfl) ?_ ?_
      rotate_left
      · (intro W hSw; (try dsimp only at hSw); go_simp; try with_reducible rfl)
      try simp only [Act.put, List.setIfInBounds_toArray, List.set_cons_zero, List.set_cons_succ]
      refine Rel.heldNext 6 rfl (by kernel_rfl) fun K hK => ?_
      go_simp
      refine (cA w4 D4).mono ?_
      rintro e w5 ⟨rfl, hb5⟩
      have D5 := D4.mono hb5
      replace gT := gT.mono hb5
      replace ow := ow.mono hb5
      replace hB := below2 hB hb5
      clear hb5
      refine hK.out _ _ ⟨gT.cell (j := 0) rfl, gT.cell (j := 1) rfl, gT.cell (j := 2) rfl⟩ (fun hH1 => ?_)
      clear hK K
      try simp only [Act.put, List.setIfInBounds_toArray, List.set_cons_zero, List.set_cons_succ]
      refine Rel.heldNext 11 rfl (by kernel_rfl) fun K hK => ?_
      go_simp
      refine (cB w5 D5).mono ?_
      rintro e w6 ⟨rfl, hb6⟩
      have D6 := D5.mono hb6
      replace gT := gT.mono hb6
      replace ow := ow.mono hb6
      replace hB := below2 hB hb6
      clear hb6
      refine hK.out _ _ ⟨gT.cell (j := 0) rfl, gT.cell (j := 1) rfl, gT.cell (j := 2) rfl⟩ (fun hH2 => ?_)
      clear hK K
      try simp only [Act.put, List.setIfInBounds_toArray, List.set_cons_zero, List.set_cons_succ]
      refine Rel.heldNext 16 rfl (by kernel_rfl) fun K hK => ?_
      go_simp
      refine (cC w6 D6).mono ?_
      rintro e w7 ⟨rfl, hb7⟩
      replace gT := gT.mono hb7
      replace ow := ow.mono hb7
      replace hB := below2 hB hb7
      clear hb7
      refine hK.out _ _ ⟨gT.cell (j := 0) rfl, gT.cell (j := 1) rfl, gT.cell (j := 2) rfl⟩ (fun hH3 => ?_)
      clear hK K
      try simp only [Act.put, List.setIfInBounds_toArray, List.set_cons_zero, List.set_cons_succ]
      refine Rel.heldTake (v := ?_) 17 rfl (by kernel_rfl) (by kernel_rfl) (by kernel_rfl) (fun _ _ _ h => h) (by assumption) (by rfl) ?_ ?_
      rotate_left
      · (intro W hSw; (try dsimp only at hSw); go_simp; try with_reducible rfl)
      try simp only [Act.put, List.setIfInBounds_toArray, List.set_cons_zero, List.set_cons_succ]
      refine Rel.heldTake (v := ?_) 18 rfl (by kernel_rfl) (by kernel_rfl) (by kernel_rfl) (fun _ _ _ h => h) (by assumption) (by rfl) ?_ ?_
      rotate_left
      · (intro W hSw; (try dsimp only at hSw); go_simp; try with_reducible rfl)
      try simp only [Act.put, List.setIfInBounds_toArray, List.set_cons_zero, List.set_cons_succ]
      have hiE : i < es.length := by have := hel.out; omega
      have k0 := ow.cellE (i := i) (j := 0) default hiE (by decide) rfl
      have k1 := ow.cellE (i := i) (j := 1) default hiE (by decide) rfl
      have k2 := ow.cellE (i := i) (j := 2) default hiE (by decide) rfl
      have k3 := ow.cellE (i := i) (j := 3) default hiE (by decide) rfl
      have k4 := ow.cellE (i := i) (j := 4) default hiE (by decide) rfl
      have k5 := ow.cellE (i := i) (j := 5) default hiE (by decide) rfl
      rw [show i * eqL.m + 0 = i * 6 from rfl] at k0
      rw [show i * eqL.m + 1 = i * 6 + 1 from rfl] at k1
      rw [show i * eqL.m + 2 = i * 6 + 2 from rfl] at k2
      rw [show i * eqL.m + 3 = i * 6 + 3 from rfl] at k3
      rw [show i * eqL.m + 4 = i * 6 + 4 from rfl] at k4
      rw [show i * eqL.m + 5 = i * 6 + 5 from rfl] at k5
      obtain ⟨_, cs, gE⟩ := ow.blkE
      have kf := gE.free
      have own' := ow.setEq i hiE ⟨A, B, C⟩
      refine Rel.heldLast 19 rfl (by kernel_rfl) rfl (by kernel_rfl) fun K hK => ?_
      go_simp
      refine hK.out _ _ ?_
      clear hK K hH0 hH1 hH2 hH3 k0 k1 k2 k3 k4 k5 kf
      have hBn := (((((hB.setCell (p := ⟨w.heap.size, i * 6, none⟩) (Nat.le_refl _) (.int .u64 A.b)).setCell (p := ⟨w.heap.size, i * 6 + 1, none⟩) (Nat.le_refl _) (.int .u64 A.s)).setCell (p := ⟨w.heap.size, i * 6 + 2, none⟩) (Nat.le_refl _) (.int .u64 B.b)).setCell (p := ⟨w.heap.size, i * 6 + 3, none⟩) (Nat.le_refl _) (.int .u64 B.s)).setCell (p := ⟨w.heap.size, i * 6 + 4, none⟩) (Nat.le_refl _) (.int .u64 C.b)).setCell (p := ⟨w.heap.size, i * 6 + 5, none⟩) (Nat.le_refl _) (.int .u64 C.s)
      go_wp2
      go_roundw
      case rel => exact ⟨i + 1, by omega, by go_num, hBn, _, own', hide (by rw [List.length_set]; exact hel.out), hnx⟩
      case measure => simp [intOf]; omega
    · obtain rfl : i = n := by omega
      have hfin : es = Rv.map fun r => eqnV p Wl v r.val := eqs_ext (by have := hel.out; have := hn'.out; omega) (by rw [hn'.out]; exact hes.out)
      go_wp2
      go_ret
      exact ⟨_, rfl, by rw [← hfin]; exact ow, hB⟩
end Go.Proofs.Ytlgjnidphldiiaa
