/- Exhaustive search: a new search. -/
import Derived.Test.YtlgjnidphldiiaaExK
namespace Go.Proofs.Ytlgjnidphldiiaa
open Go.ChangeShapes Go.WideShapes Go.ChangeAt Go.RowKit

theorem Try.infoRs : (Try.prog.info? 32).map (fun i => (i.zero, i.size, i.bytes)) = some (some (.slice none 0 0), 1, 24) := by kernel_rfl
theorem rws_made (V : Nat) : madeCells #[.slice none 0 0] V = ((List.range V).map (rwS (fun _ => none) (fun _ => 0) [])).toArray := by
  apply Array.ext'
  refine List.ext_getElem (by simp [madeCells]) fun i h1 h2 => ?_
  simp only [madeCells, List.size_toArray, List.length_cons, List.length_nil, Nat.zero_add, Nat.mod_one, Array.toList_map, List.getElem_map]
  rfl
theorem own_made {w : World} {base b cap : Nat} {E : TypeId} {k : IntKind} {z : Int} (g : Blk w b (madeCells #[.int k z] cap) E) (hb : base ≤ b) (hm : cap ≤ maxLen) : Own w base E k (.slice (some ⟨b, 0, none⟩) cap cap) (List.replicate cap z) := by
  have h : (madeCells #[.int k z] cap) = (List.replicate cap (Value.int k z)).toArray := by
    unfold madeCells
    apply Array.ext'
    rw [Array.toList_map]
    refine List.ext_getElem (by simp) fun i h1 h2 => ?_
    have e : i % 1 = 0 := Nat.mod_one i
    simp [e]
  have := Own.of_blk (k := k) (xs := List.replicate cap z) (cap := cap) hb g (by simp) hm (by rw [h]; simp) (by rw [h]; simp)
  simpa using this
/-- A block of its own that makes. -/
def IsMd (n : Nat) (cs : Array Value) (T : TypeId) (V : Nat) (v : Value) (w : World) : Prop := ∃ b, v = .slice (some ⟨b, 0, none⟩) V V ∧ n ≤ b ∧ Blk w b cs T
theorem IsMd.mono {n : Nat} {cs : Array Value} {T : TypeId} {V : Nat} {v : Value} {w w' : World} (h : IsMd n cs T V v w) (hb : Below w.heap.size w w') : IsMd n cs T V v w' := by
  obtain ⟨b, h1, h2, h3⟩ := h
  exact ⟨b, h1, h2, h3.mono hb⟩
theorem rU_md {P : Program} (W : World) (p : Later) (fr : Bool) (cs : Array Value) (T : TypeId) (V : Nat) :
    Rel.rUpon P (later W p) fr (IsMd W.heap.size cs T V) (.ok (.value (.slice (some ⟨(later W p).heap.size, 0, none⟩) V V)) ((later W p).alloc (.cells cs T))) :=
  ⟨(Below.refl _ _).alloc (Nat.le_refl _) _, ⟨_, rfl, (below_later W p).size, Blk.new _ _ _⟩, fun _ => ⟨_, rfl, Nat.le_refl _, by simp⟩⟩
/-- The list of inverses. -/
def IsInv (n p : Nat) (v : Value) (w : World) : Prop := ∃ g L, v = .slice (some ⟨g, 0, none⟩) p p ∧ Own w n 22 .u64 (.slice (some ⟨g, 0, none⟩) p p) L ∧ L.length = p ∧ InvL p p L
theorem IsInv.mono {n p : Nat} {v : Value} {w w' : World} (h : IsInv n p v w) (hb : Below w.heap.size w w') : IsInv n p v w' := by
  obtain ⟨g, L, h1, h2, h3, h4⟩ := h
  exact ⟨g, L, h1, h2.mono hb, h3, h4⟩
theorem rU_inv {f : FuncId} {args : Array Value} {W : World} {q : Later} {p : Nat} (h : Calls Try.prog f args (later W q) fun en w' => ∃ g L, en = .returned (.slice (some ⟨g, 0, none⟩) p p) ∧ Own w' (later W q).heap.size 22 .u64 (.slice (some ⟨g, 0, none⟩) p p) L ∧ L.length = p ∧ InvL p p L ∧ Below (later W q).heap.size (later W q) w') :
    Rel.rUpon Try.prog (later W q) true (IsInv W.heap.size p) (.ok (.enter f args) (later W q)) :=
  ⟨rfl, h.mono fun _ _ ⟨g, L, he, ho, hl, hi, hb⟩ => ⟨_, he, hb, ⟨g, L, rfl, ho.low (below_later W q).size, hl, hi⟩, fun _ => ⟨g, rfl, (ho.lt (b := g) rfl).1, (ho.lt (b := g) rfl).2⟩⟩⟩

theorem lin_mem {p hi : Int} {x : Lin} (h : LinIn p 0 hi x) : ∀ t ∈ x, 0 ≤ t.1 ∧ t.1 < hi := fun t ht => ⟨by
  obtain ⟨i, hi, rfl⟩ := List.mem_iff_getElem.1 ht
  have := asc_get x 0 h.2.1 i hi
  rw [List.getD_eq_getElem?_getD, List.getElem?_eq_getElem hi] at this
  exact this, h.2.2 t ht⟩
theorem gtL_lt {p : Int} {V : Nat} {x : Lin} (h : LinIn p 0 V x) (h0 : 0 < V) : gtL x < V := by
  by_cases e : x = []
  · subst e; exact h0
  · obtain ⟨y, t, _, _, _, h3, h4⟩ := lin_last h e
    omega
theorem Grew.cell' {w w' : World} {v v' u : Value} {a : Addr} (h : Grew w w' v v') (hc : w.cell? a = some u) (hn : v.ownBlock ≠ some a.block) : w'.cell? a = some u := by
  rw [h.by_.cell_far a (cell_lt hc) (fun e => hn e.symm)]; exact hc
/-- What newSearch answers. -/
def RetN (w : World) (p V : Nat) (R : List Row3) (en : Ending) (w' : World) : Prop :=
  ∃ q last gi gr gw IL Wl, en = .returned (.pointer (some ⟨q, 0, none⟩)) ∧ SS w w' q p V last gi gr gw IL R Wl ∧ AllW Wl ∧ Wl.length = V ∧ Wl.take 1 = [1] ∧ InvL p p IL ∧ IL.length = p ∧ (∀ r ∈ R, gtR r ≤ last) ∧ last < V

set_option maxRecDepth 10000 in
set_option maxHeartbeats 16000000 in
theorem newSearch_any (p V : Nat) (pub : Int) (ra : Option Addr) (Rs : List Rw) (rc : Nat) (w : World) (hR : RowsP w ra rc Rs) (hv : vld (p : Int) = true) (h257 : p ≤ 257) (h0 : 0 < V) (hV : V ≤ 65536) (hok : ∀ r ∈ Rs, RowOk p V r.val) (hn : Rs.length ≤ 16384) :
    Calls Try.prog 103 #[.agg #[.int .u64 p, .int .i64 pub, .int .i64 V, .slice ra Rs.length rc]] w (RetN w p V (Rs.map Rw.val)) := by
  have hp := vld_pos hv
  have cI := fun W => inverses_any p W hv h257
  have m1 := fun W => run_mkG lcL (P := Try.prog) (t := 141) (e := 32) Try.underlying141 Try.infoRs (by decide) (N := (V : Int)) (C := (V : Int)) V V rfl rfl (Nat.le_refl _) (by omega) W
  have e1 : V * lcL.m = V := Nat.mul_one V
  simp only [e1] at m1
  clear e1
  have m2 := fun W => run_mk (P := Try.prog) (t := 54) (e := 22) Try.underlying54 Try.infoU64 (by decide) V V (Nat.le_refl _) (by omega) W
  have hVI : (V : Int) ≤ 65536 := by omega
  have hVI0 : (0 : Int) < V := by omega
  obtain ⟨n, hnl⟩ : ∃ n, Rs.length = n := ⟨_, rfl⟩
  rw [hnl] at hn
  have hnI : (n : Int) ≤ 16384 := by omega
  rw [hnl]
  replace hok := hide hok
  replace hnl := hide hnl
  replace hv := hide hv
  go_enter Try.func103, Try.ntmps103
  go_wp2_with fail
  refine name_world fun w3 hN => ?_
  have g0 : Blk w3 w.heap.size #[.int .u64 p, .int .i64 pub, .int .i64 V, .slice ra n rc] 34 := by rw [hN]; exact Blk.newAt rfl
  have hB : Below w.heap.size w w3 := by rw [hN]; exact (Below.refl _ _).alloc (Nat.le_refl _) _
  clear hN
  have k0 := cell_later' (g0.cell (j := 0) (v := .int .u64 p) rfl); have k2 := cell_later' (g0.cell (j := 2) (v := .int .i64 V) rfl)
  refine Rel.wp_region_mix 11 [4, 10] [(4, IsInv w3.heap.size p), (7, IsMd w3.heap.size (madeCells #[.slice none 0 0] V) 32 V), (10, IsMd w3.heap.size (madeCells #[.int .u64 0] V) 22 V)] Try.mixed (by kernel_rfl) (by kernel_rfl) ?_ ?_
  rotate_left
  simp only [List.take_succ_cons, List.take_zero, List.drop_succ_cons, List.drop_zero, List.map_cons, List.map_nil]
  repeat (first | (refine Rel.wpA_b (by rfl) ?_) | (refine Rel.wpA_step (by rfl) fun K hK => ?_; go_simp; first | (refine hK _ ?_; clear hK K) | (apply Exists.intro; refine ⟨fun _ => ?_, hK _ ?_⟩; (first | fail); clear hK K)))
  refine Rel.wpA_nil ?_
  rotate_left
  · intro z hz v u u' h1 h2
    simp only [List.mem_cons, List.not_mem_nil, or_false] at hz
    rcases hz with rfl | rfl | rfl
    · exact IsInv.mono h1 h2
    · exact IsMd.mono h1 h2
    · exact IsMd.mono h1 h2
  refine Rel.wpB_step _ rfl rfl (fun p' hc => ?_) (fun v4 => ?_)
  · go_simp
    exact rU_inv (cI _)
  refine Rel.wpB_step _ rfl rfl (fun p' hc => ?_) (fun v7 => ?_)
  · go_simp
    exact rU_md _ _ _ _ _ _
  refine Rel.wpB_step _ rfl rfl (fun p' hc => ?_) (fun v10 => ?_)
  · go_simp
    exact rU_md _ _ _ _ _ _
  refine Rel.wpB_nil ?_
  intro p' hctx hfr
  simp only [List.nil_append, List.cons_append, List.mem_cons, List.not_mem_nil, or_false, forall_eq_or_imp, forall_eq] at hctx
  obtain ⟨⟨gi, IL, rfl, oI, lI, iI⟩, ⟨gr, rfl, lr, gr3⟩, ⟨gw, rfl, lw, gw3⟩⟩ := hctx
  have hb4 : Below w3.heap.size w3 (later w3 p') := below_later _ _
  have hne : gi ≠ gw := fun e => by
    simp [Rel.blkOf] at hfr
    exact hfr e
  clear hfr k0 k2 m1 m2 cI
  generalize later w3 p' = w4 at *
  have hz3 := g0.lt
  replace g0 := g0.mono hb4
  have hz := hB.size
  have hz4 := hb4.size
  replace hB := below2 hB hb4
  have ow4 : Own w4 w.heap.size 22 .u64 (.slice (some ⟨gw, 0, none⟩) V V) (List.replicate V 0) := own_made gw3 (by omega) (by simp only [maxLen]; omega)
  replace oI := oI.low hz
  have hlr : w.heap.size ≤ gr := by omega
  have fF := fun o => (ow4.alloc o).free 0
  have fC := fun o => (ow4.alloc o).cell (j := 0) h0
  have kC0 := fun o => (g0.alloc o).cell (j := 3) (v := .slice ra n rc) rfl
  clear hb4
  go_wp2_with fail
  refine name_world fun w5 hN => ?_
  have NS0 : NS w w5 w4.heap.size p V 0 gi gr gw IL ((List.replicate V 0).set 0 1) [] (fun _ => none) (fun _ => 0) := by
    rw [hN]
    have b1 := fun o => (Below.refl w4.heap.size w4).alloc (Nat.le_refl _) o
    have k := fun (o : Obj) => KX.set (X := XU8) (w := w4.alloc o) (j := 0) (u := .int .u64 1) (gw3.mono (b1 o)) rfl (show w.heap.size ≤ gw by omega)
    have ks := k (.cells #[.int .u64 p, .slice (some ⟨gi, 0, none⟩) p p, .slice (some ⟨gr, 0, none⟩) V V, .int .i64 0, .slice (some ⟨gw, 0, none⟩) V V] 143)
    refine ⟨((hB.alloc (by omega) _).trans ks.below), by omega, hlr, ks.typ _ _ _ (Blk.new _ _ _) (by unfold XU8; decide), ?_, (ow4.alloc _).set 0 1, hne, ?_, fun v hv => ?_, fun u v _ _ _ g he => ?_⟩
    · exact (oI.alloc _).other (by intro e; injection e with e; exact hne e) _
    · rw [← rws_made]
      exact ks.typ _ _ _ (gr3.alloc _) (by unfold XU8; decide)
    · exact OwnG.nil _ _ _ _
    · cases he
  have g5 : Blk w5 w.heap.size #[.int .u64 p, .int .i64 pub, .int .i64 V, .slice ra n rc] 34 := by
    rw [hN]
    exact (g0.alloc _).other (by intro e; have := g0.lt; omega) _ _
  clear hN fF fC kC0 gr3 gw3 ow4 oI g0 lr lw
  clear hz3 hz4 hz hlr
  have hAW : AllW ((List.replicate V (0 : Int)).set 0 1) := fun u hu => by
    rcases List.mem_or_eq_of_mem_set hu with hu | hu
    · rw [List.eq_of_mem_replicate hu]; omega
    · subst hu; omega
  have hWl : ((List.replicate V (0 : Int)).set 0 1).length = V := by rw [List.length_set, List.length_replicate]
  have hW1 : ((List.replicate V (0 : Int)).set 0 1).take 1 = [1] := by
    obtain ⟨m, rfl⟩ : ∃ m, V = m + 1 := ⟨V - 1, by omega⟩
    rfl
  obtain ⟨Wl, hWd⟩ : ∃ Wl, Wl = (List.replicate V (0 : Int)).set 0 1 := ⟨_, rfl⟩
  rw [← hWd] at NS0 hAW hWl hW1
  obtain ⟨q, hq⟩ : ∃ q, w4.heap.size = q := ⟨_, rfl⟩
  rw [hq] at NS0
  rw [hq]
  clear hWd hq hB
  replace hAW := hide hAW
  replace hWl := hide hWl
  replace hW1 := hide hW1
  replace iI := hide iI
  replace lI := hide lI
  go_loopw [28] (fun t28 wr => ∃ (i last : Nat) (A : Nat → Option Addr) (C : Nat → Nat), i ≤ n ∧ t28 = .int .i64 i ∧ NS w wr q p V last gi gr gw IL Wl (Rs.take i) A C ∧ Blk wr w.heap.size #[.int .u64 p, .int .i64 pub, .int .i64 V, .slice ra n rc] 34 ∧ last < V ∧ Hid (∀ r ∈ Rs.take i, gtR r.val ≤ last)) (fun t28 _ => n - (intOf t28).toNat)
  case atStart => exact ⟨0, 0, fun _ => none, fun _ => 0, Nat.zero_le _, rfl, NS0, g5, h0, hide fun r hr => by simp at hr⟩
  case round =>
    clear NS0 g5
    obtain ⟨i, last, A, C, hi, rfl, D, g5, hlV, hlast⟩ := hrel
    by_cases hlt : i < n
    · have hltI : (i : Int) < n := by omega
      have hi0 : (0 : Int) ≤ i := by omega
      have hiR : i < Rs.length := by have := hnl.out; omega
      obtain ⟨b, off, rfl, hbl, hc⟩ := hR.s (by omega)
      obtain ⟨d0, d1, d2⟩ := hc i hiR
      have hmem := getD_mem' hiR default
      have hok1 := hok.out _ hmem
      have hlc := hR.ok _ hmem
      have htk : Rs.take (i + 1) = Rs.take i ++ [Rs.getD i default] := take_succ_getD _ _ hiR
      obtain ⟨r, hr⟩ : ∃ r, r = Rs.getD i default := ⟨_, rfl⟩
      rw [← hr] at d0 d1 d2 hok1 hlc htk
      replace hr := hide hr
      replace d0 := cell_below D.below d0
      replace d1 := cell_below D.below d1
      replace d2 := cell_below D.below d2
      clear hc hmem
      have hnb : ∀ v, v < V → (rwS A C (Rs.take i) v).ownBlock ≠ some wr.heap.size := fun v hv e => absurd ((D.own v hv).lt e).2 (Nat.lt_irrefl _)
      obtain ⟨⟨ra1, ra2⟩, ⟨rb1, rb2⟩, ⟨rc1, rc2⟩⟩ := hok1
      obtain ⟨la, lb, lc⟩ := hlc
      have cA := fun W (h : Below w.heap.size w W) => greatest_any r.a V W (la.mono h) (lin_mem ra1) (Nat.le_trans ra2 (by decide))
      have cB := fun W (h : Below w.heap.size w W) => greatest_any r.b V W (lb.mono h) (lin_mem rb1) (Nat.le_trans rb2 (by decide))
      have cC := fun W (h : Below w.heap.size w W) => greatest_any r.c V W (lc.mono h) (lin_mem rc1) (Nat.le_trans rc2 (by decide))
      have ga : gtL r.a.l < V := gtL_lt ra1 h0
      have gb : gtL r.b.l < V := gtL_lt rb1 h0
      have gc : gtL r.c.l < V := gtL_lt rc1 h0
      have hgR : gtR r.val = max (max (gtL r.a.l) (gtL r.b.l)) (gtL r.c.l) := rfl
      generalize gtL r.a.l = xa at *
      generalize gtL r.b.l = xb at *
      generalize gtL r.c.l = xc at *
      clear ra1 ra2 rb1 rb2 rc1 rc2
      replace hgR := hide hgR
      go_wp2_with fail
      refine name_world fun w6 hN => ?_
      have gT : Blk w6 wr.heap.size #[.slice r.a.ad r.a.l.length r.a.cap, .slice r.b.ad r.b.l.length r.b.cap, .slice r.c.ad r.c.l.length r.c.cap] 106 := by rw [hN]; exact Blk.newAt rfl
      have hb6 : Below wr.heap.size wr w6 := by rw [hN]; exact (Below.refl _ _).alloc (Nat.le_refl _) _
      replace D := D.mono hb6
      replace g5 := g5.mono hb6
      clear hN d0 d1 d2 hb6
      refine Rel.region_any Try.mixed fun w7 hb7 => ?_
      replace gT := gT.mono hb7
      replace D := D.mono hb7
      replace g5 := g5.mono hb7
      clear hb7
      refine Rel.any_held (fun W => W.cell? ⟨wr.heap.size, 0, none⟩ = some (.slice r.a.ad r.a.l.length r.a.cap) ∧ W.cell? ⟨wr.heap.size, 1, none⟩ = some (.slice r.b.ad r.b.l.length r.b.cap) ∧ W.cell? ⟨wr.heap.size, 2, none⟩ = some (.slice r.c.ad r.c.l.length r.c.cap)) 10 ⟨gT.cell (j := 0) rfl, gT.cell (j := 1) rfl, gT.cell (j := 2) rfl⟩ fun hH0 => ?_
      refine Rel.heldTake (v := ?_) 0 rfl (by kernel_rfl) (by kernel_rfl) (by kernel_rfl) (fun _ _ _ h => h) (by assumption) (by rfl) ?_ ?_
      rotate_left
      · (intro W hSw; (try dsimp only at hSw); go_simp; try with_reducible rfl)
      try simp only [Act.put, List.setIfInBounds_toArray, List.set_cons_zero, List.set_cons_succ]
      refine Rel.heldTake (v := ?_) 1 rfl (by kernel_rfl) (by kernel_rfl) (by kernel_rfl) (fun _ _ _ h => h) (by assumption) (by rfl) ?_ ?_
      rotate_left
      · (intro W hSw; (try dsimp only at hSw); go_simp; try with_reducible rfl)
      try simp only [Act.put, List.setIfInBounds_toArray, List.set_cons_zero, List.set_cons_succ]
      refine Rel.heldTake (v := ?_) 3 rfl (by kernel_rfl) (by kernel_rfl) (by kernel_rfl) (fun _ _ _ h => h) (by assumption) (by rfl) ?_ ?_
      rotate_left
      · (intro W hSw; (try dsimp only at hSw); go_simp; try with_reducible rfl)
      try simp only [Act.put, List.setIfInBounds_toArray, List.set_cons_zero, List.set_cons_succ]
      refine Rel.heldTake (v := ?_) 4 rfl (by kernel_rfl) (by kernel_rfl) (by kernel_rfl) (fun _ _ _ h => h) (by assumption) (by rfl) ?_ ?_
      rotate_left
      · (intro W hSw; (try dsimp only at hSw); go_simp; try with_reducible rfl)
      try simp only [Act.put, List.setIfInBounds_toArray, List.set_cons_zero, List.set_cons_succ]
      refine Rel.heldTake (v := ?_) 6 rfl (by kernel_rfl) (by kernel_rfl) (by kernel_rfl) (fun _ _ _ h => h) (by assumption) (by rfl) ?_ ?_
      rotate_left
      · (intro W hSw; (try dsimp only at hSw); go_simp; try with_reducible rfl)
      try simp only [Act.put, List.setIfInBounds_toArray, List.set_cons_zero, List.set_cons_succ]
      refine Rel.heldTake (v := ?_) 7 rfl (by kernel_rfl) (by kernel_rfl) (by kernel_rfl) (fun _ _ _ h => h) (by assumption) (by rfl) ?_ ?_
      rotate_left
      · (intro W hSw; (try dsimp only at hSw); go_simp; try with_reducible rfl)
      try simp only [Act.put, List.setIfInBounds_toArray, List.set_cons_zero, List.set_cons_succ]
      refine Rel.heldNext 2 rfl (by kernel_rfl) fun K hK => ?_
      go_simp
      refine (cA w7 D.below).mono ?_
      rintro e w8 ⟨rfl, hb8⟩
      replace gT := gT.mono hb8
      replace D := D.mono hb8
      replace g5 := g5.mono hb8
      clear hb8
      refine hK.out _ _ ⟨gT.cell (j := 0) rfl, gT.cell (j := 1) rfl, gT.cell (j := 2) rfl⟩ (fun hH1 => ?_)
      clear hK K
      try simp only [Act.put, List.setIfInBounds_toArray, List.set_cons_zero, List.set_cons_succ]
      refine Rel.heldNext 5 rfl (by kernel_rfl) fun K hK => ?_
      go_simp
      refine (cB w8 D.below).mono ?_
      rintro e w9 ⟨rfl, hb9⟩
      replace gT := gT.mono hb9
      replace D := D.mono hb9
      replace g5 := g5.mono hb9
      clear hb9
      refine hK.out _ _ ⟨gT.cell (j := 0) rfl, gT.cell (j := 1) rfl, gT.cell (j := 2) rfl⟩ (fun hH2 => ?_)
      clear hK K
      try simp only [Act.put, List.setIfInBounds_toArray, List.set_cons_zero, List.set_cons_succ]
      refine Rel.heldNext 8 rfl (by kernel_rfl) fun K hK => ?_
      go_simp
      refine (cC w9 D.below).mono ?_
      rintro e wA ⟨rfl, hbA⟩
      replace gT := gT.mono hbA
      replace D := D.mono hbA
      replace g5 := g5.mono hbA
      clear hbA
      refine hK.out _ _ ⟨gT.cell (j := 0) rfl, gT.cell (j := 1) rfl, gT.cell (j := 2) rfl⟩ (fun hH3 => ?_)
      clear hK K
      try simp only [Act.put, List.setIfInBounds_toArray, List.set_cons_zero, List.set_cons_succ]
      clear cA cB cC
      refine Rel.heldTake (v := ?_) 9 rfl (by kernel_rfl) (by kernel_rfl) (by kernel_rfl) (fun _ _ _ h => h) (by assumption) (by rfl) ?_ ?_
      rotate_left
      · (intro W hSw; (try dsimp only at hSw); go_simp; try with_reducible rfl)
      try simp only [Act.put, List.setIfInBounds_toArray, List.set_cons_zero, List.set_cons_succ]
      obtain ⟨v, hvd⟩ : ∃ v, v = gtR r.val := ⟨_, rfl⟩
      have hmx : (if (if xa < xb then (xb : Int) else xa) < xc then (xc : Int) else if xa < xb then (xb : Int) else xa) = (v : Int) := by
        rw [hvd, hgR.out]
        repeat' split
        all_goals omega
      have hvV : v < V := by rw [hvd, hgR.out]; omega
      rw [hmx]
      replace hvd := hide hvd
      clear hmx hgR ga gb gc
      refine Rel.heldLast 10 rfl (by kernel_rfl) rfl (by kernel_rfl) fun K hK => ?_
      go_simp
      refine hK.out _ _ ?_
      clear hK K hH0 hH1 hH2 hH3
      have hvI : (v : Int) < V := by omega
      have hvI0 : (0 : Int) ≤ v := by omega
      obtain ⟨m, hm⟩ : ∃ m, m = (rwAt (Rs.take i) v).length := ⟨_, rfl⟩
      have hml : m ≤ 16384 := by
        have h1 : (rwAt (Rs.take i) v).length ≤ (Rs.take i).length := List.length_filter_le _ _
        rw [List.length_take] at h1
        omega
      have hrv : rwS A C (Rs.take i) v = .slice (A v) m (C v) := by unfold rwS; rw [hm]
      replace hm := hide hm
      go_wp2_with fail
      refine Rel.region_any Try.mixed fun wB hbB => ?_
      replace gT := gT.mono hbB
      replace D := D.mono hbB
      replace g5 := g5.mono hbB
      clear hbB
      have cv := D.cell hvV
      rw [hrv] at cv
      refine Rel.any_held (fun W => (W.cell? ⟨q, 2, none⟩ = some (.slice (some ⟨gr, 0, none⟩) V V) ∧ W.cell? ⟨gr, v, none⟩ = some (.slice (A v) m (C v))) ∧ W.cell? ⟨wr.heap.size, 0, none⟩ = some (.slice r.a.ad r.a.l.length r.a.cap) ∧ W.cell? ⟨wr.heap.size, 1, none⟩ = some (.slice r.b.ad r.b.l.length r.b.cap) ∧ W.cell? ⟨wr.heap.size, 2, none⟩ = some (.slice r.c.ad r.c.l.length r.c.cap)) 16 ⟨⟨D.blk.cell (j := 2) rfl, cv⟩, gT.cell (j := 0) rfl, gT.cell (j := 1) rfl, gT.cell (j := 2) rfl⟩ fun hH0 => ?_
      refine Rel.heldTake (v := ?_) 0 rfl (by kernel_rfl) (by kernel_rfl) (by kernel_rfl) (fun _ _ _ h => h) (by assumption) (by rfl) ?_ ?_
      rotate_left
      · (intro W hSw; (try dsimp only at hSw); go_simp; try with_reducible rfl)
      try simp only [Act.put, List.setIfInBounds_toArray, List.set_cons_zero, List.set_cons_succ]
      refine Rel.heldTake (v := ?_) 1 rfl (by kernel_rfl) (by kernel_rfl) (by kernel_rfl) (fun _ _ _ h => h) (by assumption) (by rfl) ?_ ?_
      rotate_left
      · (intro W hSw; (try dsimp only at hSw); go_simp; try with_reducible rfl)
      try simp only [Act.put, List.setIfInBounds_toArray, List.set_cons_zero, List.set_cons_succ]
      refine Rel.heldTake (v := ?_) 2 rfl (by kernel_rfl) (by kernel_rfl) (by kernel_rfl) (fun _ _ _ h => h) (by assumption) (by rfl) ?_ ?_
      rotate_left
      · (intro W hSw; (try dsimp only at hSw); go_simp; try with_reducible rfl)
      try simp only [Act.put, List.setIfInBounds_toArray, List.set_cons_zero, List.set_cons_succ]
      refine Rel.heldTake (v := ?_) 3 rfl (by kernel_rfl) (by kernel_rfl) (by kernel_rfl) (fun _ _ _ h => h) (by assumption) (by rfl) ?_ ?_
      rotate_left
      · (intro W hSw; (try dsimp only at hSw); go_simp; try with_reducible rfl)
      try simp only [Act.put, List.setIfInBounds_toArray, List.set_cons_zero, List.set_cons_succ]
      refine Rel.heldTake (v := ?_) 4 rfl (by kernel_rfl) (by kernel_rfl) (by kernel_rfl) (fun _ _ _ h => h) (by assumption) (by rfl) ?_ ?_
      rotate_left
      · (intro W hSw; (try dsimp only at hSw); go_simp; try with_reducible rfl)
      try simp only [Act.put, List.setIfInBounds_toArray, List.set_cons_zero, List.set_cons_succ]
      refine Rel.heldTake (v := ?_) 5 rfl (by kernel_rfl) (by kernel_rfl) (by kernel_rfl) (fun _ _ _ h => h) (by assumption) (by rfl) ?_ ?_
      rotate_left
      · (intro W hSw; (try dsimp only at hSw); go_simp; try with_reducible rfl)
      try simp only [Act.put, List.setIfInBounds_toArray, List.set_cons_zero, List.set_cons_succ]
      refine Rel.heldTake (v := ?_) 6 rfl (by kernel_rfl) (by kernel_rfl) (by kernel_rfl) (fun _ _ _ h => h) (by assumption) (by rfl) ?_ ?_
      rotate_left
      · (intro W hSw; (try dsimp only at hSw); go_simp; try with_reducible rfl)
      try simp only [Act.put, List.setIfInBounds_toArray, List.set_cons_zero, List.set_cons_succ]
      refine Rel.heldTake (v := ?_) 7 rfl (by kernel_rfl) (by kernel_rfl) (by kernel_rfl) (fun _ _ _ h => h) (by assumption) (by rfl) ?_ ?_
      rotate_left
      · (intro W hSw; (try dsimp only at hSw); go_simp; try with_reducible rfl)
      try simp only [Act.put, List.setIfInBounds_toArray, List.set_cons_zero, List.set_cons_succ]
      refine Rel.heldTake (v := ?_) 8 rfl (by kernel_rfl) (by kernel_rfl) (by kernel_rfl) (fun _ _ _ h => h) (by assumption) (by rfl) ?_ ?_
      rotate_left
      · (intro W hSw; (try dsimp only at hSw); go_simp; try with_reducible rfl)
      try simp only [Act.put, List.setIfInBounds_toArray, List.set_cons_zero, List.set_cons_succ]
      refine Rel.heldTake (v := ?_) 9 rfl (by kernel_rfl) (by kernel_rfl) (by kernel_rfl) (fun _ _ _ h => h) (by assumption) (by rfl) ?_ ?_
      rotate_left
      · (intro W hSw; (try dsimp only at hSw); go_simp; try with_reducible rfl)
      try simp only [Act.put, List.setIfInBounds_toArray, List.set_cons_zero, List.set_cons_succ]
      refine Rel.heldTake (v := ?_) 10 rfl (by kernel_rfl) (by kernel_rfl) (by kernel_rfl) (fun _ _ _ h => h) (by assumption) (by rfl) ?_ ?_
      rotate_left
      · (intro W hSw; (try dsimp only at hSw); go_simp; try with_reducible rfl)
      try simp only [Act.put, List.setIfInBounds_toArray, List.set_cons_zero, List.set_cons_succ]
      refine Rel.heldTake (v := ?_) 11 rfl (by kernel_rfl) (by kernel_rfl) (by kernel_rfl) (fun _ _ _ h => h) (by assumption) (by rfl) ?_ ?_
      rotate_left
      · (intro W hSw; (try dsimp only at hSw); go_simp; try with_reducible rfl)
      try simp only [Act.put, List.setIfInBounds_toArray, List.set_cons_zero, List.set_cons_succ]
      refine Rel.heldTake (v := ?_) 12 rfl (by kernel_rfl) (by kernel_rfl) (by kernel_rfl) (fun _ _ _ h => h) (by assumption) (by rfl) ?_ ?_
      rotate_left
      · (intro W hSw; (try dsimp only at hSw); go_simp; try with_reducible rfl)
      try simp only [Act.put, List.setIfInBounds_toArray, List.set_cons_zero, List.set_cons_succ]
      refine Rel.heldNext 13 rfl (by kernel_rfl) fun K hK => ?_
      go_simp
      have bA := (Below.refl wB.heap.size wB).alloc (Nat.le_refl _) (.cells #[.slice r.a.ad r.a.l.length r.a.cap, .slice r.b.ad r.b.l.length r.b.cap, .slice r.c.ad r.c.l.length r.c.cap] 106)
      replace gT := gT.mono bA
      replace D := D.mono bA
      replace g5 := g5.mono bA
      replace cv := cell_below bA cv
      refine hK.out _ _ ⟨⟨D.blk.cell (j := 2) rfl, cv⟩, gT.cell (j := 0) rfl, gT.cell (j := 1) rfl, gT.cell (j := 2) rfl⟩ (fun hH1 => ?_)
      clear hK K
      try simp only [Act.put, List.setIfInBounds_toArray, List.set_cons_zero, List.set_cons_succ]
      have ownv := D.own v hvV
      have hnv := hnb v hvV
      rw [hrv] at ownv hnv
      refine Rel.heldNext 14 rfl (by kernel_rfl) fun K hK => ?_
      refine step_appX rwL (rwAt (Rs.take i) v) [r] rfl _ _ 32 rfl w.heap.size 106 (.agg #[.slice none 0 0, .slice none 0 0, .slice none 0 0]) 72 Try.underlying32 Try.infoRw rfl (by decide) _ 1 1 (some ⟨wB.heap.size, 0, none⟩) rfl rfl rfl ownv (SlG.one (Blk.new _ _ _) rfl) (by rw [← hm.out]; simp; omega) D.below.size ?_
      intro v' wD own' hg'
      obtain ⟨a', c', ve', _⟩ := own'.sl
      simp only [List.length_append, List.length_cons, List.length_nil, Nat.zero_add] at ve'
      have DD := D.push (r := r) (v := v) (a' := a') (c' := c') hvd.out.symm hvV (by rw [hrv, ← ve']; exact hg') (by rw [← ve']; exact own')
      rw [← hm.out] at ve' DD
      rw [← htk] at DD
      subst ve'
      have gTD := hg'.blk gT hnv
      have g5D := hg'.blk g5 (ownv.neq g5 (by decide))
      have gqD := hg'.blk D.blk (ownv.neq D.blk (by decide))
      have grD := hg'.blk D.grb (ownv.neq D.grb (by decide))
      have cvD := hg'.cell' cv (ownv.neq D.grb (by decide))
      have ffD := grD.free v
      refine hK.out _ _ ⟨⟨gqD.cell (j := 2) rfl, cvD⟩, gTD.cell (j := 0) rfl, gTD.cell (j := 1) rfl, gTD.cell (j := 2) rfl⟩ (fun hH2 => ?_)
      clear hK K
      try simp only [Act.put, List.setIfInBounds_toArray, List.set_cons_zero, List.set_cons_succ]
      refine Rel.heldTake (v := ?_) 15 rfl (by kernel_rfl) (by kernel_rfl) (by kernel_rfl) (fun _ _ _ h => h) (by assumption) (by rfl) ?_ ?_
      rotate_left
      · (intro W hSw; (try dsimp only at hSw); go_simp; try with_reducible rfl)
      try simp only [Act.put, List.setIfInBounds_toArray, List.set_cons_zero, List.set_cons_succ]
      refine Rel.heldLast 16 rfl (by kernel_rfl) rfl (by kernel_rfl) fun K hK => ?_
      go_simp
      refine hK.out _ _ ?_
      clear hK K hH0 hH1 hH2 cvD ffD grD gqD gTD own' hg' ownv hnv cv bA
      obtain ⟨l2, hl2⟩ : ∃ l2, l2 = max last v := ⟨_, rfl⟩
      have hmx : max (last : Int) (v : Int) = (l2 : Int) := by omega
      have hl2V : l2 < V := by omega
      have hlN : Hid (∀ x ∈ Rs.take (i + 1), gtR x.val ≤ l2) := hide fun x hx => by
        rw [htk] at hx
        rcases List.mem_append.1 hx with hx | hx
        · have := hlast.out x hx; omega
        · rw [List.mem_singleton] at hx; subst hx
          have := hvd.out; omega
      replace hl2 := hide hl2
      replace htk := hide htk
      have DE := DD.setLast l2
      have q3 := DD.blk.cell (j := 3) rfl
      have q3f := DD.blk.free 3
      have g5E := (g5D.other (b := w.heap.size) (c := gr) (by intro e; subst e; exact absurd (blk_type g5 D.grb) (by decide)) v (.slice a' (m + 1) c')).other (c := q) (by intro e; subst e; exact absurd (blk_type g5 D.blk) (by decide)) 3 (.int .i64 l2)
      clear D DD g5D
      go_wp2
      go_roundw
      case rel => exact ⟨i + 1, l2, _, _, by omega, by go_num, DE, g5E, hl2V, hlN⟩
      case measure => simp [intOf]; omega
    · obtain rfl : i = n := by omega
      have hall : Rs.take i = Rs := List.take_of_length_le (by rw [hnl.out]; exact Nat.le_refl _)
      rw [hall] at D hlast
      have hS := D.done (fun r hr => hR.ok r hr)
      have hfinal : RetN w p V (Rs.map Rw.val) (.returned (.pointer (some ⟨q, 0, none⟩))) wr := ⟨q, last, gi, gr, gw, IL, Wl, rfl, hS, hAW.out, hWl.out, hW1.out, iI.out, lI.out, fun r hr => by
        obtain ⟨x, hx, rfl⟩ := List.mem_map.1 hr
        exact hlast.out x hx, hlV⟩
      clear hall
      go_wp2
      exact bodyPost_ret (v := .pointer (some ⟨q, 0, none⟩)) (by simp [results, Try.results103, go_sem]) rfl hfinal
end Go.Proofs.Ytlgjnidphldiiaa
