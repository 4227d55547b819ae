/- Exhaustive search: Inputs of the program. -/
import Derived.Test.YtlgjnidphldiiaaExT
namespace Go.Proofs.Ytlgjnidphldiiaa
open Go.ChangeShapes Go.WideShapes Go.ChangeAt Go.RowKit

theorem KX.own64 {X : TypeId → Prop} {w w' : World} {base b0 : Nat} {E : TypeId} {v : Value} {xs : List Int} (k : KX X base w w') (hX : ¬ X E) (h : Own w b0 E .u64 v xs) : Own w' b0 E .u64 v xs := (k.own hX h.toG).toU
section
variable {w0 w w' : World} {q p V last gi gr gw : Nat} {IL : List Int} {R : List Row3} {Wl : List Int}
/-- A search stays when blocks of other types change. -/
theorem SS.kx {X : TypeId → Prop} (h : SS w0 w q p V last gi gr gw IL R Wl) (k : KX X w0.heap.size w w') (x1 : ¬ X 22) (x2 : ¬ X 143) (x3 : ¬ X 32) (x4 : ¬ X 106) : SS w0 w' q p V last gi gr gw IL R Wl := by
  obtain ⟨cs, g⟩ := h.grb
  have g' := k.typ _ _ _ g x3
  refine ⟨h.below.trans k.below, k.typ _ _ _ h.blk x2, k.own64 x1 h.inv, k.own64 x1 h.ow, h.neq, ⟨cs, g'⟩, fun v hv => ?_⟩
  obtain ⟨a, c, Rv, h1, h2, h3, h4⟩ := h.rows v hv
  have hh : w'.heap[gr]? = w.heap[gr]? := by
    have h1 : w.heap[gr]? = _ := g
    have h2 : w'.heap[gr]? = _ := g'
    rw [h1, h2]
  exact ⟨a, c, Rv, by rw [World.cell?_of_block (w := w) hh]; exact h1, k.own x4 h2, h3, h4⟩
theorem SS.gwlt (h : SS w0 w q p V last gi gr gw IL R Wl) : w0.heap.size ≤ gw ∧ gw < w.heap.size := h.ow.lt (b := gw) rfl
end
/-- A list of lists that a search leaves alone. -/
def LW (w : World) (base gw : Nat) (v : Value) (X : List (List Int)) : Prop := ∃ Xs, OwnG usL w base 54 v Xs ∧ (∀ s ∈ Xs, UsB w s ∧ s.b ≠ gw) ∧ Xs.map Us.l = X
theorem LW.ll {w : World} {base gw : Nat} {v : Value} {X : List (List Int)} (h : LW w base gw v X) : LL w base v X := by
  obtain ⟨Xs, h1, h2, h3⟩ := h
  exact ⟨Xs, h1, fun s hs => (h2 s hs).1, h3⟩
theorem LW.mono {w w' : World} {base gw : Nat} {v : Value} {X : List (List Int)} (h : LW w base gw v X) (hb : Below w.heap.size w w') : LW w' base gw v X := by
  obtain ⟨Xs, h1, h2, h3⟩ := h
  exact ⟨Xs, h1.mono hb, fun s hs => ⟨(h2 s hs).1.mono hb, (h2 s hs).2⟩, h3⟩
theorem LW.kw {w w' : World} {base b0 gw : Nat} {v : Value} {X : List (List Int)} (h : LW w base gw v X) (k : KW gw b0 w w') : LW w' base gw v X := by
  obtain ⟨Xs, h1, h2, h3⟩ := h
  exact ⟨Xs, k.own (by unfold XU8; decide) h1, fun s hs => ⟨k.oth _ _ _ (h2 s hs).1 (h2 s hs).2, (h2 s hs).2⟩, h3⟩
def XLs (T : TypeId) : Prop := T = 54
/-- One more list. -/
theorem LW.push {w w' : World} {base gw : Nat} {v v' : Value} {Xs : List Us} {X : List (List Int)} {s : Us} (h1 : OwnG usL w base 54 v Xs) (h2 : ∀ s ∈ Xs, UsB w s ∧ s.b ≠ gw) (h3 : Xs.map Us.l = X) (hs : UsB w s ∧ s.b ≠ gw) (hb : base ≤ w.heap.size) (hg : Grew w w' v v') (own' : OwnG usL w' base 54 v' (Xs ++ [s])) : LW w' base gw v' (X ++ [s.l]) ∧ KX XLs base w w' := by
  have k : KX XLs base w w' := KX.grew h1 hg rfl hb
  refine ⟨⟨Xs ++ [s], own', fun u hu => ?_, by rw [List.map_append, h3]; rfl⟩, k⟩
  rcases List.mem_append.1 hu with hu | hu
  · exact ⟨k.typ _ _ _ (h2 u hu).1 (by unfold XLs; decide), (h2 u hu).2⟩
  · rw [List.mem_singleton] at hu
    subst hu
    exact ⟨k.typ _ _ _ hs.1 (by unfold XLs; decide), hs.2⟩

def insOk (p pub vars : Int) (Rs : List Rw) (inputs : Int) : Bool := tblOk p pub vars Rs && decide (1 ≤ inputs) && decide (inputs ≤ 2) && decide (inputs < vars)
/-- What Inputs answers: the lists, the error. -/
def insN (p pub vars : Int) (Rs : List Rw) (inputs : Int) : List (List Int) := if insOk p pub vars Rs inputs then (if 257 < p then [] else inpL p.toNat (Rs.map Rw.val) vars.toNat inputs) else []
def insE (p pub vars : Int) (Rs : List Rw) (inputs : Int) : Int := if insOk p pub vars Rs inputs then (if 257 < p then 7 else 0) else 1
def RetIn (X : List (List Int)) (e : Int) (w : World) (en : Ending) (w' : World) : Prop := ∃ v, en = .returned (.tuple #[v, .int .i64 e]) ∧ LL w' w.heap.size v X ∧ Below w.heap.size w w'
theorem RetIn.no {p pub vars : Int} {Rs : List Rw} {inputs : Int} {w w' : World} (h : insOk p pub vars Rs inputs = false) (hb : Below w.heap.size w w') : RetIn (insN p pub vars Rs inputs) (insE p pub vars Rs inputs) w (.returned (.tuple #[.slice none 0 0, .int .i64 1])) w' :=
  ⟨_, by unfold insE; rw [h]; rfl, by unfold insN; rw [h]; exact LL.nil _ _, hb⟩

set_option maxRecDepth 10000 in
set_option maxHeartbeats 16000000 in
theorem Inputs23_any (p pub vars : Int) (ra : Option Addr) (R : List Rw) (rc : Nat) (inputs : Int) (w : World) (hR : RowsP w ra rc R) (hin : -9223372036854775808 ≤ inputs ∧ inputs ≤ 9223372036854775807) :
    Calls Try.prog 64 #[.agg #[.int .u64 p, .int .i64 pub, .int .i64 vars, .slice ra R.length rc], .int .i64 inputs] w (RetIn (insN p pub vars R inputs) (insE p pub vars R inputs) w) := by
  have cT := fun W h => tValid_any p pub vars ra R rc W h
  obtain ⟨hin1, hin2⟩ := hin
  have bad : insOk p pub vars R inputs = false → tblOk p pub vars R = true → Calls Try.prog 64 #[.agg #[.int .u64 p, .int .i64 pub, .int .i64 vars, .slice ra R.length rc], .int .i64 inputs] w (RetIn (insN p pub vars R inputs) (insE p pub vars R inputs) w) := fun hF hT => by
    obtain ⟨hv, hpub, hpv, hvl, hRl⟩ := tbl_bd hT
    have hw1 : IntKind.i64.wrap (vars - 1) = vars - 1 := by rw [IntKind.wrap_i64]; omega
    have hno := fun w' h => RetIn.no (w := w) (w' := w') hF h
    unfold insOk at hF
    rw [hT, Bool.true_and] at hF
    rw [hT] at cT
    replace hno := hide hno
    have hcase : inputs < 1 ∨ (¬ inputs < 1 ∧ 2 < inputs) ∨ (¬ inputs < 1 ∧ ¬ 2 < inputs ∧ vars - 1 < inputs) := by
      rcases Bool.and_eq_false_iff.1 hF with h | h
      · rcases Bool.and_eq_false_iff.1 h with h | h
        · have := of_decide_eq_false h; omega
        · have := of_decide_eq_false h; omega
      · have := of_decide_eq_false h; omega
    clear hT hF hRl hv
    rcases hcase with h | ⟨h0, h⟩ | ⟨h0, h1, h⟩
    all_goals
      go_enter Try.func64, Try.ntmps64
      go_wp2_with fail
      refine name_calls fun W hN => ?_
      have g0 : Blk W w.heap.size #[.int .u64 p, .int .i64 pub, .int .i64 vars, .slice ra R.length rc] 34 := by rw [hN]; exact Blk.newAt rfl
      have hB : Below w.heap.size w W := by rw [hN]; exact (Below.refl _ _).alloc (Nat.le_refl _) _
      clear hN
      refine (cT W (hR.mono hB)).mono ?_
      rintro e w1 ⟨rfl, hb1⟩
      replace hB := below2 hB hb1
      replace g0 := g0.mono hb1
      clear hb1 cT
      have k2 := g0.cell (j := 2) (v := .int .i64 vars) rfl
      go_wp2
      exact bodyPost_ret (v := .tuple #[.slice none 0 0, .int .i64 1]) (by simp [results, Try.results64, go_sem]) rfl (hno.out _ hB)
  by_cases hT : tblOk p pub vars R = true
  · by_cases hOk : insOk p pub vars R inputs = true
    · obtain ⟨hv, hpub, hpv, hvl, hRl⟩ := tbl_bd hT
      have hp := vld_pos hv
      rw [hT] at cT
      obtain ⟨P, rfl⟩ : ∃ P : Nat, p = (P : Int) := ⟨p.toNat, by omega⟩
      obtain ⟨V, rfl⟩ : ∃ V : Nat, vars = (V : Int) := ⟨vars.toNat, by omega⟩
      have hVI : (V : Int) ≤ 65536 := by omega
      have hwV : IntKind.i64.wrap ((V : Int) - 1) = (V : Int) - 1 := by rw [IntKind.wrap_i64]; omega
      have hOk2 := hOk
      unfold insOk at hOk2
      simp only [Bool.and_eq_true, decide_eq_true_iff] at hOk2
      obtain ⟨⟨⟨_, hi1⟩, hi2⟩, hiV⟩ := hOk2
      clear bad
      by_cases h257 : P ≤ 257
      · have h257I : ¬ (257 : Int) < P := by omega
        have hP2 : (P : Int) ≤ 257 := by omega
        have hrow := rows_of hT hR
        have cS := fun W h => newSearch_any P V pub ra R rc W h hv h257 (by omega) (by omega) hrow hRl
        have hRv : ∀ r ∈ R.map Rw.val, RowOk P V r := fun r hr => by
          obtain ⟨x, hx, rfl⟩ := List.mem_map.1 hr
          exact hrow x hx
        have hres : Hid (insN P pub V R inputs = inpL P (R.map Rw.val) V inputs ∧ insE P pub V R inputs = 0) := hide (by
          unfold insN insE
          rw [hOk, if_pos rfl, if_pos rfl, if_neg h257I, if_neg h257I, Int.toNat_natCast, Int.toNat_natCast]
          exact ⟨rfl, rfl⟩)
        replace hrow := hide hrow
        replace hv := hide hv
        replace hRl := hide hRl
        replace hRv := hide hRv
        clear hT hOk
        have hcase : inputs = 1 ∨ inputs = 2 := by omega
        rcases hcase with rfl | rfl
        ·
          clear hi1 hi2 hin1 hin2
          go_enter Try.func64, Try.ntmps64
          go_wp2_with fail
          refine name_calls fun W hN => ?_
          have g0 : Blk W w.heap.size #[.int .u64 P, .int .i64 pub, .int .i64 V, .slice ra R.length rc] 34 := by rw [hN]; exact Blk.newAt rfl
          have hB : Below w.heap.size w W := by rw [hN]; exact (Below.refl _ _).alloc (Nat.le_refl _) _
          clear hN
          refine (cT W (hR.mono hB)).mono ?_
          rintro e w1 ⟨rfl, hb1⟩
          have hw1 : w.heap.size < w1.heap.size := Nat.lt_of_lt_of_le g0.lt hb1.size
          replace hB := below2 hB hb1
          replace g0 := g0.mono hb1
          clear hb1 cT
          have k0 := g0.cell (j := 0) (v := .int .u64 P) rfl; have k1 := g0.cell (j := 1) (v := .int .i64 pub) rfl; have k2 := g0.cell (j := 2) (v := .int .i64 V) rfl; have k3 := g0.cell (j := 3) (v := .slice ra R.length rc) rfl
          go_wp2_with fail
          refine (cS w1 (hR.mono hB)).mono ?_
          rintro en w3 ⟨q, last, gi, gr, gw, IL, Wl, rfl, D, hA, hWl, hW1, hI, hIl, hlast, hlV⟩
          clear cS k0 k1 k2 k3
          have hbz := hB.size
          replace g0 := g0.mono D.below
          replace hB := below2 hB D.below
          have k0 := (g0.alloc (.cells #[] 54)).cell (j := 0) (v := .int .u64 P) rfl
          have hRl2 : (R.map Rw.val).length ≤ 1000000 := by rw [List.length_map]; have := hRl.out; omega
          have cW := fun Wl1 W fa fc front (D : SS w1 W q P V last gi gr gw IL (R.map Rw.val) Wl1) hA1 hW2 hW3 sF hF hfl hfa => with_any (w := W) (Wl := Wl1) D hA1 hW2 hW3 (by omega) hv.out h257 hRv.out hRl2 hI hIl hlast hlV fa fc front 1 sF hF hfl hfa ⟨by omega, by omega⟩
          obtain ⟨F, hF⟩ : ∃ F, F = fun l => decide (0 < totN P (R.map Rw.val) V l 1) := ⟨_, rfl⟩
          replace hF := hide hF
          have hresL : Hid (insN P pub V R 1 = inp1 F P) := hide (by rw [hres.out.1, hF.out]; rfl)
          have hresE : Hid (insE P pub V R 1 = 0) := hide hres.out.2
          go_wp2_with fail
          refine name_world fun W4 hN => ?_
          have hb4 : Below w3.heap.size w3 W4 := by rw [hN]; exact (Below.refl _ _).alloc (Nat.le_refl _) _
          have gf : Blk W4 w3.heap.size #[] 54 := by rw [hN]; exact Blk.newAt rfl
          clear hN
          have hL0 : LW W4 w1.heap.size gw (.slice (some ⟨w3.heap.size, 0, none⟩) 0 0) [] := ⟨[], OwnG.of_blk (xs := []) D.below.size gf (Nat.le_refl _) (by simp) (by simp) (by simp), (fun s hs => by cases hs), rfl⟩
          replace D := D.mono hb4
          replace hB := below2 hB hb4
          replace g0 := g0.mono hb4
          clear hb4 gf k0 hres
          replace hWl := hide hWl
          replace hW1 := hide hW1
          have hgwl := D.gwlt.1
          go_loopw [7, 36] (fun t7 t36 wr => ∃ (x : Nat) (Wl1 : List Int), x ≤ P ∧ t36 = .int .u64 x ∧ LW wr w1.heap.size gw t7 (inp1 F x) ∧ SS w1 wr q P V last gi gr gw IL (R.map Rw.val) Wl1 ∧ AllW Wl1 ∧ Hid (Wl1.length = V) ∧ Hid (Wl1.take 1 = [1]) ∧ Below w.heap.size w wr ∧ Blk wr w.heap.size #[.int .u64 P, .int .i64 pub, .int .i64 V, .slice ra R.length rc] 34) (fun _ t36 _ => P - (intOf t36).toNat)
          case atStart => exact ⟨0, Wl, Nat.zero_le _, rfl, hL0, D, hA, hWl, hW1, hB, g0⟩
          case round =>
            clear hL0 D hA hWl hW1 hB g0
            obtain ⟨x, Wl1, hx, rfl, hL, Dx, hAx, hlx, htx, hB, g0⟩ := hrel
            by_cases hlt : x < P
            · have hltI : (x : Int) < P := by omega
              have hx0 : (0 : Int) ≤ x := by omega
              have hxl := inp1_len F x
              go_wp2_with fail
              refine name_calls fun W hN => ?_
              have hbW : Below wr.heap.size wr W := by rw [hN]; exact (Below.refl _ _).alloc (Nat.le_refl _) _
              have gx : Blk W wr.heap.size #[.int .u64 x] 22 := by rw [hN]; exact Blk.newAt rfl
              clear hN
              have hgl := Dx.gwlt
              have hwz := hB.size
              have hfb : ∀ u ∈ [(x : Int)], 0 ≤ u ∧ u < (P : Int) := fun u hu => by simp only [List.mem_cons, List.not_mem_nil, or_false] at hu; omega
              refine (cW Wl1 W (some ⟨wr.heap.size, 0, none⟩) 1 [(x : Int)] (Dx.mono hbW) hAx hlx.out htx.out (UsB.sl (s := ⟨wr.heap.size, [(x : Int)]⟩) gx) hfb (by show 1 + 1 ≤ V; omega) (fun _ b off e => by cases e; omega)).mono ?_
              rintro en w4 ⟨rfl, Wl2, D2, hA2, hl2, ht2, k2⟩
              have hstep : (0 < totN P (R.map Rw.val) V [(x : Int)] 1 → inp1 F (x + 1) = inp1 F x ++ [[(x : Int)]]) ∧ (¬ 0 < totN P (R.map Rw.val) V [(x : Int)] 1 → inp1 F (x + 1) = inp1 F x) := by
                rw [inp1, hF.out]
                constructor
                · intro h; rw [if_pos (decide_eq_true h)]
                · intro h; rw [if_neg (fun h2 => h (of_decide_eq_true h2)), List.append_nil]
              generalize totN P (R.map Rw.val) V [(x : Int)] 1 = z at *
              have hL4 := (hL.mono hbW).kw k2
              have g4 := k2.oth _ _ _ (g0.mono hbW) (by omega)
              have hB4 : Below w.heap.size w w4 := (below2 hB hbW).trans (k2.below.mono hbz)
              have hs4 := D2.below.size
              replace hl2 := hide hl2
              replace ht2 := hide ht2
              clear cW hbW gx k2 hL g0 hB Dx hAx hlx htx hfb
              by_cases hz : 0 < z
              · have hX := hide (hstep.1 hz)
                obtain ⟨Xs, ow, hok, hXs⟩ := hL4
                have hlen : Hid (Xs.length ≤ 70000) := hide (by
                  have h1 := congrArg List.length hXs
                  rw [List.length_map] at h1
                  omega)
                clear hstep
                go_wp2_with (at_builtin; refine wpList_appG _ usL Xs [⟨w4.heap.size, [(x : Int)]⟩] rfl _ _ 93 rfl w1.heap.size 54 (.slice none 0 0) 24 Try.underlying93 Try.infoUs rfl (by decide) _ 1 1 (some ⟨_, 0, none⟩) rfl rfl rfl ((ow.alloc _).alloc _) (SlG.one (Blk.newAt (by simp)) rfl) (by have := hlen.out; simp; omega) (by simp; omega) ?_; intro v' w' own' hg'; refine Hold.mk ?_)
                refine Hold.go ?_
                have hbA : Below w4.heap.size w4 ((w4.alloc (.cells #[.int .u64 x] 22)).alloc (.cells #[.slice (some ⟨w4.heap.size, 0, none⟩) 1 1] 54)) := ((Below.refl _ _).alloc (Nat.le_refl _) _).alloc (by simp) _
                have hgl2 := D2.gwlt.2
                obtain ⟨hL5, k5⟩ := LW.push (s := ⟨w4.heap.size, [(x : Int)]⟩) ((ow.alloc _).alloc _) (fun s hs => ⟨(hok s hs).1.mono hbA, (hok s hs).2⟩) hXs ⟨(Blk.new w4 #[.int .u64 x] 22).alloc _, by show w4.heap.size ≠ gw; omega⟩ (by simp; omega) hg' own'
                have D5 := (D2.mono hbA).kx k5 (by unfold XLs; decide) (by unfold XLs; decide) (by unfold XLs; decide) (by unfold XLs; decide)
                have g5 := k5.typ _ _ _ (g4.mono hbA) (by unfold XLs; decide)
                have hB5 : Below w.heap.size w w' := (below2 hB4 hbA).trans (k5.below.mono hbz)
                replace hL5 : LW w' w1.heap.size gw v' (inp1 F (x + 1)) := by rw [hX.out]; exact hL5
                clear ow hok hXs hbA hg' own' k5 D2 g4 hB4 hX hgl2
                go_wp2
                go_roundw
                case rel => exact ⟨x + 1, Wl2, by omega, by go_num, hL5, D5, hA2, hl2, ht2, hB5, g5⟩
                case measure => simp [intOf]; omega
              · have hX := hide (hstep.2 hz)
                rw [← hX.out] at hL4
                clear hstep
                go_wp2
                go_roundw
                case rel => exact ⟨x + 1, Wl2, by omega, by go_num, hL4, D2, hA2, hl2, ht2, hB4, g4⟩
                case measure => simp [intOf]; omega
            · obtain rfl : x = P := by omega
              go_wp2
              exact bodyPost_ret (v := .tuple #[u7, .int .i64 0]) (by simp [results, Try.results64, go_sem]) rfl ⟨_, by rw [hresE.out], by rw [hresL.out]; exact hL.ll.low hbz, hB⟩
        ·
          clear hi1 hi2 hin1 hin2
          go_enter Try.func64, Try.ntmps64
          go_wp2_with fail
          refine name_calls fun W hN => ?_
          have g0 : Blk W w.heap.size #[.int .u64 P, .int .i64 pub, .int .i64 V, .slice ra R.length rc] 34 := by rw [hN]; exact Blk.newAt rfl
          have hB : Below w.heap.size w W := by rw [hN]; exact (Below.refl _ _).alloc (Nat.le_refl _) _
          clear hN
          refine (cT W (hR.mono hB)).mono ?_
          rintro e w1 ⟨rfl, hb1⟩
          have hw1 : w.heap.size < w1.heap.size := Nat.lt_of_lt_of_le g0.lt hb1.size
          replace hB := below2 hB hb1
          replace g0 := g0.mono hb1
          clear hb1 cT
          have k0 := g0.cell (j := 0) (v := .int .u64 P) rfl; have k1 := g0.cell (j := 1) (v := .int .i64 pub) rfl; have k2 := g0.cell (j := 2) (v := .int .i64 V) rfl; have k3 := g0.cell (j := 3) (v := .slice ra R.length rc) rfl
          go_wp2_with fail
          refine (cS w1 (hR.mono hB)).mono ?_
          rintro en w3 ⟨q, last, gi, gr, gw, IL, Wl, rfl, D, hA, hWl, hW1, hI, hIl, hlast, hlV⟩
          clear cS k0 k1 k2 k3
          have hbz := hB.size
          replace g0 := g0.mono D.below
          replace hB := below2 hB D.below
          have k0 := (g0.alloc (.cells #[] 54)).cell (j := 0) (v := .int .u64 P) rfl
          have hRl2 : (R.map Rw.val).length ≤ 1000000 := by rw [List.length_map]; have := hRl.out; omega
          have cW := fun Wl1 W fa fc front (D : SS w1 W q P V last gi gr gw IL (R.map Rw.val) Wl1) hA1 hW2 hW3 sF hF hfl hfa => with_any (w := W) (Wl := Wl1) D hA1 hW2 hW3 (by omega) hv.out h257 hRv.out hRl2 hI hIl hlast hlV fa fc front 1 sF hF hfl hfa ⟨by omega, by omega⟩
          obtain ⟨F, hF⟩ : ∃ F, F = fun l => decide (0 < totN P (R.map Rw.val) V l 1) := ⟨_, rfl⟩
          replace hF := hide hF
          have hresL : Hid (insN P pub V R 2 = inp2 F P P) := hide (by rw [hres.out.1, hF.out]; rfl)
          have hresE : Hid (insE P pub V R 2 = 0) := hide hres.out.2
          go_wp2_with fail
          refine name_world fun W4 hN => ?_
          have hb4 : Below w3.heap.size w3 W4 := by rw [hN]; exact (Below.refl _ _).alloc (Nat.le_refl _) _
          have gf : Blk W4 w3.heap.size #[] 54 := by rw [hN]; exact Blk.newAt rfl
          clear hN
          have hL0 : LW W4 w1.heap.size gw (.slice (some ⟨w3.heap.size, 0, none⟩) 0 0) [] := ⟨[], OwnG.of_blk (xs := []) D.below.size gf (Nat.le_refl _) (by simp) (by simp) (by simp), (fun s hs => by cases hs), rfl⟩
          replace D := D.mono hb4
          replace hB := below2 hB hb4
          replace g0 := g0.mono hb4
          clear hb4 gf k0 hres
          replace hWl := hide hWl
          replace hW1 := hide hW1
          have hgwl := D.gwlt.1
          go_loopw [7, 36] (fun t7 t36 wr => ∃ (x : Nat) (Wl1 : List Int), x ≤ P ∧ t36 = .int .u64 x ∧ LW wr w1.heap.size gw t7 (inp2 F P x) ∧ SS w1 wr q P V last gi gr gw IL (R.map Rw.val) Wl1 ∧ AllW Wl1 ∧ Hid (Wl1.length = V) ∧ Hid (Wl1.take 1 = [1]) ∧ Below w.heap.size w wr ∧ Blk wr w.heap.size #[.int .u64 P, .int .i64 pub, .int .i64 V, .slice ra R.length rc] 34) (fun _ t36 _ => P - (intOf t36).toNat)
          case atStart => exact ⟨0, Wl, Nat.zero_le _, rfl, hL0, D, hA, hWl, hW1, hB, g0⟩
          case round =>
            clear hL0 D hA hWl hW1 hB g0
            obtain ⟨x, Wl1, hx, rfl, hL, Dx, hAx, hlx, htx, hB, g0⟩ := hrel
            by_cases hlt : x < P
            · have hltI : (x : Int) < P := by omega
              have hx0 : (0 : Int) ≤ x := by omega
              have hxl := inp2_len F P x
              have hxp : x * P ≤ 256 * 257 := Nat.mul_le_mul (by omega) h257
              have k0 := g0.cell (j := 0) (v := .int .u64 P) rfl
              replace hxp := hide (Nat.le_trans hxl hxp)
              clear hxl
              have hL' := hL
              rw [show inp2 F P x = inp2 F P x ++ inpB F x 0 by rw [inpB, List.append_nil]] at hL'
              clear hL
              go_wp2_with fail
              go_loopw [7, 53] (fun t7 t53 wr => ∃ (y : Nat) (Wl1 : List Int), y ≤ P ∧ t53 = .int .u64 y ∧ LW wr w1.heap.size gw t7 (inp2 F P x ++ inpB F x y) ∧ SS w1 wr q P V last gi gr gw IL (R.map Rw.val) Wl1 ∧ AllW Wl1 ∧ Hid (Wl1.length = V) ∧ Hid (Wl1.take 1 = [1]) ∧ Below w.heap.size w wr ∧ Blk wr w.heap.size #[.int .u64 P, .int .i64 pub, .int .i64 V, .slice ra R.length rc] 34) (fun _ t53 _ => P - (intOf t53).toNat)
              case atStart => exact ⟨0, Wl1, Nat.zero_le _, rfl, hL', Dx, hAx, hlx, htx, hB, g0⟩
              case round =>
                clear hL' Dx hAx hlx htx hB g0 k0
                obtain ⟨y, Wl1, hy, rfl, hL, Dx, hAx, hlx, htx, hB, g0⟩ := hrel
                by_cases hlty : y < P
                · have hltyI : (y : Int) < P := by omega
                  have hy0 : (0 : Int) ≤ y := by omega
                  have hyl := inpB_len F x y
                  go_wp2_with fail
                  refine name_calls fun W hN => ?_
                  have hbW : Below wr.heap.size wr W := by rw [hN]; exact (Below.refl _ _).alloc (Nat.le_refl _) _
                  have gx : Blk W wr.heap.size #[.int .u64 x, .int .u64 y] 22 := by rw [hN]; exact Blk.newAt rfl
                  clear hN
                  have hgl := Dx.gwlt
                  have hwz := hB.size
                  have hfb : ∀ u ∈ [(x : Int), (y : Int)], 0 ≤ u ∧ u < (P : Int) := fun u hu => by simp only [List.mem_cons, List.not_mem_nil, or_false] at hu; omega
                  refine (cW Wl1 W (some ⟨wr.heap.size, 0, none⟩) 2 [(x : Int), (y : Int)] (Dx.mono hbW) hAx hlx.out htx.out (UsB.sl (s := ⟨wr.heap.size, [(x : Int), (y : Int)]⟩) gx) hfb (by show 1 + 2 ≤ V; omega) (fun _ b off e => by cases e; omega)).mono ?_
                  rintro en w4 ⟨rfl, Wl2, D2, hA2, hl2, ht2, k2⟩
                  have hstep : (0 < totN P (R.map Rw.val) V [(x : Int), (y : Int)] 1 → (inp2 F P x ++ inpB F x (y + 1)) = (inp2 F P x ++ inpB F x y) ++ [[(x : Int), (y : Int)]]) ∧ (¬ 0 < totN P (R.map Rw.val) V [(x : Int), (y : Int)] 1 → (inp2 F P x ++ inpB F x (y + 1)) = (inp2 F P x ++ inpB F x y)) := by
                    rw [inpB, ← List.append_assoc, hF.out]
                    constructor
                    · intro h; rw [if_pos (decide_eq_true h)]
                    · intro h; rw [if_neg (fun h2 => h (of_decide_eq_true h2)), List.append_nil]
                  generalize totN P (R.map Rw.val) V [(x : Int), (y : Int)] 1 = z at *
                  have hL4 := (hL.mono hbW).kw k2
                  have g4 := k2.oth _ _ _ (g0.mono hbW) (by omega)
                  have hB4 : Below w.heap.size w w4 := (below2 hB hbW).trans (k2.below.mono hbz)
                  have hs4 := D2.below.size
                  replace hl2 := hide hl2
                  replace ht2 := hide ht2
                  clear cW hbW gx k2 hL g0 hB Dx hAx hlx htx hfb
                  by_cases hz : 0 < z
                  · have hX := hide (hstep.1 hz)
                    obtain ⟨Xs, ow, hok, hXs⟩ := hL4
                    have hlen : Hid (Xs.length ≤ 70000) := hide (by
                      have h1 := congrArg List.length hXs
                      rw [List.length_map] at h1
                      rw [List.length_append] at h1; have := hxp.out; omega)
                    clear hstep
                    go_wp2_with (at_builtin; refine wpList_appG _ usL Xs [⟨w4.heap.size, [(x : Int), (y : Int)]⟩] rfl _ _ 93 rfl w1.heap.size 54 (.slice none 0 0) 24 Try.underlying93 Try.infoUs rfl (by decide) _ 1 1 (some ⟨_, 0, none⟩) rfl rfl rfl ((ow.alloc _).alloc _) (SlG.one (Blk.newAt (by simp)) rfl) (by have := hlen.out; simp; omega) (by simp; omega) ?_; intro v' w' own' hg'; refine Hold.mk ?_)
                    refine Hold.go ?_
                    have hbA : Below w4.heap.size w4 ((w4.alloc (.cells #[.int .u64 x, .int .u64 y] 22)).alloc (.cells #[.slice (some ⟨w4.heap.size, 0, none⟩) 2 2] 54)) := ((Below.refl _ _).alloc (Nat.le_refl _) _).alloc (by simp) _
                    have hgl2 := D2.gwlt.2
                    obtain ⟨hL5, k5⟩ := LW.push (s := ⟨w4.heap.size, [(x : Int), (y : Int)]⟩) ((ow.alloc _).alloc _) (fun s hs => ⟨(hok s hs).1.mono hbA, (hok s hs).2⟩) hXs ⟨(Blk.new w4 #[.int .u64 x, .int .u64 y] 22).alloc _, by show w4.heap.size ≠ gw; omega⟩ (by simp; omega) hg' own'
                    have D5 := (D2.mono hbA).kx k5 (by unfold XLs; decide) (by unfold XLs; decide) (by unfold XLs; decide) (by unfold XLs; decide)
                    have g5 := k5.typ _ _ _ (g4.mono hbA) (by unfold XLs; decide)
                    have hB5 : Below w.heap.size w w' := (below2 hB4 hbA).trans (k5.below.mono hbz)
                    replace hL5 : LW w' w1.heap.size gw v' ((inp2 F P x ++ inpB F x (y + 1))) := by rw [hX.out]; exact hL5
                    clear ow hok hXs hbA hg' own' k5 D2 g4 hB4 hX hgl2
                    go_wp2
                    go_roundw
                    case rel => exact ⟨y + 1, Wl2, by omega, by go_num, hL5, D5, hA2, hl2, ht2, hB5, g5⟩
                    case measure => simp [intOf]; omega
                  · have hX := hide (hstep.2 hz)
                    rw [← hX.out] at hL4
                    clear hstep
                    go_wp2
                    go_roundw
                    case rel => exact ⟨y + 1, Wl2, by omega, by go_num, hL4, D2, hA2, hl2, ht2, hB4, g4⟩
                    case measure => simp [intOf]; omega
                · obtain rfl : y = P := by omega
                  replace hL : LW wr w1.heap.size gw _ (inp2 F y (x + 1)) := hL
                  go_wp2
                  go_roundw
                  case rel => exact ⟨x + 1, Wl1, by omega, by go_num, hL, Dx, hAx, hlx, htx, hB, g0⟩
                  case measure => simp [intOf]; omega
            · obtain rfl : x = P := by omega
              go_wp2
              exact bodyPost_ret (v := .tuple #[u7, .int .i64 0]) (by simp [results, Try.results64, go_sem]) rfl ⟨_, by rw [hresE.out], by rw [hresL.out]; exact hL.ll.low hbz, hB⟩
      · have h257N : (257 : Int) < P := by omega
        have hfinal : ∀ w', Below w.heap.size w w' → RetIn (insN P pub V R inputs) (insE P pub V R inputs) w (.returned (.tuple #[.slice none 0 0, .int .i64 7])) w' := fun w' hb => ⟨_, by unfold insE; rw [hOk, if_pos rfl, if_pos h257N], by unfold insN; rw [hOk, if_pos rfl, if_pos h257N]; exact LL.nil _ _, hb⟩
        replace hfinal := hide hfinal
        clear hT hv hOk hRl
        go_enter Try.func64, Try.ntmps64
        go_wp2_with fail
        refine name_calls fun W hN => ?_
        have g0 : Blk W w.heap.size #[.int .u64 P, .int .i64 pub, .int .i64 V, .slice ra R.length rc] 34 := by rw [hN]; exact Blk.newAt rfl
        have hB : Below w.heap.size w W := by rw [hN]; exact (Below.refl _ _).alloc (Nat.le_refl _) _
        clear hN
        refine (cT W (hR.mono hB)).mono ?_
        rintro e w1 ⟨rfl, hb1⟩
        replace hB := below2 hB hb1
        replace g0 := g0.mono hb1
        clear hb1 cT
        have k2 := g0.cell (j := 2) (v := .int .i64 V) rfl; have k0 := g0.cell (j := 0) (v := .int .u64 P) rfl
        go_wp2
        exact bodyPost_ret (v := .tuple #[.slice none 0 0, .int .i64 7]) (by simp [results, Try.results64, go_sem]) rfl (hfinal.out _ hB)
    · exact bad (by simpa using hOk) hT
  · have hT2 : tblOk p pub vars R = false := by simpa using hT
    have hF := hide (show insOk p pub vars R inputs = false by unfold insOk; rw [hT2, Bool.false_and, Bool.false_and, Bool.false_and])
    rw [hT2] at cT
    clear hT hT2 bad
    go_enter Try.func64, Try.ntmps64
    go_wp2_with fail
    refine name_calls fun W hN => ?_
    have hB : Below w.heap.size w W := by rw [hN]; exact (Below.refl _ _).alloc (Nat.le_refl _) _
    clear hN
    refine (cT W (hR.mono hB)).mono ?_
    rintro e w1 ⟨rfl, hb1⟩
    replace hB := below2 hB hb1
    clear hb1 cT
    go_wp2
    exact bodyPost_ret (v := .tuple #[.slice none 0 0, .int .i64 1]) (by simp [results, Try.results64, go_sem]) rfl (RetIn.no hF.out hB)
end Go.Proofs.Ytlgjnidphldiiaa
