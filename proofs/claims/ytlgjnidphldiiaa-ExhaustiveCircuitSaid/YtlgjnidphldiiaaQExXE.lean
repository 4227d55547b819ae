/- Exhaustive search: a table as a parameter; plain laws of the count. -/
import Derived.Test.YtlgjnidphldiiaaQExXD
namespace Go.Proofs.Ytlgjnidphldiiaa
open Go.ChangeShapes Go.WideShapes Go.ChangeAt Go.RowKit

section
variable {H : Type} {enc : TypeId × Value → H} {w : World}
end

/-- The lists of inputs for which F holds: one input; the second of two; two. -/
def ins1 (F : List Int → Bool) : Nat → List (List Int)
  | 0 => []
  | x + 1 => ins1 F x ++ if F [(x : Int)] then [[(x : Int)]] else []
def insB (F : List Int → Bool) (x : Nat) : Nat → List (List Int)
  | 0 => []
  | y + 1 => insB F x y ++ if F [(x : Int), (y : Int)] then [[(x : Int), (y : Int)]] else []
def ins2 (F : List Int → Bool) (p : Nat) : Nat → List (List Int)
  | 0 => []
  | x + 1 => ins2 F p x ++ insB F x p
theorem ins1_len (F : List Int → Bool) : ∀ x, (ins1 F x).length ≤ x
  | 0 => Nat.le_refl _
  | x + 1 => by
    have := ins1_len F x
    rw [ins1, List.length_append]
    split <;> simp <;> omega
theorem insB_len (F : List Int → Bool) (x : Nat) : ∀ y, (insB F x y).length ≤ y
  | 0 => Nat.le_refl _
  | y + 1 => by
    have := insB_len F x y
    rw [insB, List.length_append]
    split <;> simp <;> omega
theorem ins2_len (F : List Int → Bool) (p : Nat) : ∀ x, (ins2 F p x).length ≤ x * p
  | 0 => by simp [ins2]
  | x + 1 => by
    have := ins2_len F p x
    have := insB_len F x p
    rw [ins2, List.length_append, Nat.add_mul]
    omega
/-- The inputs for which a table can be satisfied. -/
def insL (p : Nat) (R : List Row3) (V : Nat) (inputs : Int) : List (List Int) := if inputs = 1 then ins1 (fun l => decide (0 < totN p R V l 1)) p else ins2 (fun l => decide (0 < totN p R V l 1)) p p
end Go.Proofs.Ytlgjnidphldiiaa

/- Exhaustive search: lists of short lists of words; the comparison of two. -/
namespace Go.Proofs.Ytlgjnidphldiiaa
open Go.ChangeShapes Go.WideShapes Go.ChangeAt Go.RowKit

/-- A short list of words, in a block of its own. -/
structure Us where
  b : Nat
  l : List Int
instance : Inhabited Us := ⟨⟨0, []⟩⟩
def usV (s : Us) : Value := .slice (some ⟨s.b, 0, none⟩) s.l.length s.l.length
def usL : Lay Us := ⟨fun s => [usV s], 1, fun _ => rfl, by decide, fun x u hu => by rw [List.mem_singleton] at hu; subst hu; rfl⟩
theorem Try.infoUs : (Try.prog.info? 54).map (fun i => (i.zero, i.size, i.bytes)) = some (some (.slice none 0 0), 1, 24) := by kernel_rfl
def UsB (w : World) (s : Us) : Prop := Blk w s.b (s.l.map (Value.int .u64)).toArray 22
theorem UsB.mono {w w' : World} {s : Us} (h : UsB w s) (hb : Below w.heap.size w w') : UsB w' s := Blk.mono h hb
theorem UsB.cell {w : World} {s : Us} (h : UsB w s) {j : Nat} (hj : j < s.l.length) : w.cell? ⟨s.b, j, none⟩ = some (.int .u64 (s.l.getD j 0)) := Blk.cell h (by simp [hj])
theorem UsB.sl {w : World} {s : Us} (h : UsB w s) : Sl w .u64 (some ⟨s.b, 0, none⟩) s.l := fun _ => ⟨s.b, 0, rfl, Blk.lt h, fun i hi => by rw [Nat.zero_add]; exact h.cell hi⟩
/-- A list of lists. -/
def LL (w : World) (base : Nat) (v : Value) (X : List (List Int)) : Prop := ∃ Xs, OwnG usL w base 54 v Xs ∧ (∀ s ∈ Xs, UsB w s) ∧ Xs.map Us.l = X
theorem LL.mono {w w' : World} {base : Nat} {v : Value} {X : List (List Int)} (h : LL w base v X) (hb : Below w.heap.size w w') : LL w' base v X := by
  obtain ⟨Xs, h1, h2, h3⟩ := h
  exact ⟨Xs, h1.mono hb, fun s hs => (h2 s hs).mono hb, h3⟩
theorem LL.nil (w : World) (base : Nat) : LL w base (.slice none 0 0) [] := ⟨[], OwnG.nil _ _ _ _, (fun s hs => by cases hs), rfl⟩
theorem LL.low {w : World} {base b : Nat} {v : Value} {X : List (List Int)} (h : LL w base v X) (hb : b ≤ base) : LL w b v X := by
  obtain ⟨Xs, h1, h2, h3⟩ := h
  exact ⟨Xs, h1.low hb, h2, h3⟩
theorem LL.sl {w : World} {base : Nat} {v : Value} {X : List (List Int)} (h : LL w base v X) : ∃ ad c, v = .slice ad X.length c ∧ ∃ Xs : List Us, (∀ s ∈ Xs, UsB w s) ∧ Xs.map Us.l = X ∧ ∀ i, i < X.length → ∃ b, ad = some ⟨b, 0, none⟩ ∧ w.cell? ⟨b, i, none⟩ = some (usV (Xs.getD i default)) := by
  obtain ⟨Xs, h1, h2, h3⟩ := h
  have hl : Xs.length = X.length := by rw [← h3, List.length_map]
  rcases h1.form with ⟨rfl, rfl⟩ | ⟨g, cap, cur, rfl, g1, g2, g3, g4, g5, g6⟩
  · subst h3
    exact ⟨none, 0, rfl, [], h2, rfl, fun i hi => by simp at hi⟩
  · refine ⟨_, cap, by rw [hl], Xs, h2, h3, fun i hi => ⟨g, rfl, g2.cell ?_⟩⟩
    have e : (Xs.flatMap usL.f)[i]? = some (usV (Xs.getD i default)) := by
      have := usL.flat_get Xs default (i := i) (j := 0) (by omega) (by decide)
      rw [show i * usL.m + 0 = i from by show i * 1 + 0 = i; omega] at this
      rw [this]
      rfl
    rw [← g6, List.getElem?_take] at e
    split at e
    · simpa using e
    · cases e

/-- Same of two lists of lists. -/
theorem rSame23_any {base1 base2 : Nat} {v1 v2 : Value} {X : List (List Int)} (w : World) (h1 : LL w base1 v1 X) (h2 : LL w base2 v2 X) (hl : X.length ≤ 100000) (hl2 : ∀ x ∈ X, x.length ≤ 100) : Calls Try.prog 65 #[v1, v2] w fun e w' => e = .returned (.bool true) ∧ Below w.heap.size w w' := by
  obtain ⟨a1, c1, rfl, X1, u1, m1, k1⟩ := h1.sl
  obtain ⟨a2, c2, rfl, X2, u2, m2, k2⟩ := h2.sl
  clear h1 h2
  have hn1 : X1.length = X.length := by rw [← m1, List.length_map]
  have hn2 : X2.length = X.length := by rw [← m2, List.length_map]
  have e1 : ∀ i, i < X.length → (X1.getD i default).l = X.getD i [] := fun i hi => by
    rw [← m1, List.getD_eq_getElem?_getD, List.getD_eq_getElem?_getD, List.getElem?_map, List.getElem?_eq_getElem (by omega)]; rfl
  have e2 : ∀ i, i < X.length → (X2.getD i default).l = X.getD i [] := fun i hi => by
    rw [← m2, List.getD_eq_getElem?_getD, List.getD_eq_getElem?_getD, List.getElem?_map, List.getElem?_eq_getElem (by omega)]; rfl
  obtain ⟨n, hn⟩ : ∃ n, X.length = n := ⟨_, rfl⟩
  rw [hn] at hl k1 k2 e1 e2
  have hnI : (n : Int) ≤ 100000 := by omega
  have ent : ∀ i, i < n → ∃ (b1 b2 d1 d2 : Nat) (l : List Int), a1 = some ⟨b1, 0, none⟩ ∧ a2 = some ⟨b2, 0, none⟩ ∧ w.cell? ⟨b1, i, none⟩ = some (.slice (some ⟨d1, 0, none⟩) l.length l.length) ∧ w.cell? ⟨b2, i, none⟩ = some (.slice (some ⟨d2, 0, none⟩) l.length l.length) ∧ l.length ≤ 100 ∧
      ∀ j, j < l.length → w.cell? ⟨d1, j, none⟩ = some (.int .u64 (l.getD j 0)) ∧ w.cell? ⟨d2, j, none⟩ = some (.int .u64 (l.getD j 0)) := fun i hi => by
    obtain ⟨b1, hb1, q1⟩ := k1 i hi
    obtain ⟨b2, hb2, q2⟩ := k2 i hi
    have r1 := u1 _ (getD_mem' (show i < X1.length by omega) default)
    have r2 := u2 _ (getD_mem' (show i < X2.length by omega) default)
    have z1 := e1 i hi
    have z2 := e2 i hi
    unfold usV at q1 q2
    refine ⟨b1, b2, _, _, X.getD i [], hb1, hb2, by rw [q1, z1], by rw [q2, z2], hl2 _ (getD_mem' (by omega) _), fun j hj => ?_⟩
    have s1 := r1.cell (j := j) (by rw [z1]; exact hj)
    have s2 := r2.cell (j := j) (by rw [z2]; exact hj)
    rw [z1] at s1
    rw [z2] at s2
    exact ⟨s1, s2⟩
  rw [hn]
  clear k1 k2 e1 e2 u1 u2 m1 m2 hn1 hn2 hn hl2
  replace ent := hide ent
  go_enter Try.func65, Try.ntmps65
  go_wp2_with fail
  go_loopw [5] (fun t5 wr => ∃ i : Nat, i ≤ n ∧ t5 = .int .i64 i ∧ Below w.heap.size w wr) (fun t5 _ => n - (intOf t5).toNat)
  case atStart => exact ⟨0, Nat.zero_le _, rfl, Below.refl _ _⟩
  case round =>
    obtain ⟨i, hi, rfl, hB⟩ := hrel
    by_cases hlt : i < n
    · have hltI : (i : Int) < n := by omega
      obtain ⟨b1, b2, d1, d2, l, rfl, rfl, q1, q2, hl100, hl⟩ := ent.out i hlt
      obtain ⟨m, hm⟩ : ∃ m, l.length = m := ⟨_, rfl⟩
      rw [hm] at q1 q2 hl100 hl
      have hmI : (m : Int) ≤ 100 := by omega
      replace hl := hide hl
      have p1 := cell_later' (cell_below hB q1)
      have p2 := cell_later' (cell_below hB q2)
      replace q1 := hide q1
      replace q2 := hide q2
      go_wp2_with fail
      refine wp_region_later Try.mixed (by kernel_rfl) ?_
      repeat (first | go_big_quiet_step (first | fail) | quiet_step (first | fail))
      refine wpQuiet_nil ?_
      intro w3 hb3
      replace hb3 := below_of_later hb3
      replace hB := below2 hB hb3
      clear hb3 p1 p2
      go_wp2_with fail
      go_loopw [6] (fun t6 wy => ∃ j : Nat, j ≤ m ∧ t6 = .int .i64 j ∧ Below w.heap.size w wy) (fun t6 _ => m - (intOf t6).toNat)
      case atStart => exact ⟨0, Nat.zero_le _, rfl, hB⟩
      case round =>
        clear hB
        obtain ⟨j, hj, rfl, hB⟩ := hrel
        have p1 := cell_below hB q1.out
        by_cases hltj : j < m
        · have hltjI : (j : Int) < m := by omega
          obtain ⟨s1, s2⟩ := hl.out j hltj
          generalize l.getD j 0 = x at *
          have p1L := cell_later' p1
          have p2L := cell_later' (cell_below hB q2.out)
          replace s1 := cell_later' (cell_below hB s1)
          replace s2 := cell_later' (cell_below hB s2)
          go_wp2_with fail
          refine wp_region_later Try.mixed (by kernel_rfl) ?_
          repeat (first | go_big_quiet_step (first | fail) | quiet_step (first | fail))
          refine wpQuiet_nil ?_
          intro w5 hb5
          replace hb5 := below_of_later hb5
          replace hB := below2 hB hb5
          clear p1 p1L p2L s1 s2 hb5
          go_wp2
          go_roundw
          case rel => exact ⟨j + 1, by omega, by go_num, hB⟩
          case measure => simp [intOf]; omega
        · obtain rfl : j = m := by omega
          go_wp2
          go_roundw
          case rel => exact ⟨i + 1, by omega, by go_num, hB⟩
          case measure => simp [intOf]; omega
    · obtain rfl : i = n := by omega
      go_wp2
      go_ret
      exact ⟨rfl, hB⟩
end Go.Proofs.Ytlgjnidphldiiaa

/- Exhaustive search: Inputs of the program. -/
namespace Go.Proofs.Ytlgjnidphldiiaa
open Go.ChangeShapes Go.WideShapes Go.ChangeAt Go.RowKit

theorem KX.own64 {X : TypeId → Prop} {w w' : World} {base b0 : Nat} {E : TypeId} {v : Value} {xs : List Int} (k : KX X base w w') (hX : ¬ X E) (h : Own w b0 E .u64 v xs) : Own w' b0 E .u64 v xs := (k.own hX h.toG).toU
section
variable {w0 w w' : World} {q p V last gi gr gw : Nat} {IL : List Int} {R : List Row3} {Wl : List Int}
/-- A search stays when blocks of other types change. -/
theorem SS.kx {X : TypeId → Prop} (h : SS w0 w q p V last gi gr gw IL R Wl) (k : KX X w0.heap.size w w') (x1 : ¬ X 22) (x2 : ¬ X 143) (x3 : ¬ X 32) (x4 : ¬ X 106) : SS w0 w' q p V last gi gr gw IL R Wl := by
  obtain ⟨cs, g⟩ := h.grb
  have g' := k.typ _ _ _ g x3
  refine ⟨h.below.trans k.below, k.typ _ _ _ h.blk x2, k.own64 x1 h.inv, k.own64 x1 h.ow, h.neq, ⟨cs, g'⟩, fun v hv => ?_⟩
  obtain ⟨a, c, Rv, h1, h2, h3, h4⟩ := h.rows v hv
  have hh : w'.heap[gr]? = w.heap[gr]? := by
    have h1 : w.heap[gr]? = _ := g
    have h2 : w'.heap[gr]? = _ := g'
    rw [h1, h2]
  exact ⟨a, c, Rv, by rw [World.cell?_of_block (w := w) hh]; exact h1, k.own x4 h2, h3, h4⟩
theorem SS.gwlt (h : SS w0 w q p V last gi gr gw IL R Wl) : w0.heap.size ≤ gw ∧ gw < w.heap.size := h.ow.lt (b := gw) rfl
end
/-- A list of lists that a search leaves alone. -/
def LW (w : World) (base gw : Nat) (v : Value) (X : List (List Int)) : Prop := ∃ Xs, OwnG usL w base 54 v Xs ∧ (∀ s ∈ Xs, UsB w s ∧ s.b ≠ gw) ∧ Xs.map Us.l = X
theorem LW.ll {w : World} {base gw : Nat} {v : Value} {X : List (List Int)} (h : LW w base gw v X) : LL w base v X := by
  obtain ⟨Xs, h1, h2, h3⟩ := h
  exact ⟨Xs, h1, fun s hs => (h2 s hs).1, h3⟩
theorem LW.mono {w w' : World} {base gw : Nat} {v : Value} {X : List (List Int)} (h : LW w base gw v X) (hb : Below w.heap.size w w') : LW w' base gw v X := by
  obtain ⟨Xs, h1, h2, h3⟩ := h
  exact ⟨Xs, h1.mono hb, fun s hs => ⟨(h2 s hs).1.mono hb, (h2 s hs).2⟩, h3⟩
theorem LW.kw {w w' : World} {base b0 gw : Nat} {v : Value} {X : List (List Int)} (h : LW w base gw v X) (k : KW gw b0 w w') : LW w' base gw v X := by
  obtain ⟨Xs, h1, h2, h3⟩ := h
  exact ⟨Xs, k.own (by unfold XU8; decide) h1, fun s hs => ⟨k.oth _ _ _ (h2 s hs).1 (h2 s hs).2, (h2 s hs).2⟩, h3⟩
def XLs (T : TypeId) : Prop := T = 54
/-- One more list. -/
theorem LW.push {w w' : World} {base gw : Nat} {v v' : Value} {Xs : List Us} {X : List (List Int)} {s : Us} (h1 : OwnG usL w base 54 v Xs) (h2 : ∀ s ∈ Xs, UsB w s ∧ s.b ≠ gw) (h3 : Xs.map Us.l = X) (hs : UsB w s ∧ s.b ≠ gw) (hb : base ≤ w.heap.size) (hg : Grew w w' v v') (own' : OwnG usL w' base 54 v' (Xs ++ [s])) : LW w' base gw v' (X ++ [s.l]) ∧ KX XLs base w w' := by
  have k : KX XLs base w w' := KX.grew h1 hg rfl hb
  refine ⟨⟨Xs ++ [s], own', fun u hu => ?_, by rw [List.map_append, h3]; rfl⟩, k⟩
  rcases List.mem_append.1 hu with hu | hu
  · exact ⟨k.typ _ _ _ (h2 u hu).1 (by unfold XLs; decide), (h2 u hu).2⟩
  · rw [List.mem_singleton] at hu
    subst hu
    exact ⟨k.typ _ _ _ hs.1 (by unfold XLs; decide), hs.2⟩

def insOk (p pub vars : Int) (Rs : List Rw) (inputs : Int) : Bool := tblOk p pub vars Rs && decide (1 ≤ inputs) && decide (inputs ≤ 2) && decide (inputs < vars)
/-- What Inputs answers: the lists, the error. -/
def insN (p pub vars : Int) (Rs : List Rw) (inputs : Int) : List (List Int) := if insOk p pub vars Rs inputs then (if 257 < p then [] else insL p.toNat (Rs.map Rw.val) vars.toNat inputs) else []
def insE (p pub vars : Int) (Rs : List Rw) (inputs : Int) : Int := if insOk p pub vars Rs inputs then (if 257 < p then 7 else 0) else 1
def RetIn (X : List (List Int)) (e : Int) (w : World) (en : Ending) (w' : World) : Prop := ∃ v, en = .returned (.tuple #[v, .int .i64 e]) ∧ LL w' w.heap.size v X ∧ Below w.heap.size w w'
theorem RetIn.no {p pub vars : Int} {Rs : List Rw} {inputs : Int} {w w' : World} (h : insOk p pub vars Rs inputs = false) (hb : Below w.heap.size w w') : RetIn (insN p pub vars Rs inputs) (insE p pub vars Rs inputs) w (.returned (.tuple #[.slice none 0 0, .int .i64 1])) w' :=
  ⟨_, by unfold insE; rw [h]; rfl, by unfold insN; rw [h]; exact LL.nil _ _, hb⟩

set_option maxRecDepth 10000 in
set_option maxHeartbeats 16000000 in
theorem Inputs23_any (p pub vars : Int) (ra : Option Addr) (R : List Rw) (rc : Nat) (inputs : Int) (w : World) (hR : RowsP w ra rc R) (hin : -9223372036854775808 ≤ inputs ∧ inputs ≤ 9223372036854775807) :
    Calls Try.prog 64 #[.agg #[.int .u64 p, .int .i64 pub, .int .i64 vars, .slice ra R.length rc], .int .i64 inputs] w (RetIn (insN p pub vars R inputs) (insE p pub vars R inputs) w) := by
  have cT := fun W h => tValid_any p pub vars ra R rc W h
  obtain ⟨hin1, hin2⟩ := hin
  have bad : insOk p pub vars R inputs = false → tblOk p pub vars R = true → Calls Try.prog 64 #[.agg #[.int .u64 p, .int .i64 pub, .int .i64 vars, .slice ra R.length rc], .int .i64 inputs] w (RetIn (insN p pub vars R inputs) (insE p pub vars R inputs) w) := fun hF hT => by
    obtain ⟨hv, hpub, hpv, hvl, hRl⟩ := tbl_bd hT
    have hw1 : IntKind.i64.wrap (vars - 1) = vars - 1 := by rw [IntKind.wrap_i64]; omega
    have hno := fun w' h => RetIn.no (w := w) (w' := w') hF h
    unfold insOk at hF
    rw [hT, Bool.true_and] at hF
    rw [hT] at cT
    replace hno := hide hno
    have hcase : inputs < 1 ∨ (¬ inputs < 1 ∧ 2 < inputs) ∨ (¬ inputs < 1 ∧ ¬ 2 < inputs ∧ vars - 1 < inputs) := by
      rcases Bool.and_eq_false_iff.1 hF with h | h
      · rcases Bool.and_eq_false_iff.1 h with h | h
        · have := of_decide_eq_false h; omega
        · have := of_decide_eq_false h; omega
      · have := of_decide_eq_false h; omega
    clear hT hF hRl hv
    rcases hcase with h | ⟨h0, h⟩ | ⟨h0, h1, h⟩
    all_goals
      go_enter Try.func64, Try.ntmps64
      go_wp2_with fail
      refine name_calls fun W hN => ?_
      have g0 : Blk W w.heap.size #[.int .u64 p, .int .i64 pub, .int .i64 vars, .slice ra R.length rc] 34 := by rw [hN]; exact Blk.newAt rfl
      have hB : Below w.heap.size w W := by rw [hN]; exact (Below.refl _ _).alloc (Nat.le_refl _) _
      clear hN
      refine (cT W (hR.mono hB)).mono ?_
      rintro e w1 ⟨rfl, hb1⟩
      replace hB := below2 hB hb1
      replace g0 := g0.mono hb1
      clear hb1 cT
      have k2 := g0.cell (j := 2) (v := .int .i64 vars) rfl
      go_wp2
      exact bodyPost_ret (v := .tuple #[.slice none 0 0, .int .i64 1]) (by simp [results, Try.results64, go_sem]) rfl (hno.out _ hB)
  by_cases hT : tblOk p pub vars R = true
  · by_cases hOk : insOk p pub vars R inputs = true
    · obtain ⟨hv, hpub, hpv, hvl, hRl⟩ := tbl_bd hT
      have hp := vld_pos hv
      rw [hT] at cT
      obtain ⟨P, rfl⟩ : ∃ P : Nat, p = (P : Int) := ⟨p.toNat, by omega⟩
      obtain ⟨V, rfl⟩ : ∃ V : Nat, vars = (V : Int) := ⟨vars.toNat, by omega⟩
      have hVI : (V : Int) ≤ 65536 := by omega
      have hwV : IntKind.i64.wrap ((V : Int) - 1) = (V : Int) - 1 := by rw [IntKind.wrap_i64]; omega
      have hOk2 := hOk
      unfold insOk at hOk2
      simp only [Bool.and_eq_true, decide_eq_true_iff] at hOk2
      obtain ⟨⟨⟨_, hi1⟩, hi2⟩, hiV⟩ := hOk2
      clear bad
      by_cases h257 : P ≤ 257
      · have h257I : ¬ (257 : Int) < P := by omega
        have hP2 : (P : Int) ≤ 257 := by omega
        have hrow := rows_of hT hR
        have cS := fun W h => newSearch_any P V pub ra R rc W h hv h257 (by omega) (by omega) hrow hRl
        have hRv : ∀ r ∈ R.map Rw.val, RowOk P V r := fun r hr => by
          obtain ⟨x, hx, rfl⟩ := List.mem_map.1 hr
          exact hrow x hx
        have hres : Hid (insN P pub V R inputs = insL P (R.map Rw.val) V inputs ∧ insE P pub V R inputs = 0) := hide (by
          unfold insN insE
          rw [hOk, if_pos rfl, if_pos rfl, if_neg h257I, if_neg h257I, Int.toNat_natCast, Int.toNat_natCast]
          exact ⟨rfl, rfl⟩)
        replace hrow := hide hrow
        replace hv := hide hv
        replace hRl := hide hRl
        replace hRv := hide hRv
        clear hT hOk
        have hcase : inputs = 1 ∨ inputs = 2 := by omega
        rcases hcase with rfl | rfl
        ·
          clear hi1 hi2 hin1 hin2
          go_enter Try.func64, Try.ntmps64
          go_wp2_with fail
          refine name_calls fun W hN => ?_
          have g0 : Blk W w.heap.size #[.int .u64 P, .int .i64 pub, .int .i64 V, .slice ra R.length rc] 34 := by rw [hN]; exact Blk.newAt rfl
          have hB : Below w.heap.size w W := by rw [hN]; exact (Below.refl _ _).alloc (Nat.le_refl _) _
          clear hN
          refine (cT W (hR.mono hB)).mono ?_
          rintro e w1 ⟨rfl, hb1⟩
          have hw1 : w.heap.size < w1.heap.size := Nat.lt_of_lt_of_le g0.lt hb1.size
          replace hB := below2 hB hb1
          replace g0 := g0.mono hb1
          clear hb1 cT
          have k0 := g0.cell (j := 0) (v := .int .u64 P) rfl; have k1 := g0.cell (j := 1) (v := .int .i64 pub) rfl; have k2 := g0.cell (j := 2) (v := .int .i64 V) rfl; have k3 := g0.cell (j := 3) (v := .slice ra R.length rc) rfl
          go_wp2_with fail
          refine (cS w1 (hR.mono hB)).mono ?_
          rintro en w3 ⟨q, last, gi, gr, gw, IL, Wl, rfl, D, hA, hWl, hW1, hI, hIl, hlast, hlV⟩
          clear cS k0 k1 k2 k3
          have hbz := hB.size
          replace g0 := g0.mono D.below
          replace hB := below2 hB D.below
          have k0 := (g0.alloc (.cells #[] 54)).cell (j := 0) (v := .int .u64 P) rfl
          have hRl2 : (R.map Rw.val).length ≤ 1000000 := by rw [List.length_map]; have := hRl.out; omega
          have cW := fun Wl1 W fa fc front (D : SS w1 W q P V last gi gr gw IL (R.map Rw.val) Wl1) hA1 hW2 hW3 sF hF hfl hfa => with_any (w := W) (Wl := Wl1) D hA1 hW2 hW3 (by omega) hv.out h257 hRv.out hRl2 hI hIl hlast hlV fa fc front 1 sF hF hfl hfa ⟨by omega, by omega⟩
          obtain ⟨F, hF⟩ : ∃ F, F = fun l => decide (0 < totN P (R.map Rw.val) V l 1) := ⟨_, rfl⟩
          replace hF := hide hF
          have hresL : Hid (insN P pub V R 1 = ins1 F P) := hide (by rw [hres.out.1, hF.out]; rfl)
          have hresE : Hid (insE P pub V R 1 = 0) := hide hres.out.2
          go_wp2_with fail
          refine name_world fun W4 hN => ?_
          have hb4 : Below w3.heap.size w3 W4 := by rw [hN]; exact (Below.refl _ _).alloc (Nat.le_refl _) _
          have gf : Blk W4 w3.heap.size #[] 54 := by rw [hN]; exact Blk.newAt rfl
          clear hN
          have hL0 : LW W4 w1.heap.size gw (.slice (some ⟨w3.heap.size, 0, none⟩) 0 0) [] := ⟨[], OwnG.of_blk (xs := []) D.below.size gf (Nat.le_refl _) (by simp) (by simp) (by simp), (fun s hs => by cases hs), rfl⟩
          replace D := D.mono hb4
          replace hB := below2 hB hb4
          replace g0 := g0.mono hb4
          clear hb4 gf k0 hres
          replace hWl := hide hWl
          replace hW1 := hide hW1
          have hgwl := D.gwlt.1
          go_loopw [7, 36] (fun t7 t36 wr => ∃ (x : Nat) (Wl1 : List Int), x ≤ P ∧ t36 = .int .u64 x ∧ LW wr w1.heap.size gw t7 (ins1 F x) ∧ SS w1 wr q P V last gi gr gw IL (R.map Rw.val) Wl1 ∧ AllW Wl1 ∧ Hid (Wl1.length = V) ∧ Hid (Wl1.take 1 = [1]) ∧ Below w.heap.size w wr ∧ Blk wr w.heap.size #[.int .u64 P, .int .i64 pub, .int .i64 V, .slice ra R.length rc] 34) (fun _ t36 _ => P - (intOf t36).toNat)
          case atStart => exact ⟨0, Wl, Nat.zero_le _, rfl, hL0, D, hA, hWl, hW1, hB, g0⟩
          case round =>
            clear hL0 D hA hWl hW1 hB g0
            obtain ⟨x, Wl1, hx, rfl, hL, Dx, hAx, hlx, htx, hB, g0⟩ := hrel
            by_cases hlt : x < P
            · have hltI : (x : Int) < P := by omega
              have hx0 : (0 : Int) ≤ x := by omega
              have hxl := ins1_len F x
              go_wp2_with fail
              refine name_calls fun W hN => ?_
              have hbW : Below wr.heap.size wr W := by rw [hN]; exact (Below.refl _ _).alloc (Nat.le_refl _) _
              have gx : Blk W wr.heap.size #[.int .u64 x] 22 := by rw [hN]; exact Blk.newAt rfl
              clear hN
              have hgl := Dx.gwlt
              have hwz := hB.size
              have hfb : ∀ u ∈ [(x : Int)], 0 ≤ u ∧ u < (P : Int) := fun u hu => by simp only [List.mem_cons, List.not_mem_nil, or_false] at hu; omega
              refine (cW Wl1 W (some ⟨wr.heap.size, 0, none⟩) 1 [(x : Int)] (Dx.mono hbW) hAx hlx.out htx.out (UsB.sl (s := ⟨wr.heap.size, [(x : Int)]⟩) gx) hfb (by show 1 + 1 ≤ V; omega) (fun _ b off e => by cases e; omega)).mono ?_
              rintro en w4 ⟨rfl, Wl2, D2, hA2, hl2, ht2, k2⟩
              have hstep : (0 < totN P (R.map Rw.val) V [(x : Int)] 1 → ins1 F (x + 1) = ins1 F x ++ [[(x : Int)]]) ∧ (¬ 0 < totN P (R.map Rw.val) V [(x : Int)] 1 → ins1 F (x + 1) = ins1 F x) := by
                rw [ins1, hF.out]
                constructor
                · intro h; rw [if_pos (decide_eq_true h)]
                · intro h; rw [if_neg (fun h2 => h (of_decide_eq_true h2)), List.append_nil]
              generalize totN P (R.map Rw.val) V [(x : Int)] 1 = z at *
              have hL4 := (hL.mono hbW).kw k2
              have g4 := k2.oth _ _ _ (g0.mono hbW) (by omega)
              have hB4 : Below w.heap.size w w4 := (below2 hB hbW).trans (k2.below.mono hbz)
              have hs4 := D2.below.size
              replace hl2 := hide hl2
              replace ht2 := hide ht2
              clear cW hbW gx k2 hL g0 hB Dx hAx hlx htx hfb
              by_cases hz : 0 < z
              · have hX := hide (hstep.1 hz)
                obtain ⟨Xs, ow, hok, hXs⟩ := hL4
                have hlen : Hid (Xs.length ≤ 70000) := hide (by
                  have h1 := congrArg List.length hXs
                  rw [List.length_map] at h1
                  omega)
                clear hstep
                go_wp2_with (at_builtin; refine wpList_appG _ usL Xs [⟨w4.heap.size, [(x : Int)]⟩] rfl _ _ 93 rfl w1.heap.size 54 (.slice none 0 0) 24 Try.underlying93 Try.infoUs rfl (by decide) _ 1 1 (some ⟨_, 0, none⟩) rfl rfl rfl ((ow.alloc _).alloc _) (SlG.one (Blk.newAt (by simp)) rfl) (by have := hlen.out; simp; omega) (by simp; omega) ?_; intro v' w' own' hg'; refine Hold.mk ?_)
                refine Hold.go ?_
                have hbA : Below w4.heap.size w4 ((w4.alloc (.cells #[.int .u64 x] 22)).alloc (.cells #[.slice (some ⟨w4.heap.size, 0, none⟩) 1 1] 54)) := ((Below.refl _ _).alloc (Nat.le_refl _) _).alloc (by simp) _
                have hgl2 := D2.gwlt.2
                obtain ⟨hL5, k5⟩ := LW.push (s := ⟨w4.heap.size, [(x : Int)]⟩) ((ow.alloc _).alloc _) (fun s hs => ⟨(hok s hs).1.mono hbA, (hok s hs).2⟩) hXs ⟨(Blk.new w4 #[.int .u64 x] 22).alloc _, by show w4.heap.size ≠ gw; omega⟩ (by simp; omega) hg' own'
                have D5 := (D2.mono hbA).kx k5 (by unfold XLs; decide) (by unfold XLs; decide) (by unfold XLs; decide) (by unfold XLs; decide)
                have g5 := k5.typ _ _ _ (g4.mono hbA) (by unfold XLs; decide)
                have hB5 : Below w.heap.size w w' := (below2 hB4 hbA).trans (k5.below.mono hbz)
                replace hL5 : LW w' w1.heap.size gw v' (ins1 F (x + 1)) := by rw [hX.out]; exact hL5
                clear ow hok hXs hbA hg' own' k5 D2 g4 hB4 hX hgl2
                go_wp2
                go_roundw
                case rel => exact ⟨x + 1, Wl2, by omega, by go_num, hL5, D5, hA2, hl2, ht2, hB5, g5⟩
                case measure => simp [intOf]; omega
              · have hX := hide (hstep.2 hz)
                rw [← hX.out] at hL4
                clear hstep
                go_wp2
                go_roundw
                case rel => exact ⟨x + 1, Wl2, by omega, by go_num, hL4, D2, hA2, hl2, ht2, hB4, g4⟩
                case measure => simp [intOf]; omega
            · obtain rfl : x = P := by omega
              go_wp2
              exact bodyPost_ret (v := .tuple #[u7, .int .i64 0]) (by simp [results, Try.results64, go_sem]) rfl ⟨_, by rw [hresE.out], by rw [hresL.out]; exact hL.ll.low hbz, hB⟩
        ·
          clear hi1 hi2 hin1 hin2
          go_enter Try.func64, Try.ntmps64
          go_wp2_with fail
          refine name_calls fun W hN => ?_
          have g0 : Blk W w.heap.size #[.int .u64 P, .int .i64 pub, .int .i64 V, .slice ra R.length rc] 34 := by rw [hN]; exact Blk.newAt rfl
          have hB : Below w.heap.size w W := by rw [hN]; exact (Below.refl _ _).alloc (Nat.le_refl _) _
          clear hN
          refine (cT W (hR.mono hB)).mono ?_
          rintro e w1 ⟨rfl, hb1⟩
          have hw1 : w.heap.size < w1.heap.size := Nat.lt_of_lt_of_le g0.lt hb1.size
          replace hB := below2 hB hb1
          replace g0 := g0.mono hb1
          clear hb1 cT
          have k0 := g0.cell (j := 0) (v := .int .u64 P) rfl; have k1 := g0.cell (j := 1) (v := .int .i64 pub) rfl; have k2 := g0.cell (j := 2) (v := .int .i64 V) rfl; have k3 := g0.cell (j := 3) (v := .slice ra R.length rc) rfl
          go_wp2_with fail
          refine (cS w1 (hR.mono hB)).mono ?_
          rintro en w3 ⟨q, last, gi, gr, gw, IL, Wl, rfl, D, hA, hWl, hW1, hI, hIl, hlast, hlV⟩
          clear cS k0 k1 k2 k3
          have hbz := hB.size
          replace g0 := g0.mono D.below
          replace hB := below2 hB D.below
          have k0 := (g0.alloc (.cells #[] 54)).cell (j := 0) (v := .int .u64 P) rfl
          have hRl2 : (R.map Rw.val).length ≤ 1000000 := by rw [List.length_map]; have := hRl.out; omega
          have cW := fun Wl1 W fa fc front (D : SS w1 W q P V last gi gr gw IL (R.map Rw.val) Wl1) hA1 hW2 hW3 sF hF hfl hfa => with_any (w := W) (Wl := Wl1) D hA1 hW2 hW3 (by omega) hv.out h257 hRv.out hRl2 hI hIl hlast hlV fa fc front 1 sF hF hfl hfa ⟨by omega, by omega⟩
          obtain ⟨F, hF⟩ : ∃ F, F = fun l => decide (0 < totN P (R.map Rw.val) V l 1) := ⟨_, rfl⟩
          replace hF := hide hF
          have hresL : Hid (insN P pub V R 2 = ins2 F P P) := hide (by rw [hres.out.1, hF.out]; rfl)
          have hresE : Hid (insE P pub V R 2 = 0) := hide hres.out.2
          go_wp2_with fail
          refine name_world fun W4 hN => ?_
          have hb4 : Below w3.heap.size w3 W4 := by rw [hN]; exact (Below.refl _ _).alloc (Nat.le_refl _) _
          have gf : Blk W4 w3.heap.size #[] 54 := by rw [hN]; exact Blk.newAt rfl
          clear hN
          have hL0 : LW W4 w1.heap.size gw (.slice (some ⟨w3.heap.size, 0, none⟩) 0 0) [] := ⟨[], OwnG.of_blk (xs := []) D.below.size gf (Nat.le_refl _) (by simp) (by simp) (by simp), (fun s hs => by cases hs), rfl⟩
          replace D := D.mono hb4
          replace hB := below2 hB hb4
          replace g0 := g0.mono hb4
          clear hb4 gf k0 hres
          replace hWl := hide hWl
          replace hW1 := hide hW1
          have hgwl := D.gwlt.1
          go_loopw [7, 36] (fun t7 t36 wr => ∃ (x : Nat) (Wl1 : List Int), x ≤ P ∧ t36 = .int .u64 x ∧ LW wr w1.heap.size gw t7 (ins2 F P x) ∧ SS w1 wr q P V last gi gr gw IL (R.map Rw.val) Wl1 ∧ AllW Wl1 ∧ Hid (Wl1.length = V) ∧ Hid (Wl1.take 1 = [1]) ∧ Below w.heap.size w wr ∧ Blk wr w.heap.size #[.int .u64 P, .int .i64 pub, .int .i64 V, .slice ra R.length rc] 34) (fun _ t36 _ => P - (intOf t36).toNat)
          case atStart => exact ⟨0, Wl, Nat.zero_le _, rfl, hL0, D, hA, hWl, hW1, hB, g0⟩
          case round =>
            clear hL0 D hA hWl hW1 hB g0
            obtain ⟨x, Wl1, hx, rfl, hL, Dx, hAx, hlx, htx, hB, g0⟩ := hrel
            by_cases hlt : x < P
            · have hltI : (x : Int) < P := by omega
              have hx0 : (0 : Int) ≤ x := by omega
              have hxl := ins2_len F P x
              have hxp : x * P ≤ 256 * 257 := Nat.mul_le_mul (by omega) h257
              have k0 := g0.cell (j := 0) (v := .int .u64 P) rfl
              replace hxp := hide (Nat.le_trans hxl hxp)
              clear hxl
              have hL' := hL
              rw [show ins2 F P x = ins2 F P x ++ insB F x 0 by rw [insB, List.append_nil]] at hL'
              clear hL
              go_wp2_with fail
              go_loopw [7, 53] (fun t7 t53 wr => ∃ (y : Nat) (Wl1 : List Int), y ≤ P ∧ t53 = .int .u64 y ∧ LW wr w1.heap.size gw t7 (ins2 F P x ++ insB F x y) ∧ SS w1 wr q P V last gi gr gw IL (R.map Rw.val) Wl1 ∧ AllW Wl1 ∧ Hid (Wl1.length = V) ∧ Hid (Wl1.take 1 = [1]) ∧ Below w.heap.size w wr ∧ Blk wr w.heap.size #[.int .u64 P, .int .i64 pub, .int .i64 V, .slice ra R.length rc] 34) (fun _ t53 _ => P - (intOf t53).toNat)
              case atStart => exact ⟨0, Wl1, Nat.zero_le _, rfl, hL', Dx, hAx, hlx, htx, hB, g0⟩
              case round =>
                clear hL' Dx hAx hlx htx hB g0 k0
                obtain ⟨y, Wl1, hy, rfl, hL, Dx, hAx, hlx, htx, hB, g0⟩ := hrel
                by_cases hlty : y < P
                · have hltyI : (y : Int) < P := by omega
                  have hy0 : (0 : Int) ≤ y := by omega
                  have hyl := insB_len F x y
                  go_wp2_with fail
                  refine name_calls fun W hN => ?_
                  have hbW : Below wr.heap.size wr W := by rw [hN]; exact (Below.refl _ _).alloc (Nat.le_refl _) _
                  have gx : Blk W wr.heap.size #[.int .u64 x, .int .u64 y] 22 := by rw [hN]; exact Blk.newAt rfl
                  clear hN
                  have hgl := Dx.gwlt
                  have hwz := hB.size
                  have hfb : ∀ u ∈ [(x : Int), (y : Int)], 0 ≤ u ∧ u < (P : Int) := fun u hu => by simp only [List.mem_cons, List.not_mem_nil, or_false] at hu; omega
                  refine (cW Wl1 W (some ⟨wr.heap.size, 0, none⟩) 2 [(x : Int), (y : Int)] (Dx.mono hbW) hAx hlx.out htx.out (UsB.sl (s := ⟨wr.heap.size, [(x : Int), (y : Int)]⟩) gx) hfb (by show 1 + 2 ≤ V; omega) (fun _ b off e => by cases e; omega)).mono ?_
                  rintro en w4 ⟨rfl, Wl2, D2, hA2, hl2, ht2, k2⟩
                  have hstep : (0 < totN P (R.map Rw.val) V [(x : Int), (y : Int)] 1 → (ins2 F P x ++ insB F x (y + 1)) = (ins2 F P x ++ insB F x y) ++ [[(x : Int), (y : Int)]]) ∧ (¬ 0 < totN P (R.map Rw.val) V [(x : Int), (y : Int)] 1 → (ins2 F P x ++ insB F x (y + 1)) = (ins2 F P x ++ insB F x y)) := by
                    rw [insB, ← List.append_assoc, hF.out]
                    constructor
                    · intro h; rw [if_pos (decide_eq_true h)]
                    · intro h; rw [if_neg (fun h2 => h (of_decide_eq_true h2)), List.append_nil]
                  generalize totN P (R.map Rw.val) V [(x : Int), (y : Int)] 1 = z at *
                  have hL4 := (hL.mono hbW).kw k2
                  have g4 := k2.oth _ _ _ (g0.mono hbW) (by omega)
                  have hB4 : Below w.heap.size w w4 := (below2 hB hbW).trans (k2.below.mono hbz)
                  have hs4 := D2.below.size
                  replace hl2 := hide hl2
                  replace ht2 := hide ht2
                  clear cW hbW gx k2 hL g0 hB Dx hAx hlx htx hfb
                  by_cases hz : 0 < z
                  · have hX := hide (hstep.1 hz)
                    obtain ⟨Xs, ow, hok, hXs⟩ := hL4
                    have hlen : Hid (Xs.length ≤ 70000) := hide (by
                      have h1 := congrArg List.length hXs
                      rw [List.length_map] at h1
                      rw [List.length_append] at h1; have := hxp.out; omega)
                    clear hstep
                    go_wp2_with (at_builtin; refine wpList_appG _ usL Xs [⟨w4.heap.size, [(x : Int), (y : Int)]⟩] rfl _ _ 93 rfl w1.heap.size 54 (.slice none 0 0) 24 Try.underlying93 Try.infoUs rfl (by decide) _ 1 1 (some ⟨_, 0, none⟩) rfl rfl rfl ((ow.alloc _).alloc _) (SlG.one (Blk.newAt (by simp)) rfl) (by have := hlen.out; simp; omega) (by simp; omega) ?_; intro v' w' own' hg'; refine Hold.mk ?_)
                    refine Hold.go ?_
                    have hbA : Below w4.heap.size w4 ((w4.alloc (.cells #[.int .u64 x, .int .u64 y] 22)).alloc (.cells #[.slice (some ⟨w4.heap.size, 0, none⟩) 2 2] 54)) := ((Below.refl _ _).alloc (Nat.le_refl _) _).alloc (by simp) _
                    have hgl2 := D2.gwlt.2
                    obtain ⟨hL5, k5⟩ := LW.push (s := ⟨w4.heap.size, [(x : Int), (y : Int)]⟩) ((ow.alloc _).alloc _) (fun s hs => ⟨(hok s hs).1.mono hbA, (hok s hs).2⟩) hXs ⟨(Blk.new w4 #[.int .u64 x, .int .u64 y] 22).alloc _, by show w4.heap.size ≠ gw; omega⟩ (by simp; omega) hg' own'
                    have D5 := (D2.mono hbA).kx k5 (by unfold XLs; decide) (by unfold XLs; decide) (by unfold XLs; decide) (by unfold XLs; decide)
                    have g5 := k5.typ _ _ _ (g4.mono hbA) (by unfold XLs; decide)
                    have hB5 : Below w.heap.size w w' := (below2 hB4 hbA).trans (k5.below.mono hbz)
                    replace hL5 : LW w' w1.heap.size gw v' ((ins2 F P x ++ insB F x (y + 1))) := by rw [hX.out]; exact hL5
                    clear ow hok hXs hbA hg' own' k5 D2 g4 hB4 hX hgl2
                    go_wp2
                    go_roundw
                    case rel => exact ⟨y + 1, Wl2, by omega, by go_num, hL5, D5, hA2, hl2, ht2, hB5, g5⟩
                    case measure => simp [intOf]; omega
                  · have hX := hide (hstep.2 hz)
                    rw [← hX.out] at hL4
                    clear hstep
                    go_wp2
                    go_roundw
                    case rel => exact ⟨y + 1, Wl2, by omega, by go_num, hL4, D2, hA2, hl2, ht2, hB4, g4⟩
                    case measure => simp [intOf]; omega
                · obtain rfl : y = P := by omega
                  replace hL : LW wr w1.heap.size gw _ (ins2 F y (x + 1)) := hL
                  go_wp2
                  go_roundw
                  case rel => exact ⟨x + 1, Wl1, by omega, by go_num, hL, Dx, hAx, hlx, htx, hB, g0⟩
                  case measure => simp [intOf]; omega
            · obtain rfl : x = P := by omega
              go_wp2
              exact bodyPost_ret (v := .tuple #[u7, .int .i64 0]) (by simp [results, Try.results64, go_sem]) rfl ⟨_, by rw [hresE.out], by rw [hresL.out]; exact hL.ll.low hbz, hB⟩
      · have h257N : (257 : Int) < P := by omega
        have hfinal : ∀ w', Below w.heap.size w w' → RetIn (insN P pub V R inputs) (insE P pub V R inputs) w (.returned (.tuple #[.slice none 0 0, .int .i64 7])) w' := fun w' hb => ⟨_, by unfold insE; rw [hOk, if_pos rfl, if_pos h257N], by unfold insN; rw [hOk, if_pos rfl, if_pos h257N]; exact LL.nil _ _, hb⟩
        replace hfinal := hide hfinal
        clear hT hv hOk hRl
        go_enter Try.func64, Try.ntmps64
        go_wp2_with fail
        refine name_calls fun W hN => ?_
        have g0 : Blk W w.heap.size #[.int .u64 P, .int .i64 pub, .int .i64 V, .slice ra R.length rc] 34 := by rw [hN]; exact Blk.newAt rfl
        have hB : Below w.heap.size w W := by rw [hN]; exact (Below.refl _ _).alloc (Nat.le_refl _) _
        clear hN
        refine (cT W (hR.mono hB)).mono ?_
        rintro e w1 ⟨rfl, hb1⟩
        replace hB := below2 hB hb1
        replace g0 := g0.mono hb1
        clear hb1 cT
        have k2 := g0.cell (j := 2) (v := .int .i64 V) rfl; have k0 := g0.cell (j := 0) (v := .int .u64 P) rfl
        go_wp2
        exact bodyPost_ret (v := .tuple #[.slice none 0 0, .int .i64 7]) (by simp [results, Try.results64, go_sem]) rfl (hfinal.out _ hB)
    · exact bad (by simpa using hOk) hT
  · have hT2 : tblOk p pub vars R = false := by simpa using hT
    have hF := hide (show insOk p pub vars R inputs = false by unfold insOk; rw [hT2, Bool.false_and, Bool.false_and, Bool.false_and])
    rw [hT2] at cT
    clear hT hT2 bad
    go_enter Try.func64, Try.ntmps64
    go_wp2_with fail
    refine name_calls fun W hN => ?_
    have hB : Below w.heap.size w W := by rw [hN]; exact (Below.refl _ _).alloc (Nat.le_refl _) _
    clear hN
    refine (cT W (hR.mono hB)).mono ?_
    rintro e w1 ⟨rfl, hb1⟩
    replace hB := below2 hB hb1
    clear hb1 cT
    go_wp2
    exact bodyPost_ret (v := .tuple #[.slice none 0 0, .int .i64 1]) (by simp [results, Try.results64, go_sem]) rfl (RetIn.no hF.out hB)
end Go.Proofs.Ytlgjnidphldiiaa

/- Exhaustive search: Inputs of the reference. -/
namespace Go.Proofs.Ytlgjnidphldiiaa
open Go.ChangeShapes Go.WideShapes Go.ChangeAt Go.RowKit

end Go.Proofs.Ytlgjnidphldiiaa

/- Exhaustive search: the laws' own functions: square, awake. -/
namespace Go.Proofs.Ytlgjnidphldiiaa
open Go.ChangeShapes Go.WideShapes Go.ChangeAt Go.RowKit

def RetL1 (w : World) (v c : Int) (e : Ending) (w' : World) : Prop := ∃ b, e = .returned (.slice (some ⟨b, 0, none⟩) 1 1) ∧ w.heap.size ≤ b ∧ LinT w' ⟨some ⟨b, 0, none⟩, 1, [(v, c)]⟩ ∧ Below w.heap.size w w'
set_option maxHeartbeats 1600000 in
theorem one23_any (v c : Int) (w : World) (hv : (Lit.int .i64 v).wf = true) (hc : (Lit.int .u64 c).wf = true) : Calls Try.prog 124 #[.int .i64 v, .int .u64 c] w (RetL1 w v c) := by
  have hr : ∀ w', Blk w' w.heap.size #[.int .i64 v, .int .u64 c] 100 → Below w.heap.size w w' → RetL1 w v c (.returned (.slice (some ⟨w.heap.size, 0, none⟩) 1 1)) w' := fun w' g hb => ⟨_, rfl, Nat.le_refl _, LinT.one g hv hc, hb⟩
  clear hv hc
  go_enter Try.func124, Try.ntmps124
  go_wp2
  go_ret
  exact hr _ (Blk.newAt rfl) ((Below.refl _ _).alloc (Nat.le_refl _) _)

/-- The rows of the example. -/
def sq1 (x y z : Option Addr) : Rw := ⟨⟨x, 1, [(1, 1)]⟩, ⟨y, 1, [(1, 1)]⟩, ⟨z, 1, [(2, 1)]⟩⟩
def sq2 (x y z : Option Addr) : Rw := ⟨⟨x, 1, [(2, 1)]⟩, ⟨y, 1, [(0, 1)]⟩, ⟨z, 1, [(0, 4)]⟩⟩
def RetSq (w : World) (R : List Rw → Prop) (e : Ending) (w' : World) : Prop := ∃ ra rc Rs, e = .returned (.agg #[.int .u64 17, .int .i64 0, .int .i64 3, .slice ra Rs.length rc]) ∧ RowsP w' ra rc Rs ∧ R Rs ∧ Below w.heap.size w w'
def XTb (T : TypeId) : Prop := T = 34
theorem xtR : ¬ XTb 106 := by unfold XTb; decide
theorem xtT : ¬ XTb 100 := by unfold XTb; decide
/-- The store of a table into the block of the result. -/
theorem sq_set {w W : World} {v a b c d : Value} {Rs : List Rw} (g : Blk W w.heap.size #[a, b, c, d] 34) (hB : Below w.heap.size w W) (ow : OwnG rwL W w.heap.size 106 v Rs) (hl : ∀ r ∈ Rs, LinT W r.a ∧ LinT W r.b ∧ LinT W r.c) :
    ∀ W', W' = (((W.setCell ⟨w.heap.size, 0, none⟩ (.int .u64 17)).setCell ⟨w.heap.size, 1, none⟩ (.int .i64 0)).setCell ⟨w.heap.size, 2, none⟩ (.int .i64 3)).setCell ⟨w.heap.size, 3, none⟩ v → Blk W' w.heap.size #[.int .u64 17, .int .i64 0, .int .i64 3, v] 34 ∧ Below w.heap.size w W' ∧ OwnG rwL W' w.heap.size 106 v Rs ∧ (∀ r ∈ Rs, LinT W' r.a ∧ LinT W' r.b ∧ LinT W' r.c) := by
  rintro W' rfl
  have g1 := g.set 0 (.int .u64 17)
  have g2 := g1.set 1 (.int .i64 0)
  have g3 := g2.set 2 (.int .i64 3)
  have k : KX XTb w.heap.size W _ := (((KX.set (X := XTb) (j := 0) (u := .int .u64 17) g rfl (Nat.le_refl _)).trans (KX.set (X := XTb) (j := 1) (u := .int .i64 0) g1 rfl (Nat.le_refl _))).trans (KX.set (X := XTb) (j := 2) (u := .int .i64 3) g2 rfl (Nat.le_refl _))).trans (KX.set (X := XTb) (j := 3) (u := v) g3 rfl (Nat.le_refl _))
  exact ⟨g3.set 3 v, hB.trans k.below, k.own xtR ow, fun r hr => ⟨k.lin xtT (hl r hr).1, k.lin xtT (hl r hr).2.1, k.lin xtT (hl r hr).2.2⟩⟩
theorem sq_fin {w W' : World} {v : Value} {Rs : List Rw} {P : List Rw → Prop} (hB : Below w.heap.size w W') (ow : OwnG rwL W' w.heap.size 106 v Rs) (hl : ∀ r ∈ Rs, LinT W' r.a ∧ LinT W' r.b ∧ LinT W' r.c) (hP : P Rs) : RetSq w P (.returned (.agg #[.int .u64 17, .int .i64 0, .int .i64 3, v])) W' := by
  obtain ⟨ad, c, rfl, sl, h1, h2, h3⟩ := ow.sl
  exact ⟨ad, c, Rs, rfl, RowsP.of_slg sl (fun r hr => ⟨(hl r hr).1.ok, (hl r hr).2.1.ok, (hl r hr).2.2.ok⟩) h1 h2 h3, hP, hB⟩
set_option maxRecDepth 10000 in
set_option maxHeartbeats 16000000 in
theorem squareF_any (w : World) : Calls Try.prog 101 #[.bool false] w (RetSq w fun R => ∃ x y z, R = [sq1 x y z]) := by
  go_enter Try.func101, Try.ntmps101
  go_wp2_with fail
  refine name_calls fun W hN => ?_
  have gT : Blk W w.heap.size #[.int .u64 0, .int .i64 0, .int .i64 0, .slice none 0 0] 34 := by rw [hN]; exact Blk.newAt rfl
  have hB : Below w.heap.size w W := by rw [hN]; exact (Below.refl _ _).alloc (Nat.le_refl _) _
  clear hN
  refine (one23_any 1 1 W (by decide) (by decide)).mono ?_
  rintro e w1 ⟨x, rfl, lx, hx, hb1⟩
  replace gT := gT.mono hb1
  replace hB := below2 hB hb1
  clear hb1
  go_wp2_with fail
  refine (one23_any 1 1 w1 (by decide) (by decide)).mono ?_
  rintro e w2 ⟨y, rfl, ly, hy, hb2⟩
  replace gT := gT.mono hb2
  replace hB := below2 hB hb2
  replace hx := hx.mono hb2
  clear hb2
  go_wp2_with fail
  refine (one23_any 2 1 w2 (by decide) (by decide)).mono ?_
  rintro e w3 ⟨z, rfl, lz, hz, hb3⟩
  replace gT := gT.mono hb3
  replace hB := below2 hB hb3
  replace hx := hx.mono hb3
  replace hy := hy.mono hb3
  clear hb3
  have hbA : Below w3.heap.size w3 ((w3.alloc (.cells #[.slice (some ⟨x, 0, none⟩) 1 1, .slice (some ⟨y, 0, none⟩) 1 1, .slice (some ⟨z, 0, none⟩) 1 1] 106)).alloc (.cells #[.int .u64 17, .int .i64 0, .int .i64 3, .slice (some ⟨w3.heap.size, 0, none⟩) 1 1] 34)) := ((Below.refl _ _).alloc (Nat.le_refl _) _).alloc (by simp) _
  have gR := (Blk.new w3 #[.slice (some ⟨x, 0, none⟩) 1 1, .slice (some ⟨y, 0, none⟩) 1 1, .slice (some ⟨z, 0, none⟩) 1 1] 106).alloc (.cells #[.int .u64 17, .int .i64 0, .int .i64 3, .slice (some ⟨w3.heap.size, 0, none⟩) 1 1] 34)
  have ow : OwnG rwL _ w.heap.size 106 (.slice (some ⟨w3.heap.size, 0, none⟩) 1 1) [sq1 (some ⟨x, 0, none⟩) (some ⟨y, 0, none⟩) (some ⟨z, 0, none⟩)] := OwnG.of_blk (L := rwL) (xs := [sq1 (some ⟨x, 0, none⟩) (some ⟨y, 0, none⟩) (some ⟨z, 0, none⟩)]) (cap := 1) hB.size gR (Nat.le_refl _) (by simp [maxLen]) rfl rfl
  have hl : ∀ r ∈ [sq1 (some ⟨x, 0, none⟩) (some ⟨y, 0, none⟩) (some ⟨z, 0, none⟩)], LinT _ r.a ∧ LinT _ r.b ∧ LinT _ r.c := fun r hr => by
    rw [List.mem_singleton] at hr
    subst hr
    exact ⟨hx.mono hbA, hy.mono hbA, hz.mono hbA⟩
  have gA := gT.mono hbA
  have hBA := below2 hB hbA
  have k0 := gA.cell (j := 0) (v := .int .u64 0) rfl; have k1 := gA.cell (j := 1) (v := .int .i64 0) rfl; have k2 := gA.cell (j := 2) (v := .int .i64 0) rfl; have k3 := gA.cell (j := 3) (v := .slice none 0 0) rfl
  have f := gA.free
  obtain ⟨W7, hW7⟩ : ∃ W7, W7 = _ := ⟨_, rfl⟩
  have hF := sq_set gA hBA ow hl W7 hW7
  clear hx hy hz gT gR hl
  go_wp2
  rw [← hW7]
  obtain ⟨g8, hB8, ow8, hl8⟩ := hF
  clear k0 k1 k2 k3 f hW7 gA hBA hbA ow
  have y0 := g8.cell (j := 0) (v := .int .u64 17) rfl
  have y1 := g8.cell (j := 1) (v := .int .i64 0) rfl
  have y2 := g8.cell (j := 2) (v := .int .i64 3) rfl
  have y3 := g8.cell (j := 3) (v := .slice (some ⟨w3.heap.size, 0, none⟩) 1 1) rfl
  exact bodyPost_ret (v := .agg #[.int .u64 17, .int .i64 0, .int .i64 3, .slice (some ⟨w3.heap.size, 0, none⟩) 1 1]) (by simp [results, Try.results101, go_sem, y0, y1, y2, y3]) rfl (sq_fin hB8 ow8 hl8 ⟨_, _, _, rfl⟩)
set_option maxRecDepth 10000 in
set_option maxHeartbeats 16000000 in
theorem squareT_any (w : World) : Calls Try.prog 101 #[.bool true] w (RetSq w fun R => ∃ x y z u v t, R = [sq1 x y z, sq2 u v t]) := by
  go_enter Try.func101, Try.ntmps101
  go_wp2_with fail
  refine name_calls fun W hN => ?_
  have gT : Blk W w.heap.size #[.int .u64 0, .int .i64 0, .int .i64 0, .slice none 0 0] 34 := by rw [hN]; exact Blk.newAt rfl
  have hB : Below w.heap.size w W := by rw [hN]; exact (Below.refl _ _).alloc (Nat.le_refl _) _
  clear hN
  refine (one23_any 1 1 W (by decide) (by decide)).mono ?_
  rintro e w1 ⟨x, rfl, lx, hx, hb1⟩
  replace gT := gT.mono hb1
  replace hB := below2 hB hb1
  clear hb1
  go_wp2_with fail
  refine (one23_any 1 1 w1 (by decide) (by decide)).mono ?_
  rintro e w2 ⟨y, rfl, ly, hy, hb2⟩
  replace gT := gT.mono hb2
  replace hB := below2 hB hb2
  replace hx := hx.mono hb2
  clear hb2
  go_wp2_with fail
  refine (one23_any 2 1 w2 (by decide) (by decide)).mono ?_
  rintro e w3 ⟨z, rfl, lz, hz, hb3⟩
  replace gT := gT.mono hb3
  replace hB := below2 hB hb3
  replace hx := hx.mono hb3
  replace hy := hy.mono hb3
  clear hb3
  go_wp2_with fail
  refine Rel.region_any Try.mixed fun w4 hb4 => ?_
  have hbA : Below w3.heap.size w3 w4 := (((Below.refl _ _).alloc (Nat.le_refl _) _).alloc (by simp) _).trans (hb4.mono (by simp; omega))
  have gR := ((Blk.new w3 #[.slice (some ⟨x, 0, none⟩) 1 1, .slice (some ⟨y, 0, none⟩) 1 1, .slice (some ⟨z, 0, none⟩) 1 1] 106).alloc (.cells #[.int .u64 17, .int .i64 0, .int .i64 3, .slice (some ⟨w3.heap.size, 0, none⟩) 1 1] 34)).mono hb4
  have gB : Blk w4 (w3.heap.size + 1) #[.int .u64 17, .int .i64 0, .int .i64 3, .slice (some ⟨w3.heap.size, 0, none⟩) 1 1] 34 := Blk.mono (Blk.newAt (by simp)) hb4
  have ow : OwnG rwL w4 w.heap.size 106 (.slice (some ⟨w3.heap.size, 0, none⟩) 1 1) [sq1 (some ⟨x, 0, none⟩) (some ⟨y, 0, none⟩) (some ⟨z, 0, none⟩)] := OwnG.of_blk (L := rwL) (xs := [sq1 (some ⟨x, 0, none⟩) (some ⟨y, 0, none⟩) (some ⟨z, 0, none⟩)]) (cap := 1) hB.size gR (Nat.le_refl _) (by simp [maxLen]) rfl rfl
  have hl : ∀ r ∈ [sq1 (some ⟨x, 0, none⟩) (some ⟨y, 0, none⟩) (some ⟨z, 0, none⟩)], LinT w4 r.a ∧ LinT w4 r.b ∧ LinT w4 r.c := fun r hr => by
    rw [List.mem_singleton] at hr
    subst hr
    exact ⟨hx.mono hbA, hy.mono hbA, hz.mono hbA⟩
  replace gT := gT.mono hbA
  have hb3z := hB.size
  have hb3T := gT.lt
  replace hB := below2 hB hbA
  clear hx hy hz gR hb4 hbA
  refine Rel.any_held (fun W => W.cell? ⟨w3.heap.size + 1, 3, none⟩ = some (.slice (some ⟨w3.heap.size, 0, none⟩) 1 1)) 12 (gB.cell (j := 3) rfl) fun hH0 => ?_
  refine Rel.heldTake (v := ?_) 0 rfl (by kernel_rfl) (by kernel_rfl) (by kernel_rfl) (fun _ _ _ h => h) (by assumption) (by rfl) ?_ ?_
  rotate_left
  · (intro W hSw; (try dsimp only at hSw); go_simp; try with_reducible rfl)
  try simp only [Act.put, List.setIfInBounds_toArray, List.set_cons_zero, List.set_cons_succ]
  refine Rel.heldTake (v := ?_) 1 rfl (by kernel_rfl) (by kernel_rfl) (by kernel_rfl) (fun _ _ _ h => h) (by assumption) (by rfl) ?_ ?_
  rotate_left
  · (intro W hSw; (try dsimp only at hSw); go_simp; try with_reducible rfl)
  try simp only [Act.put, List.setIfInBounds_toArray, List.set_cons_zero, List.set_cons_succ]
  refine Rel.heldTake (v := ?_) 2 rfl (by kernel_rfl) (by kernel_rfl) (by kernel_rfl) (fun _ _ _ h => h) (by assumption) (by rfl) ?_ ?_
  rotate_left
  · (intro W hSw; (try dsimp only at hSw); go_simp; try with_reducible rfl)
  try simp only [Act.put, List.setIfInBounds_toArray, List.set_cons_zero, List.set_cons_succ]
  refine Rel.heldTake (v := ?_) 4 rfl (by kernel_rfl) (by kernel_rfl) (by kernel_rfl) (fun _ _ _ h => h) (by assumption) (by rfl) ?_ ?_
  rotate_left
  · (intro W hSw; (try dsimp only at hSw); go_simp; try with_reducible rfl)
  try simp only [Act.put, List.setIfInBounds_toArray, List.set_cons_zero, List.set_cons_succ]
  refine Rel.heldTake (v := ?_) 6 rfl (by kernel_rfl) (by kernel_rfl) (by kernel_rfl) (fun _ _ _ h => h) (by assumption) (by rfl) ?_ ?_
  rotate_left
  · (intro W hSw; (try dsimp only at hSw); go_simp; try with_reducible rfl)
  try simp only [Act.put, List.setIfInBounds_toArray, List.set_cons_zero, List.set_cons_succ]
  refine Rel.heldNext 3 rfl (by kernel_rfl) fun K hK => ?_
  go_simp
  refine (one23_any 2 1 w4 (by decide) (by decide)).mono ?_
  rintro e w5 ⟨u, rfl, lu, hu, hb5⟩
  replace gT := gT.mono hb5
  replace gB := gB.mono hb5
  replace hB := below2 hB hb5
  replace ow := ow.mono hb5
  replace hl := fun r hr => (⟨(hl r hr).1.mono hb5, (hl r hr).2.1.mono hb5, (hl r hr).2.2.mono hb5⟩ : LinT w5 r.a ∧ LinT w5 r.b ∧ LinT w5 r.c)
  clear hb5
  refine hK.out _ _ (gB.cell (j := 3) rfl) (fun hH1 => ?_)
  clear hK K
  try simp only [Act.put, List.setIfInBounds_toArray, List.set_cons_zero, List.set_cons_succ]
  refine Rel.heldNext 5 rfl (by kernel_rfl) fun K hK => ?_
  go_simp
  refine (one23_any 0 1 w5 (by decide) (by decide)).mono ?_
  rintro e w6 ⟨v, rfl, lv, hv, hb6⟩
  replace gT := gT.mono hb6
  replace gB := gB.mono hb6
  replace hB := below2 hB hb6
  replace ow := ow.mono hb6
  replace hl := fun r hr => (⟨(hl r hr).1.mono hb6, (hl r hr).2.1.mono hb6, (hl r hr).2.2.mono hb6⟩ : LinT w6 r.a ∧ LinT w6 r.b ∧ LinT w6 r.c)
  replace hu := hu.mono hb6
  clear hb6
  refine hK.out _ _ (gB.cell (j := 3) rfl) (fun hH2 => ?_)
  clear hK K
  try simp only [Act.put, List.setIfInBounds_toArray, List.set_cons_zero, List.set_cons_succ]
  refine Rel.heldNext 7 rfl (by kernel_rfl) fun K hK => ?_
  go_simp
  refine (one23_any 0 4 w6 (by decide) (by decide)).mono ?_
  rintro e w7 ⟨t, rfl, lt, ht, hb7⟩
  replace gT := gT.mono hb7
  replace gB := gB.mono hb7
  replace hB := below2 hB hb7
  replace ow := ow.mono hb7
  replace hl := fun r hr => (⟨(hl r hr).1.mono hb7, (hl r hr).2.1.mono hb7, (hl r hr).2.2.mono hb7⟩ : LinT w7 r.a ∧ LinT w7 r.b ∧ LinT w7 r.c)
  replace hu := hu.mono hb7
  replace hv := hv.mono hb7
  clear hb7
  refine hK.out _ _ (gB.cell (j := 3) rfl) (fun hH3 => ?_)
  clear hK K
  try simp only [Act.put, List.setIfInBounds_toArray, List.set_cons_zero, List.set_cons_succ]
  refine Rel.heldTake (v := ?_) 8 rfl (by kernel_rfl) (by kernel_rfl) (by kernel_rfl) (fun _ _ _ h => h) (by assumption) (by rfl) ?_ ?_
  rotate_left
  · (intro W hSw; (try dsimp only at hSw); go_simp; try with_reducible rfl)
  try simp only [Act.put, List.setIfInBounds_toArray, List.set_cons_zero, List.set_cons_succ]
  refine Rel.heldNext 9 rfl (by kernel_rfl) fun K hK => ?_
  go_simp
  have bA := (Below.refl w7.heap.size w7).alloc (Nat.le_refl _) (.cells #[.slice (some ⟨u, 0, none⟩) 1 1, .slice (some ⟨v, 0, none⟩) 1 1, .slice (some ⟨t, 0, none⟩) 1 1] 106)
  replace gT := gT.mono bA
  replace gB := gB.mono bA
  replace hB := below2 hB bA
  replace ow := ow.mono bA
  replace hl := fun r hr => (⟨(hl r hr).1.mono bA, (hl r hr).2.1.mono bA, (hl r hr).2.2.mono bA⟩ : LinT _ r.a ∧ LinT _ r.b ∧ LinT _ r.c)
  replace hu := hu.mono bA
  replace hv := hv.mono bA
  replace ht := ht.mono bA
  refine hK.out _ _ (gB.cell (j := 3) rfl) (fun hH4 => ?_)
  clear hK K
  try simp only [Act.put, List.setIfInBounds_toArray, List.set_cons_zero, List.set_cons_succ]
  refine Rel.heldNext 10 rfl (by kernel_rfl) fun K hK => ?_
  refine step_appX rwL [sq1 (some ⟨x, 0, none⟩) (some ⟨y, 0, none⟩) (some ⟨z, 0, none⟩)] [sq2 (some ⟨u, 0, none⟩) (some ⟨v, 0, none⟩) (some ⟨t, 0, none⟩)] rfl _ _ 32 rfl w.heap.size 106 (.agg #[.slice none 0 0, .slice none 0 0, .slice none 0 0]) 72 Try.underlying32 Try.infoRw rfl (by decide) _ 1 1 (some ⟨w7.heap.size, 0, none⟩) rfl rfl rfl ow (SlG.one (Blk.new _ _ _) rfl) (by simp) hB.size ?_
  intro v' wD own' hg'
  obtain ⟨a', c', ve', _⟩ := own'.sl
  simp only [List.length_append, List.length_cons, List.length_nil, Nat.zero_add] at ve'
  subst ve'
  have k : KX (fun T => T = 106) w.heap.size _ wD := KX.grew ow hg' rfl hB.size
  replace gT := k.typ _ _ _ gT (by decide)
  replace gB := k.typ _ _ _ gB (by decide)
  replace hB := hB.trans k.below
  replace hl : ∀ r ∈ [sq1 (some ⟨x, 0, none⟩) (some ⟨y, 0, none⟩) (some ⟨z, 0, none⟩)] ++ [sq2 (some ⟨u, 0, none⟩) (some ⟨v, 0, none⟩) (some ⟨t, 0, none⟩)], LinT wD r.a ∧ LinT wD r.b ∧ LinT wD r.c := fun r hr => by
    rcases List.mem_append.1 hr with hr | hr
    · exact ⟨k.lin (by decide) (hl r hr).1, k.lin (by decide) (hl r hr).2.1, k.lin (by decide) (hl r hr).2.2⟩
    · rw [List.mem_singleton] at hr
      subst hr
      exact ⟨k.lin (by decide) hu, k.lin (by decide) hv, k.lin (by decide) ht⟩
  clear hu hv ht k hg' ow bA
  have f3 := gB.free 3
  refine hK.out _ _ (gB.cell (j := 3) rfl) (fun hH5 => ?_)
  clear hK K
  try simp only [Act.put, List.setIfInBounds_toArray, List.set_cons_zero, List.set_cons_succ]
  refine Rel.heldTake (v := ?_) 11 rfl (by kernel_rfl) (by kernel_rfl) (by kernel_rfl) (fun _ _ _ h => h) (by assumption) (by rfl) ?_ ?_
  rotate_left
  · (intro W hSw; (try dsimp only at hSw); go_simp; try with_reducible rfl)
  try simp only [Act.put, List.setIfInBounds_toArray, List.set_cons_zero, List.set_cons_succ]
  refine Rel.heldLast 12 rfl (by kernel_rfl) rfl (by kernel_rfl) fun K hK => ?_
  go_simp
  refine hK.out _ _ ?_
  clear hK K hH0 hH1 hH2 hH3 hH4 hH5
  have kS : KX XTb w.heap.size wD (wD.setCell ⟨w3.heap.size + 1, 3, none⟩ (.slice a' 2 c')) := KX.set (X := XTb) (j := 3) (u := .slice a' 2 c') gB rfl (by omega)
  replace gT := gT.other (b := w.heap.size) (c := w3.heap.size + 1) (by omega) 3 (.slice a' 2 c')
  replace gB := gB.set 3 (.slice a' 2 c')
  replace hB := hB.trans kS.below
  replace own' := kS.own xtR own'
  replace hl := fun r hr => (⟨kS.lin xtT (hl r hr).1, kS.lin xtT (hl r hr).2.1, kS.lin xtT (hl r hr).2.2⟩ : LinT _ r.a ∧ LinT _ r.b ∧ LinT _ r.c)
  have b0 := gB.cell (j := 0) (v := .int .u64 17) rfl; have b1 := gB.cell (j := 1) (v := .int .i64 0) rfl; have b2 := gB.cell (j := 2) (v := .int .i64 3) rfl; have b3 := gB.cell (j := 3) (v := .slice a' 2 c') rfl
  have k0 := gT.cell (j := 0) (v := .int .u64 0) rfl; have k1 := gT.cell (j := 1) (v := .int .i64 0) rfl; have k2 := gT.cell (j := 2) (v := .int .i64 0) rfl; have k3 := gT.cell (j := 3) (v := .slice none 0 0) rfl
  have f := gT.free
  obtain ⟨W7, hW7⟩ : ∃ W7, W7 = _ := ⟨_, rfl⟩
  have hF := sq_set gT hB own' hl W7 hW7
  clear hl gB kS f3
  go_wp2
  rw [← hW7]
  obtain ⟨g8, hB8, ow8, hl8⟩ := hF
  clear k0 k1 k2 k3 b0 b1 b2 b3 f hW7 gT hB own'
  have y0 := g8.cell (j := 0) (v := .int .u64 17) rfl
  have y1 := g8.cell (j := 1) (v := .int .i64 0) rfl
  have y2 := g8.cell (j := 2) (v := .int .i64 3) rfl
  have y3 := g8.cell (j := 3) (v := .slice a' 2 c') rfl
  exact bodyPost_ret (v := .agg #[.int .u64 17, .int .i64 0, .int .i64 3, .slice a' 2 c']) (by simp [results, Try.results101, go_sem, y0, y1, y2, y3]) rfl (sq_fin hB8 ow8 hl8 ⟨_, _, _, _, _, _, rfl⟩)
theorem sq_cnt0 (x y z : Option Addr) : cntN 17 0 3 [sq1 x y z] [] 1000 = 17 ∧ cntE 17 0 3 [sq1 x y z] [] 1000 = 0 := ⟨by kernel_rfl, by kernel_rfl⟩
theorem sq_cnt4 (x y z : Option Addr) : cntN 17 0 3 [sq1 x y z] [4] 1000 = 1 ∧ cntE 17 0 3 [sq1 x y z] [4] 1000 = 0 := ⟨by kernel_rfl, by kernel_rfl⟩
theorem sq_inp (x y z u v t : Option Addr) : insN 17 0 3 [sq1 x y z, sq2 u v t] 1 = [[2], [15]] ∧ insE 17 0 3 [sq1 x y z, sq2 u v t] 1 = 0 := ⟨by kernel_rfl, by kernel_rfl⟩
set_option maxRecDepth 10000 in
set_option maxHeartbeats 16000000 in
theorem awake23 (w : World) : Calls Try.prog 57 #[] w fun e w' => e = .returned (.bool true) ∧ Below w.heap.size w w' := by
  go_enter Try.func57, Try.ntmps57
  go_wp2_with fail
  refine (squareF_any w).mono ?_
  rintro e w1 ⟨ra, rc, Rs, rfl, hR, ⟨x, y, z, rfl⟩, hb1⟩
  go_wp2_with fail
  have c1 := Count_any 17 0 3 ra [sq1 x y z] rc none 0 [] 1000 w1 hR (fun h => absurd h (by simp)) (fun u hu => by cases hu) (by simp) ⟨by omega, by omega⟩
  rw [(sq_cnt0 x y z).1, (sq_cnt0 x y z).2] at c1
  refine c1.mono ?_
  rintro e w2 ⟨rfl, hb2⟩
  have hB := below2 hb1 hb2
  clear hR hb1 hb2 c1
  go_wp2_with fail
  refine (squareF_any w2).mono ?_
  rintro e w3 ⟨ra, rc, Rs, rfl, hR, ⟨x, y, z, rfl⟩, hb3⟩
  replace hB := below2 hB hb3
  go_wp2_with fail
  refine name_calls fun W hN => ?_
  have hb4 : Below w3.heap.size w3 W := by rw [hN]; exact (Below.refl _ _).alloc (Nat.le_refl _) _
  have g4 : Blk W w3.heap.size #[.int .u64 4] 22 := by rw [hN]; exact Blk.newAt rfl
  clear hN
  have c1 := Count_any 17 0 3 ra [sq1 x y z] rc (some ⟨w3.heap.size, 0, none⟩) 1 [4] 1000 W (hR.mono hb4) (UsB.sl (s := ⟨w3.heap.size, [4]⟩) g4) (fun u hu => by rw [List.mem_singleton] at hu; subst hu; omega) (by simp) ⟨by omega, by omega⟩
  rw [(sq_cnt4 x y z).1, (sq_cnt4 x y z).2] at c1
  refine c1.mono ?_
  rintro e w5 ⟨rfl, hb5⟩
  replace hB := below2 (below2 hB hb4) hb5
  clear hR hb3 hb4 hb5 g4 c1
  go_wp2_with fail
  refine (squareT_any w5).mono ?_
  rintro e w6 ⟨ra, rc, Rs, rfl, hR, ⟨x, y, z, u, v, t, rfl⟩, hb6⟩
  go_wp2_with fail
  have c1 := Inputs23_any 17 0 3 ra [sq1 x y z, sq2 u v t] rc 1 w6 hR ⟨by omega, by omega⟩
  rw [(sq_inp x y z u v t).1, (sq_inp x y z u v t).2] at c1
  refine c1.mono ?_
  rintro e w7 ⟨va, rfl, hL, hb7⟩
  replace hB := below2 (below2 hB hb6) hb7
  clear hR hb6 hb7 c1
  go_wp2_with fail
  refine name_calls fun W hN => ?_
  have hb8 : Below w7.heap.size w7 W := by rw [hN]; exact (((Below.refl _ _).alloc (Nat.le_refl _) _).alloc (by simp) _).alloc (by simp; omega) _
  have g8 : Blk W w7.heap.size #[.int .u64 2] 22 := by rw [hN]; exact ((Blk.newAt rfl).alloc _).alloc _
  have g9 : Blk W (w7.heap.size + 1) #[.int .u64 15] 22 := by rw [hN]; exact (Blk.newAt (by simp)).alloc _
  have gA : Blk W (w7.heap.size + 2) #[.slice (some ⟨w7.heap.size, 0, none⟩) 1 1, .slice (some ⟨w7.heap.size + 1, 0, none⟩) 1 1] 54 := by rw [hN]; exact Blk.newAt (by simp)
  clear hN
  have hL2 : LL W w7.heap.size (.slice (some ⟨w7.heap.size + 2, 0, none⟩) 2 2) [[2], [15]] := ⟨[⟨w7.heap.size, [2]⟩, ⟨w7.heap.size + 1, [15]⟩], OwnG.of_blk (L := usL) (xs := [⟨w7.heap.size, [2]⟩, ⟨w7.heap.size + 1, [15]⟩]) (cap := 2) (by omega) gA (Nat.le_refl _) (by simp [maxLen]) rfl rfl, fun s hs => by
    simp only [List.mem_cons, List.not_mem_nil, or_false] at hs
    rcases hs with rfl | rfl
    · exact g8
    · exact g9, rfl⟩
  refine (rSame23_any W (hL.mono hb8) hL2 (by simp) (fun x hx => by
    simp only [List.mem_cons, List.not_mem_nil, or_false] at hx
    rcases hx with rfl | rfl <;> simp)).mono ?_
  rintro e w9 ⟨rfl, hb9⟩
  replace hB := below2 (below2 hB hb8) hb9
  clear hL hL2 hb8 hb9 g8 g9 gA
  go_wp2
  go_ret
  exact ⟨rfl, hB⟩
end Go.Proofs.Ytlgjnidphldiiaa
