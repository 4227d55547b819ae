/- Exhaustive search: lists of short lists of words; the comparison of two. -/
import Derived.Test.YtlgjnidphldiiaaExS
namespace Go.Proofs.Ytlgjnidphldiiaa
open Go.ChangeShapes Go.WideShapes Go.ChangeAt Go.RowKit

/-- A short list of words, in a block of its own. -/
structure Us where
  b : Nat
  l : List Int
instance : Inhabited Us := ⟨⟨0, []⟩⟩
def usV (s : Us) : Value := .slice (some ⟨s.b, 0, none⟩) s.l.length s.l.length
def usL : Lay Us := ⟨fun s => [usV s], 1, fun _ => rfl, by decide, fun x u hu => by rw [List.mem_singleton] at hu; subst hu; rfl⟩
theorem Try.infoUs : (Try.prog.info? 54).map (fun i => (i.zero, i.size, i.bytes)) = some (some (.slice none 0 0), 1, 24) := by kernel_rfl
def UsB (w : World) (s : Us) : Prop := Blk w s.b (s.l.map (Value.int .u64)).toArray 22
theorem UsB.mono {w w' : World} {s : Us} (h : UsB w s) (hb : Below w.heap.size w w') : UsB w' s := Blk.mono h hb
theorem UsB.cell {w : World} {s : Us} (h : UsB w s) {j : Nat} (hj : j < s.l.length) : w.cell? ⟨s.b, j, none⟩ = some (.int .u64 (s.l.getD j 0)) := Blk.cell h (by simp [hj])
theorem UsB.sl {w : World} {s : Us} (h : UsB w s) : Sl w .u64 (some ⟨s.b, 0, none⟩) s.l := fun _ => ⟨s.b, 0, rfl, Blk.lt h, fun i hi => by rw [Nat.zero_add]; exact h.cell hi⟩
/-- A list of lists. -/
def LL (w : World) (base : Nat) (v : Value) (X : List (List Int)) : Prop := ∃ Xs, OwnG usL w base 54 v Xs ∧ (∀ s ∈ Xs, UsB w s) ∧ Xs.map Us.l = X
theorem LL.mono {w w' : World} {base : Nat} {v : Value} {X : List (List Int)} (h : LL w base v X) (hb : Below w.heap.size w w') : LL w' base v X := by
  obtain ⟨Xs, h1, h2, h3⟩ := h
  exact ⟨Xs, h1.mono hb, fun s hs => (h2 s hs).mono hb, h3⟩
theorem LL.nil (w : World) (base : Nat) : LL w base (.slice none 0 0) [] := ⟨[], OwnG.nil _ _ _ _, (fun s hs => by cases hs), rfl⟩
theorem LL.low {w : World} {base b : Nat} {v : Value} {X : List (List Int)} (h : LL w base v X) (hb : b ≤ base) : LL w b v X := by
  obtain ⟨Xs, h1, h2, h3⟩ := h
  exact ⟨Xs, h1.low hb, h2, h3⟩
theorem LL.sl {w : World} {base : Nat} {v : Value} {X : List (List Int)} (h : LL w base v X) : ∃ ad c, v = .slice ad X.length c ∧ ∃ Xs : List Us, (∀ s ∈ Xs, UsB w s) ∧ Xs.map Us.l = X ∧ ∀ i, i < X.length → ∃ b, ad = some ⟨b, 0, none⟩ ∧ w.cell? ⟨b, i, none⟩ = some (usV (Xs.getD i default)) := by
  obtain ⟨Xs, h1, h2, h3⟩ := h
  have hl : Xs.length = X.length := by rw [← h3, List.length_map]
  rcases h1.form with ⟨rfl, rfl⟩ | ⟨g, cap, cur, rfl, g1, g2, g3, g4, g5, g6⟩
  · subst h3
    exact ⟨none, 0, rfl, [], h2, rfl, fun i hi => by simp at hi⟩
  · refine ⟨_, cap, by rw [hl], Xs, h2, h3, fun i hi => ⟨g, rfl, g2.cell ?_⟩⟩
    have e : (Xs.flatMap usL.f)[i]? = some (usV (Xs.getD i default)) := by
      have := usL.flat_get Xs default (i := i) (j := 0) (by omega) (by decide)
      rw [show i * usL.m + 0 = i from by show i * 1 + 0 = i; omega] at this
      rw [this]
      rfl
    rw [← g6, List.getElem?_take] at e
    split at e
    · simpa using e
    · cases e

/-- Same of two lists of lists. -/
theorem rSame23_any {base1 base2 : Nat} {v1 v2 : Value} {X : List (List Int)} (w : World) (h1 : LL w base1 v1 X) (h2 : LL w base2 v2 X) (hl : X.length ≤ 100000) (hl2 : ∀ x ∈ X, x.length ≤ 100) : Calls Try.prog 65 #[v1, v2] w fun e w' => e = .returned (.bool true) ∧ Below w.heap.size w w' := by
  obtain ⟨a1, c1, rfl, X1, u1, m1, k1⟩ := h1.sl
  obtain ⟨a2, c2, rfl, X2, u2, m2, k2⟩ := h2.sl
  clear h1 h2
  have hn1 : X1.length = X.length := by rw [← m1, List.length_map]
  have hn2 : X2.length = X.length := by rw [← m2, List.length_map]
  have e1 : ∀ i, i < X.length → (X1.getD i default).l = X.getD i [] := fun i hi => by
    rw [← m1, List.getD_eq_getElem?_getD, List.getD_eq_getElem?_getD, List.getElem?_map, List.getElem?_eq_getElem (by omega)]; rfl
  have e2 : ∀ i, i < X.length → (X2.getD i default).l = X.getD i [] := fun i hi => by
    rw [← m2, List.getD_eq_getElem?_getD, List.getD_eq_getElem?_getD, List.getElem?_map, List.getElem?_eq_getElem (by omega)]; rfl
  obtain ⟨n, hn⟩ : ∃ n, X.length = n := ⟨_, rfl⟩
  rw [hn] at hl k1 k2 e1 e2
  have hnI : (n : Int) ≤ 100000 := by omega
  have ent : ∀ i, i < n → ∃ (b1 b2 d1 d2 : Nat) (l : List Int), a1 = some ⟨b1, 0, none⟩ ∧ a2 = some ⟨b2, 0, none⟩ ∧ w.cell? ⟨b1, i, none⟩ = some (.slice (some ⟨d1, 0, none⟩) l.length l.length) ∧ w.cell? ⟨b2, i, none⟩ = some (.slice (some ⟨d2, 0, none⟩) l.length l.length) ∧ l.length ≤ 100 ∧
      ∀ j, j < l.length → w.cell? ⟨d1, j, none⟩ = some (.int .u64 (l.getD j 0)) ∧ w.cell? ⟨d2, j, none⟩ = some (.int .u64 (l.getD j 0)) := fun i hi => by
    obtain ⟨b1, hb1, q1⟩ := k1 i hi
    obtain ⟨b2, hb2, q2⟩ := k2 i hi
    have r1 := u1 _ (getD_mem' (show i < X1.length by omega) default)
    have r2 := u2 _ (getD_mem' (show i < X2.length by omega) default)
    have z1 := e1 i hi
    have z2 := e2 i hi
    unfold usV at q1 q2
    refine ⟨b1, b2, _, _, X.getD i [], hb1, hb2, by rw [q1, z1], by rw [q2, z2], hl2 _ (getD_mem' (by omega) _), fun j hj => ?_⟩
    have s1 := r1.cell (j := j) (by rw [z1]; exact hj)
    have s2 := r2.cell (j := j) (by rw [z2]; exact hj)
    rw [z1] at s1
    rw [z2] at s2
    exact ⟨s1, s2⟩
  rw [hn]
  clear k1 k2 e1 e2 u1 u2 m1 m2 hn1 hn2 hn hl2
  replace ent := hide ent
  go_enter Try.func65, Try.ntmps65
  go_wp2_with fail
  go_loopw [5] (fun t5 wr => ∃ i : Nat, i ≤ n ∧ t5 = .int .i64 i ∧ Below w.heap.size w wr) (fun t5 _ => n - (intOf t5).toNat)
  case atStart => exact ⟨0, Nat.zero_le _, rfl, Below.refl _ _⟩
  case round =>
    obtain ⟨i, hi, rfl, hB⟩ := hrel
    by_cases hlt : i < n
    · have hltI : (i : Int) < n := by omega
      obtain ⟨b1, b2, d1, d2, l, rfl, rfl, q1, q2, hl100, hl⟩ := ent.out i hlt
      obtain ⟨m, hm⟩ : ∃ m, l.length = m := ⟨_, rfl⟩
      rw [hm] at q1 q2 hl100 hl
      have hmI : (m : Int) ≤ 100 := by omega
      replace hl := hide hl
      have p1 := cell_later' (cell_below hB q1)
      have p2 := cell_later' (cell_below hB q2)
      replace q1 := hide q1
      replace q2 := hide q2
      go_wp2_with fail
      refine wp_region_later Try.mixed (by kernel_rfl) ?_
      repeat (first | go_big_quiet_step (first | fail) | quiet_step (first | fail))
      refine wpQuiet_nil ?_
      intro w3 hb3
      replace hb3 := below_of_later hb3
      replace hB := below2 hB hb3
      clear hb3 p1 p2
      go_wp2_with fail
      go_loopw [6] (fun t6 wy => ∃ j : Nat, j ≤ m ∧ t6 = .int .i64 j ∧ Below w.heap.size w wy) (fun t6 _ => m - (intOf t6).toNat)
      case atStart => exact ⟨0, Nat.zero_le _, rfl, hB⟩
      case round =>
        clear hB
        obtain ⟨j, hj, rfl, hB⟩ := hrel
        have p1 := cell_below hB q1.out
        by_cases hltj : j < m
        · have hltjI : (j : Int) < m := by omega
          obtain ⟨s1, s2⟩ := hl.out j hltj
          generalize l.getD j 0 = x at *
          have p1L := cell_later' p1
          have p2L := cell_later' (cell_below hB q2.out)
          replace s1 := cell_later' (cell_below hB s1)
          replace s2 := cell_later' (cell_below hB s2)
          go_wp2_with fail
          refine wp_region_later Try.mixed (by kernel_rfl) ?_
          repeat (first | go_big_quiet_step (first | fail) | quiet_step (first | fail))
          refine wpQuiet_nil ?_
          intro w5 hb5
          replace hb5 := below_of_later hb5
          replace hB := below2 hB hb5
          clear p1 p1L p2L s1 s2 hb5
          go_wp2
          go_roundw
          case rel => exact ⟨j + 1, by omega, by go_num, hB⟩
          case measure => simp [intOf]; omega
        · obtain rfl : j = m := by omega
          go_wp2
          go_roundw
          case rel => exact ⟨i + 1, by omega, by go_num, hB⟩
          case measure => simp [intOf]; omega
    · obtain rfl : i = n := by omega
      go_wp2
      go_ret
      exact ⟨rfl, hB⟩
end Go.Proofs.Ytlgjnidphldiiaa
