/- Exhaustive search: the laws' own functions: square, awake. -/
import Derived.Test.YtlgjnidphldiiaaExV
namespace Go.Proofs.Ytlgjnidphldiiaa
open Go.ChangeShapes Go.WideShapes Go.ChangeAt Go.RowKit

def RetL1 (w : World) (v c : Int) (e : Ending) (w' : World) : Prop := ∃ b, e = .returned (.slice (some ⟨b, 0, none⟩) 1 1) ∧ w.heap.size ≤ b ∧ LinT w' ⟨some ⟨b, 0, none⟩, 1, [(v, c)]⟩ ∧ Below w.heap.size w w'
set_option maxHeartbeats 1600000 in
theorem one23_any (v c : Int) (w : World) (hv : (Lit.int .i64 v).wf = true) (hc : (Lit.int .u64 c).wf = true) : Calls Try.prog 124 #[.int .i64 v, .int .u64 c] w (RetL1 w v c) := by
  have hr : ∀ w', Blk w' w.heap.size #[.int .i64 v, .int .u64 c] 100 → Below w.heap.size w w' → RetL1 w v c (.returned (.slice (some ⟨w.heap.size, 0, none⟩) 1 1)) w' := fun w' g hb => ⟨_, rfl, Nat.le_refl _, LinT.one g hv hc, hb⟩
  clear hv hc
  go_enter Try.func124, Try.ntmps124
  go_wp2
  go_ret
  exact hr _ (Blk.newAt rfl) ((Below.refl _ _).alloc (Nat.le_refl _) _)

/-- The rows of the example. -/
def sq1 (x y z : Option Addr) : Rw := ⟨⟨x, 1, [(1, 1)]⟩, ⟨y, 1, [(1, 1)]⟩, ⟨z, 1, [(2, 1)]⟩⟩
def sq2 (x y z : Option Addr) : Rw := ⟨⟨x, 1, [(2, 1)]⟩, ⟨y, 1, [(0, 1)]⟩, ⟨z, 1, [(0, 4)]⟩⟩
def RetSq (w : World) (R : List Rw → Prop) (e : Ending) (w' : World) : Prop := ∃ ra rc Rs, e = .returned (.agg #[.int .u64 17, .int .i64 0, .int .i64 3, .slice ra Rs.length rc]) ∧ RowsP w' ra rc Rs ∧ R Rs ∧ Below w.heap.size w w'
def XTb (T : TypeId) : Prop := T = 34
theorem xtR : ¬ XTb 106 := by unfold XTb; decide
theorem xtT : ¬ XTb 100 := by unfold XTb; decide
/-- The store of a table into the block of the result. -/
theorem sq_set {w W : World} {v a b c d : Value} {Rs : List Rw} (g : Blk W w.heap.size #[a, b, c, d] 34) (hB : Below w.heap.size w W) (ow : OwnG rwL W w.heap.size 106 v Rs) (hl : ∀ r ∈ Rs, LinT W r.a ∧ LinT W r.b ∧ LinT W r.c) :
    ∀ W', W' = (((W.setCell ⟨w.heap.size, 0, none⟩ (.int .u64 17)).setCell ⟨w.heap.size, 1, none⟩ (.int .i64 0)).setCell ⟨w.heap.size, 2, none⟩ (.int .i64 3)).setCell ⟨w.heap.size, 3, none⟩ v → Blk W' w.heap.size #[.int .u64 17, .int .i64 0, .int .i64 3, v] 34 ∧ Below w.heap.size w W' ∧ OwnG rwL W' w.heap.size 106 v Rs ∧ (∀ r ∈ Rs, LinT W' r.a ∧ LinT W' r.b ∧ LinT W' r.c) := by
  rintro W' rfl
  have g1 := g.set 0 (.int .u64 17)
  have g2 := g1.set 1 (.int .i64 0)
  have g3 := g2.set 2 (.int .i64 3)
  have k : KX XTb w.heap.size W _ := (((KX.set (X := XTb) (j := 0) (u := .int .u64 17) g rfl (Nat.le_refl _)).trans (KX.set (X := XTb) (j := 1) (u := .int .i64 0) g1 rfl (Nat.le_refl _))).trans (KX.set (X := XTb) (j := 2) (u := .int .i64 3) g2 rfl (Nat.le_refl _))).trans (KX.set (X := XTb) (j := 3) (u := v) g3 rfl (Nat.le_refl _))
  exact ⟨g3.set 3 v, hB.trans k.below, k.own xtR ow, fun r hr => ⟨k.lin xtT (hl r hr).1, k.lin xtT (hl r hr).2.1, k.lin xtT (hl r hr).2.2⟩⟩
theorem sq_fin {w W' : World} {v : Value} {Rs : List Rw} {P : List Rw → Prop} (hB : Below w.heap.size w W') (ow : OwnG rwL W' w.heap.size 106 v Rs) (hl : ∀ r ∈ Rs, LinT W' r.a ∧ LinT W' r.b ∧ LinT W' r.c) (hP : P Rs) : RetSq w P (.returned (.agg #[.int .u64 17, .int .i64 0, .int .i64 3, v])) W' := by
  obtain ⟨ad, c, rfl, sl, h1, h2, h3⟩ := ow.sl
  exact ⟨ad, c, Rs, rfl, RowsP.of_slg sl (fun r hr => ⟨(hl r hr).1.ok, (hl r hr).2.1.ok, (hl r hr).2.2.ok⟩) h1 h2 h3, hP, hB⟩
set_option maxRecDepth 10000 in
set_option maxHeartbeats 16000000 in
theorem squareF_any (w : World) : Calls Try.prog 101 #[.bool false] w (RetSq w fun R => ∃ x y z, R = [sq1 x y z]) := by
  go_enter Try.func101, Try.ntmps101
  go_wp2_with fail
  refine name_calls fun W hN => ?_
  have gT : Blk W w.heap.size #[.int .u64 0, .int .i64 0, .int .i64 0, .slice none 0 0] 34 := by rw [hN]; exact Blk.newAt rfl
  have hB : Below w.heap.size w W := by rw [hN]; exact (Below.refl _ _).alloc (Nat.le_refl _) _
  clear hN
  refine (one23_any 1 1 W (by decide) (by decide)).mono ?_
  rintro e w1 ⟨x, rfl, lx, hx, hb1⟩
  replace gT := gT.mono hb1
  replace hB := below2 hB hb1
  clear hb1
  go_wp2_with fail
  refine (one23_any 1 1 w1 (by decide) (by decide)).mono ?_
  rintro e w2 ⟨y, rfl, ly, hy, hb2⟩
  replace gT := gT.mono hb2
  replace hB := below2 hB hb2
  replace hx := hx.mono hb2
  clear hb2
  go_wp2_with fail
  refine (one23_any 2 1 w2 (by decide) (by decide)).mono ?_
  rintro e w3 ⟨z, rfl, lz, hz, hb3⟩
  replace gT := gT.mono hb3
  replace hB := below2 hB hb3
  replace hx := hx.mono hb3
  replace hy := hy.mono hb3
  clear hb3
  have hbA : Below w3.heap.size w3 ((w3.alloc (.cells #[.slice (some ⟨x, 0, none⟩) 1 1, .slice (some ⟨y, 0, none⟩) 1 1, .slice (some ⟨z, 0, none⟩) 1 1] 106)).alloc (.cells #[.int .u64 17, .int .i64 0, .int .i64 3, .slice (some ⟨w3.heap.size, 0, none⟩) 1 1] 34)) := ((Below.refl _ _).alloc (Nat.le_refl _) _).alloc (by simp) _
  have gR := (Blk.new w3 #[.slice (some ⟨x, 0, none⟩) 1 1, .slice (some ⟨y, 0, none⟩) 1 1, .slice (some ⟨z, 0, none⟩) 1 1] 106).alloc (.cells #[.int .u64 17, .int .i64 0, .int .i64 3, .slice (some ⟨w3.heap.size, 0, none⟩) 1 1] 34)
  have ow : OwnG rwL _ w.heap.size 106 (.slice (some ⟨w3.heap.size, 0, none⟩) 1 1) [sq1 (some ⟨x, 0, none⟩) (some ⟨y, 0, none⟩) (some ⟨z, 0, none⟩)] := OwnG.of_blk (L := rwL) (xs := [sq1 (some ⟨x, 0, none⟩) (some ⟨y, 0, none⟩) (some ⟨z, 0, none⟩)]) (cap := 1) hB.size gR (Nat.le_refl _) (by simp [maxLen]) rfl rfl
  have hl : ∀ r ∈ [sq1 (some ⟨x, 0, none⟩) (some ⟨y, 0, none⟩) (some ⟨z, 0, none⟩)], LinT _ r.a ∧ LinT _ r.b ∧ LinT _ r.c := fun r hr => by
    rw [List.mem_singleton] at hr
    subst hr
    exact ⟨hx.mono hbA, hy.mono hbA, hz.mono hbA⟩
  have gA := gT.mono hbA
  have hBA := below2 hB hbA
  have k0 := gA.cell (j := 0) (v := .int .u64 0) rfl; have k1 := gA.cell (j := 1) (v := .int .i64 0) rfl; have k2 := gA.cell (j := 2) (v := .int .i64 0) rfl; have k3 := gA.cell (j := 3) (v := .slice none 0 0) rfl
  have f := gA.free
  obtain ⟨W7, hW7⟩ : ∃ W7, W7 = _ := ⟨_, rfl⟩
  have hF := sq_set gA hBA ow hl W7 hW7
  clear hx hy hz gT gR hl
  go_wp2
  rw [← hW7]
  obtain ⟨g8, hB8, ow8, hl8⟩ := hF
  clear k0 k1 k2 k3 f hW7 gA hBA hbA ow
  have y0 := g8.cell (j := 0) (v := .int .u64 17) rfl
  have y1 := g8.cell (j := 1) (v := .int .i64 0) rfl
  have y2 := g8.cell (j := 2) (v := .int .i64 3) rfl
  have y3 := g8.cell (j := 3) (v := .slice (some ⟨w3.heap.size, 0, none⟩) 1 1) rfl
  exact bodyPost_ret (v := .agg #[.int .u64 17, .int .i64 0, .int .i64 3, .slice (some ⟨w3.heap.size, 0, none⟩) 1 1]) (by simp [results, Try.results101, go_sem, y0, y1, y2, y3]) rfl (sq_fin hB8 ow8 hl8 ⟨_, _, _, rfl⟩)
set_option maxRecDepth 10000 in
set_option maxHeartbeats 16000000 in
theorem squareT_any (w : World) : Calls Try.prog 101 #[.bool true] w (RetSq w fun R => ∃ x y z u v t, R = [sq1 x y z, sq2 u v t]) := by
  go_enter Try.func101, Try.ntmps101
  go_wp2_with fail
  refine name_calls fun W hN => ?_
  have gT : Blk W w.heap.size #[.int .u64 0, .int .i64 0, .int .i64 0, .slice none 0 0] 34 := by rw [hN]; exact Blk.newAt rfl
  have hB : Below w.heap.size w W := by rw [hN]; exact (Below.refl _ _).alloc (Nat.le_refl _) _
  clear hN
  refine (one23_any 1 1 W (by decide) (by decide)).mono ?_
  rintro e w1 ⟨x, rfl, lx, hx, hb1⟩
  replace gT := gT.mono hb1
  replace hB := below2 hB hb1
  clear hb1
  go_wp2_with fail
  refine (one23_any 1 1 w1 (by decide) (by decide)).mono ?_
  rintro e w2 ⟨y, rfl, ly, hy, hb2⟩
  replace gT := gT.mono hb2
  replace hB := below2 hB hb2
  replace hx := hx.mono hb2
  clear hb2
  go_wp2_with fail
  refine (one23_any 2 1 w2 (by decide) (by decide)).mono ?_
  rintro e w3 ⟨z, rfl, lz, hz, hb3⟩
  replace gT := gT.mono hb3
  replace hB := below2 hB hb3
  replace hx := hx.mono hb3
  replace hy := hy.mono hb3
  clear hb3
  go_wp2_with fail
  refine Rel.region_any Try.mixed fun w4 hb4 => ?_
  have hbA : Below w3.heap.size w3 w4 := (((Below.refl _ _).alloc (Nat.le_refl _) _).alloc (by simp) _).trans (hb4.mono (by simp; omega))
  have gR := ((Blk.new w3 #[.slice (some ⟨x, 0, none⟩) 1 1, .slice (some ⟨y, 0, none⟩) 1 1, .slice (some ⟨z, 0, none⟩) 1 1] 106).alloc (.cells #[.int .u64 17, .int .i64 0, .int .i64 3, .slice (some ⟨w3.heap.size, 0, none⟩) 1 1] 34)).mono hb4
  have gB : Blk w4 (w3.heap.size + 1) #[.int .u64 17, .int .i64 0, .int .i64 3, .slice (some ⟨w3.heap.size, 0, none⟩) 1 1] 34 := Blk.mono (Blk.newAt (by simp)) hb4
  have ow : OwnG rwL w4 w.heap.size 106 (.slice (some ⟨w3.heap.size, 0, none⟩) 1 1) [sq1 (some ⟨x, 0, none⟩) (some ⟨y, 0, none⟩) (some ⟨z, 0, none⟩)] := OwnG.of_blk (L := rwL) (xs := [sq1 (some ⟨x, 0, none⟩) (some ⟨y, 0, none⟩) (some ⟨z, 0, none⟩)]) (cap := 1) hB.size gR (Nat.le_refl _) (by simp [maxLen]) rfl rfl
  have hl : ∀ r ∈ [sq1 (some ⟨x, 0, none⟩) (some ⟨y, 0, none⟩) (some ⟨z, 0, none⟩)], LinT w4 r.a ∧ LinT w4 r.b ∧ LinT w4 r.c := fun r hr => by
    rw [List.mem_singleton] at hr
    subst hr
    exact ⟨hx.mono hbA, hy.mono hbA, hz.mono hbA⟩
  replace gT := gT.mono hbA
  have hb3z := hB.size
  have hb3T := gT.lt
  replace hB := below2 hB hbA
  clear hx hy hz gR hb4 hbA
  refine Rel.any_held (fun W => W.cell? ⟨w3.heap.size + 1, 3, none⟩ = some (.slice (some ⟨w3.heap.size, 0, none⟩) 1 1)) 12 (gB.cell (j := 3) rfl) fun hH0 => ?_
  refine Rel.heldTake (v := ?_) 0 rfl (by kernel_rfl) (by kernel_rfl) (by kernel_rfl) (fun _ _ _ h => h) (by assumption) (by rfl) ?_ ?_
  rotate_left
  · (intro W hSw; (try dsimp only at hSw); go_simp; try with_reducible rfl)
  try simp only [Act.put, List.setIfInBounds_toArray, List.set_cons_zero, List.set_cons_succ]
  refine Rel.heldTake (v := ?_) 1 rfl (by kernel_rfl) (by kernel_rfl) (by kernel_rfl) (fun _ _ _ h => h) (by assumption) (by rfl) ?_ ?_
  rotate_left
  · (intro W hSw; (try dsimp only at hSw); go_simp; try with_reducible rfl)
  try simp only [Act.put, List.setIfInBounds_toArray, List.set_cons_zero, List.set_cons_succ]
  refine Rel.heldTake (v := ?_) 2 rfl (by kernel_rfl) (by kernel_rfl) (by kernel_rfl) (fun _ _ _ h => h) (by assumption) (by rfl) ?_ ?_
  rotate_left
  · (intro W hSw; (try dsimp only at hSw); go_simp; try with_reducible rfl)
  try simp only [Act.put, List.setIfInBounds_toArray, List.set_cons_zero, List.set_cons_succ]
  refine Rel.heldTake (v := ?_) 4 rfl (by kernel_rfl) (by kernel_rfl) (by kernel_rfl) (fun _ _ _ h => h) (by assumption) (by rfl) ?_ ?_
  rotate_left
  · (intro W hSw; (try dsimp only at hSw); go_simp; try with_reducible rfl)
  try simp only [Act.put, List.setIfInBounds_toArray, List.set_cons_zero, List.set_cons_succ]
  refine Rel.heldTake (v := ?_) 6 rfl (by kernel_rfl) (by kernel_rfl) (by kernel_rfl) (fun _ _ _ h => h) (by assumption) (by rfl) ?_ ?_
  rotate_left
  · (intro W hSw; (try dsimp only at hSw); go_simp; try with_reducible rfl)
  try simp only [Act.put, List.setIfInBounds_toArray, List.set_cons_zero, List.set_cons_succ]
  refine Rel.heldNext 3 rfl (by kernel_rfl) fun K hK => ?_
  go_simp
  refine (one23_any 2 1 w4 (by decide) (by decide)).mono ?_
  rintro e w5 ⟨u, rfl, lu, hu, hb5⟩
  replace gT := gT.mono hb5
  replace gB := gB.mono hb5
  replace hB := below2 hB hb5
  replace ow := ow.mono hb5
  replace hl := fun r hr => (⟨(hl r hr).1.mono hb5, (hl r hr).2.1.mono hb5, (hl r hr).2.2.mono hb5⟩ : LinT w5 r.a ∧ LinT w5 r.b ∧ LinT w5 r.c)
  clear hb5
  refine hK.out _ _ (gB.cell (j := 3) rfl) (fun hH1 => ?_)
  clear hK K
  try simp only [Act.put, List.setIfInBounds_toArray, List.set_cons_zero, List.set_cons_succ]
  refine Rel.heldNext 5 rfl (by kernel_rfl) fun K hK => ?_
  go_simp
  refine (one23_any 0 1 w5 (by decide) (by decide)).mono ?_
  rintro e w6 ⟨v, rfl, lv, hv, hb6⟩
  replace gT := gT.mono hb6
  replace gB := gB.mono hb6
  replace hB := below2 hB hb6
  replace ow := ow.mono hb6
  replace hl := fun r hr => (⟨(hl r hr).1.mono hb6, (hl r hr).2.1.mono hb6, (hl r hr).2.2.mono hb6⟩ : LinT w6 r.a ∧ LinT w6 r.b ∧ LinT w6 r.c)
  replace hu := hu.mono hb6
  clear hb6
  refine hK.out _ _ (gB.cell (j := 3) rfl) (fun hH2 => ?_)
  clear hK K
  try simp only [Act.put, List.setIfInBounds_toArray, List.set_cons_zero, List.set_cons_succ]
  refine Rel.heldNext 7 rfl (by kernel_rfl) fun K hK => ?_
  go_simp
  refine (one23_any 0 4 w6 (by decide) (by decide)).mono ?_
  rintro e w7 ⟨t, rfl, lt, ht, hb7⟩
  replace gT := gT.mono hb7
  replace gB := gB.mono hb7
  replace hB := below2 hB hb7
  replace ow := ow.mono hb7
  replace hl := fun r hr => (⟨(hl r hr).1.mono hb7, (hl r hr).2.1.mono hb7, (hl r hr).2.2.mono hb7⟩ : LinT w7 r.a ∧ LinT w7 r.b ∧ LinT w7 r.c)
  replace hu := hu.mono hb7
  replace hv := hv.mono hb7
  clear hb7
  refine hK.out _ _ (gB.cell (j := 3) rfl) (fun hH3 => ?_)
  clear hK K
  try simp only [Act.put, List.setIfInBounds_toArray, List.set_cons_zero, List.set_cons_succ]
  refine Rel.heldTake (v := ?_) 8 rfl (by kernel_rfl) (by kernel_rfl) (by kernel_rfl) (fun _ _ _ h => h) (by assumption) (by rfl) ?_ ?_
  rotate_left
  · (intro W hSw; (try dsimp only at hSw); go_simp; try with_reducible rfl)
  try simp only [Act.put, List.setIfInBounds_toArray, List.set_cons_zero, List.set_cons_succ]
  refine Rel.heldNext 9 rfl (by kernel_rfl) fun K hK => ?_
  go_simp
  have bA := (Below.refl w7.heap.size w7).alloc (Nat.le_refl _) (.cells #[.slice (some ⟨u, 0, none⟩) 1 1, .slice (some ⟨v, 0, none⟩) 1 1, .slice (some ⟨t, 0, none⟩) 1 1] 106)
  replace gT := gT.mono bA
  replace gB := gB.mono bA
  replace hB := below2 hB bA
  replace ow := ow.mono bA
  replace hl := fun r hr => (⟨(hl r hr).1.mono bA, (hl r hr).2.1.mono bA, (hl r hr).2.2.mono bA⟩ : LinT _ r.a ∧ LinT _ r.b ∧ LinT _ r.c)
  replace hu := hu.mono bA
  replace hv := hv.mono bA
  replace ht := ht.mono bA
  refine hK.out _ _ (gB.cell (j := 3) rfl) (fun hH4 => ?_)
  clear hK K
  try simp only [Act.put, List.setIfInBounds_toArray, List.set_cons_zero, List.set_cons_succ]
  refine Rel.heldNext 10 rfl (by kernel_rfl) fun K hK => ?_
  refine step_appX rwL [sq1 (some ⟨x, 0, none⟩) (some ⟨y, 0, none⟩) (some ⟨z, 0, none⟩)] [sq2 (some ⟨u, 0, none⟩) (some ⟨v, 0, none⟩) (some ⟨t, 0, none⟩)] rfl _ _ 32 rfl w.heap.size 106 (.agg #[.slice none 0 0, .slice none 0 0, .slice none 0 0]) 72 Try.underlying32 Try.infoRw rfl (by decide) _ 1 1 (some ⟨w7.heap.size, 0, none⟩) rfl rfl rfl ow (SlG.one (Blk.new _ _ _) rfl) (by simp) hB.size ?_
  intro v' wD own' hg'
  obtain ⟨a', c', ve', _⟩ := own'.sl
  simp only [List.length_append, List.length_cons, List.length_nil, Nat.zero_add] at ve'
  subst ve'
  have k : KX (fun T => T = 106) w.heap.size _ wD := KX.grew ow hg' rfl hB.size
  replace gT := k.typ _ _ _ gT (by decide)
  replace gB := k.typ _ _ _ gB (by decide)
  replace hB := hB.trans k.below
  replace hl : ∀ r ∈ [sq1 (some ⟨x, 0, none⟩) (some ⟨y, 0, none⟩) (some ⟨z, 0, none⟩)] ++ [sq2 (some ⟨u, 0, none⟩) (some ⟨v, 0, none⟩) (some ⟨t, 0, none⟩)], LinT wD r.a ∧ LinT wD r.b ∧ LinT wD r.c := fun r hr => by
    rcases List.mem_append.1 hr with hr | hr
    · exact ⟨k.lin (by decide) (hl r hr).1, k.lin (by decide) (hl r hr).2.1, k.lin (by decide) (hl r hr).2.2⟩
    · rw [List.mem_singleton] at hr
      subst hr
      exact ⟨k.lin (by decide) hu, k.lin (by decide) hv, k.lin (by decide) ht⟩
  clear hu hv ht k hg' ow bA
  have f3 := gB.free 3
  refine hK.out _ _ (gB.cell (j := 3) rfl) (fun hH5 => ?_)
  clear hK K
  try simp only [Act.put, List.setIfInBounds_toArray, List.set_cons_zero, List.set_cons_succ]
  refine Rel.heldTake (v := ?_) 11 rfl (by kernel_rfl) (by kernel_rfl) (by kernel_rfl) (fun _ _ _ h => h) (by assumption) (by rfl) ?_ ?_
  rotate_left
  · (intro W hSw; (try dsimp only at hSw); go_simp; try with_reducible rfl)
  try simp only [Act.put, List.setIfInBounds_toArray, List.set_cons_zero, List.set_cons_succ]
  refine Rel.heldLast 12 rfl (by kernel_rfl) rfl (by kernel_rfl) fun K hK => ?_
  go_simp
  refine hK.out _ _ ?_
  clear hK K hH0 hH1 hH2 hH3 hH4 hH5
  have kS : KX XTb w.heap.size wD (wD.setCell ⟨w3.heap.size + 1, 3, none⟩ (.slice a' 2 c')) := KX.set (X := XTb) (j := 3) (u := .slice a' 2 c') gB rfl (by omega)
  replace gT := gT.other (b := w.heap.size) (c := w3.heap.size + 1) (by omega) 3 (.slice a' 2 c')
  replace gB := gB.set 3 (.slice a' 2 c')
  replace hB := hB.trans kS.below
  replace own' := kS.own xtR own'
  replace hl := fun r hr => (⟨kS.lin xtT (hl r hr).1, kS.lin xtT (hl r hr).2.1, kS.lin xtT (hl r hr).2.2⟩ : LinT _ r.a ∧ LinT _ r.b ∧ LinT _ r.c)
  have b0 := gB.cell (j := 0) (v := .int .u64 17) rfl; have b1 := gB.cell (j := 1) (v := .int .i64 0) rfl; have b2 := gB.cell (j := 2) (v := .int .i64 3) rfl; have b3 := gB.cell (j := 3) (v := .slice a' 2 c') rfl
  have k0 := gT.cell (j := 0) (v := .int .u64 0) rfl; have k1 := gT.cell (j := 1) (v := .int .i64 0) rfl; have k2 := gT.cell (j := 2) (v := .int .i64 0) rfl; have k3 := gT.cell (j := 3) (v := .slice none 0 0) rfl
  have f := gT.free
  obtain ⟨W7, hW7⟩ : ∃ W7, W7 = _ := ⟨_, rfl⟩
  have hF := sq_set gT hB own' hl W7 hW7
  clear hl gB kS f3
  go_wp2
  rw [← hW7]
  obtain ⟨g8, hB8, ow8, hl8⟩ := hF
  clear k0 k1 k2 k3 b0 b1 b2 b3 f hW7 gT hB own'
  have y0 := g8.cell (j := 0) (v := .int .u64 17) rfl
  have y1 := g8.cell (j := 1) (v := .int .i64 0) rfl
  have y2 := g8.cell (j := 2) (v := .int .i64 3) rfl
  have y3 := g8.cell (j := 3) (v := .slice a' 2 c') rfl
  exact bodyPost_ret (v := .agg #[.int .u64 17, .int .i64 0, .int .i64 3, .slice a' 2 c']) (by simp [results, Try.results101, go_sem, y0, y1, y2, y3]) rfl (sq_fin hB8 ow8 hl8 ⟨_, _, _, _, _, _, rfl⟩)
theorem sq_cnt0 (x y z : Option Addr) : cntN 17 0 3 [sq1 x y z] [] 1000 = 17 ∧ cntE 17 0 3 [sq1 x y z] [] 1000 = 0 := ⟨by kernel_rfl, by kernel_rfl⟩
theorem sq_cnt4 (x y z : Option Addr) : cntN 17 0 3 [sq1 x y z] [4] 1000 = 1 ∧ cntE 17 0 3 [sq1 x y z] [4] 1000 = 0 := ⟨by kernel_rfl, by kernel_rfl⟩
theorem sq_inp (x y z u v t : Option Addr) : insN 17 0 3 [sq1 x y z, sq2 u v t] 1 = [[2], [15]] ∧ insE 17 0 3 [sq1 x y z, sq2 u v t] 1 = 0 := ⟨by kernel_rfl, by kernel_rfl⟩
set_option maxRecDepth 10000 in
set_option maxHeartbeats 16000000 in
theorem awake23 (w : World) : Calls Try.prog 57 #[] w fun e w' => e = .returned (.bool true) ∧ Below w.heap.size w w' := by
  go_enter Try.func57, Try.ntmps57
  go_wp2_with fail
  refine (squareF_any w).mono ?_
  rintro e w1 ⟨ra, rc, Rs, rfl, hR, ⟨x, y, z, rfl⟩, hb1⟩
  go_wp2_with fail
  have c1 := Count_any 17 0 3 ra [sq1 x y z] rc none 0 [] 1000 w1 hR (fun h => absurd h (by simp)) (fun u hu => by cases hu) (by simp) ⟨by omega, by omega⟩
  rw [(sq_cnt0 x y z).1, (sq_cnt0 x y z).2] at c1
  refine c1.mono ?_
  rintro e w2 ⟨rfl, hb2⟩
  have hB := below2 hb1 hb2
  clear hR hb1 hb2 c1
  go_wp2_with fail
  refine (squareF_any w2).mono ?_
  rintro e w3 ⟨ra, rc, Rs, rfl, hR, ⟨x, y, z, rfl⟩, hb3⟩
  replace hB := below2 hB hb3
  go_wp2_with fail
  refine name_calls fun W hN => ?_
  have hb4 : Below w3.heap.size w3 W := by rw [hN]; exact (Below.refl _ _).alloc (Nat.le_refl _) _
  have g4 : Blk W w3.heap.size #[.int .u64 4] 22 := by rw [hN]; exact Blk.newAt rfl
  clear hN
  have c1 := Count_any 17 0 3 ra [sq1 x y z] rc (some ⟨w3.heap.size, 0, none⟩) 1 [4] 1000 W (hR.mono hb4) (UsB.sl (s := ⟨w3.heap.size, [4]⟩) g4) (fun u hu => by rw [List.mem_singleton] at hu; subst hu; omega) (by simp) ⟨by omega, by omega⟩
  rw [(sq_cnt4 x y z).1, (sq_cnt4 x y z).2] at c1
  refine c1.mono ?_
  rintro e w5 ⟨rfl, hb5⟩
  replace hB := below2 (below2 hB hb4) hb5
  clear hR hb3 hb4 hb5 g4 c1
  go_wp2_with fail
  refine (squareT_any w5).mono ?_
  rintro e w6 ⟨ra, rc, Rs, rfl, hR, ⟨x, y, z, u, v, t, rfl⟩, hb6⟩
  go_wp2_with fail
  have c1 := Inputs23_any 17 0 3 ra [sq1 x y z, sq2 u v t] rc 1 w6 hR ⟨by omega, by omega⟩
  rw [(sq_inp x y z u v t).1, (sq_inp x y z u v t).2] at c1
  refine c1.mono ?_
  rintro e w7 ⟨va, rfl, hL, hb7⟩
  replace hB := below2 (below2 hB hb6) hb7
  clear hR hb6 hb7 c1
  go_wp2_with fail
  refine name_calls fun W hN => ?_
  have hb8 : Below w7.heap.size w7 W := by rw [hN]; exact (((Below.refl _ _).alloc (Nat.le_refl _) _).alloc (by simp) _).alloc (by simp; omega) _
  have g8 : Blk W w7.heap.size #[.int .u64 2] 22 := by rw [hN]; exact ((Blk.newAt rfl).alloc _).alloc _
  have g9 : Blk W (w7.heap.size + 1) #[.int .u64 15] 22 := by rw [hN]; exact (Blk.newAt (by simp)).alloc _
  have gA : Blk W (w7.heap.size + 2) #[.slice (some ⟨w7.heap.size, 0, none⟩) 1 1, .slice (some ⟨w7.heap.size + 1, 0, none⟩) 1 1] 54 := by rw [hN]; exact Blk.newAt (by simp)
  clear hN
  have hL2 : LL W w7.heap.size (.slice (some ⟨w7.heap.size + 2, 0, none⟩) 2 2) [[2], [15]] := ⟨[⟨w7.heap.size, [2]⟩, ⟨w7.heap.size + 1, [15]⟩], OwnG.of_blk (L := usL) (xs := [⟨w7.heap.size, [2]⟩, ⟨w7.heap.size + 1, [15]⟩]) (cap := 2) (by omega) gA (Nat.le_refl _) (by simp [maxLen]) rfl rfl, fun s hs => by
    simp only [List.mem_cons, List.not_mem_nil, or_false] at hs
    rcases hs with rfl | rfl
    · exact g8
    · exact g9, rfl⟩
  refine (rSame23_any W (hL.mono hb8) hL2 (by simp) (fun x hx => by
    simp only [List.mem_cons, List.not_mem_nil, or_false] at hx
    rcases hx with rfl | rfl <;> simp)).mono ?_
  rintro e w9 ⟨rfl, hb9⟩
  replace hB := below2 (below2 hB hb8) hb9
  clear hL hL2 hb8 hb9 g8 g9 gA
  go_wp2
  go_ret
  exact ⟨rfl, hB⟩
end Go.Proofs.Ytlgjnidphldiiaa
