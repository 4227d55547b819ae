/- Trees of all their places: Level, Places, Naive. -/
import Derived.Test.YthkdaoomnfgooaaFronI
namespace Go.Proofs.Ythkdaoomnfgooaa
open Go.RowKit

/-- A new slice of one element. -/
def NewS1 (n : Nat) (y : Int) (E : TypeId) (v : Value) (w : World) : Prop := ∃ b, v = .slice (some ⟨b, 0, none⟩) 1 1 ∧ n ≤ b ∧ Blk w b #[.int .u64 y] E
theorem NewS1.keep {n : Nat} {y : Int} {E : TypeId} {v : Value} {w w' : World} (h : NewS1 n y E v w) (hb : Below w.heap.size w w') : NewS1 n y E v w' := by
  obtain ⟨b, h1, h2, h3⟩ := h
  exact ⟨b, h1, h2, h3.mono hb⟩
theorem rUpon_news1 {P : Program} (W : World) (p : Later) (y : Int) (E : TypeId) :
    Rel.rUpon P (later W p) false (NewS1 W.heap.size y E) (.ok (.value (.slice (some ⟨(later W p).heap.size, 0, none⟩) 1 1)) ((later W p).alloc (.cells #[.int .u64 y] E))) :=
  ⟨(Below.refl _ _).alloc (Nat.le_refl _) _, ⟨_, rfl, (below_later W p).size, Blk.new _ _ _⟩, fun h => by cases h⟩

theorem pairs_step {l : List Int} {i : Nat} (h : i + 1 < l.length) (he : i % 2 = 0) : pairs (l.take (i + 2)) = pairs (l.take i) ++ [nd (l.getD i 0) (l.getD (i + 1) 0)] := by
  rw [show i + 2 = (i + 1) + 1 by omega, take_succ_getD l 0 h, take_succ_getD l 0 (show i < l.length by omega), List.append_assoc, pairs_even _ _ (by rw [List.length_take]; omega)]
  rfl
theorem pairs_end {l : List Int} {i : Nat} (h : l.length ≤ i + 1) (hi : i ≤ l.length) (he : i % 2 = 0) : pairs (l.take i) = pairs l := by
  rcases Nat.lt_or_ge i l.length with h2 | h2
  · have e : l = l.take i ++ [l.getD i 0] := by rw [← take_succ_getD l 0 h2, List.take_of_length_le h]
    have h3 : pairs l = pairs (l.take i) ++ pairs [l.getD i 0] := by
      rw [← pairs_even _ _ (by rw [List.length_take]; omega), ← e]
    rw [h3]
    simp [pairs]
  · rw [List.take_of_length_le h2]

set_option maxRecDepth 10000 in
set_option maxHeartbeats 4000000 in
theorem Level_any (ad : Option Addr) (cap : Nat) (l : List Int) (w : World) (hs : Sl w .u64 ad l) (hw : AllW l) (hl : l.length < 1099511627776) :
    Calls Try.prog 61 #[.slice ad l.length cap] w (RetSl w 30 .u64 (pairs l)) := by
  go_enter Try.func61, Try.ntmps61
  go_wp2_with fail
  go_loopw [3, 4] (fun t3 t4 wr => ∃ i : Nat, i ≤ l.length ∧ i % 2 = 0 ∧ t4 = .int .i64 i ∧ Below w.heap.size w wr ∧ ∃ v, t3 = v ∧ Own wr w.heap.size 30 .u64 v (pairs (l.take i))) (fun _ t4 _ => l.length - (intOf t4).toNat)
  case atStart => exact ⟨0, by omega, rfl, rfl, Below.refl _ _, _, rfl, Own.nil _ _ _ _⟩
  case round =>
    obtain ⟨i, hi, he, rfl, hB, v, rfl, ho⟩ := hrel
    by_cases hlt : i + 1 < l.length
    · have hst := pairs_step hlt he
      have hpl := pairs_len (l.take i)
      rw [List.length_take] at hpl
      obtain ⟨b, off, rfl, _, hc⟩ := (hs.mono hB).get (show i < l.length by omega)
      obtain ⟨b', off', he2, _, hc'⟩ := (hs.mono hB).get hlt
      injection he2 with he2
      injection he2 with e1 e2
      subst e1 e2
      have hyb := hw.get (show i < l.length by omega)
      have hzb := hw.get hlt
      obtain ⟨y, hy⟩ : ∃ y, y = l.getD i 0 := ⟨_, rfl⟩
      obtain ⟨z, hz⟩ : ∃ z, z = l.getD (i + 1) 0 := ⟨_, rfl⟩
      rw [← hy] at hc hyb hst
      rw [← hz] at hc' hzb hst
      have cN := fun W : World => rNode_any y z W hyb hzb
      obtain ⟨x, hx⟩ : ∃ x, x = nd y z := ⟨_, rfl⟩
      rw [← hx] at hst cN
      replace hst := hide hst
      replace hx := hide hx
      clear hy hz hyb hzb
      obtain ⟨j, hj⟩ : ∃ j, j = i + 1 := ⟨_, rfl⟩
      rw [← hj] at hc' hlt
      have hij : (i : Int) + 1 = (j : Int) := by omega
      have hwj : IntKind.i64.wrap (j : Int) = j := by rw [IntKind.wrap_i64]; omega
      have hi1 : i < l.length := by omega
      replace hj := hide hj
      go_wp2_with fail
      have k1 := cell_later' hc
      have k2 := cell_later' hc'
      refine Rel.wp_region_mix 12 [] [(11, NewS1 wr.heap.size x 30)] Try.mixed (by kernel_rfl) (by kernel_rfl) ?_ ?_
      rotate_left
      simp only [List.take_succ_cons, List.take_zero, List.drop_succ_cons, List.drop_zero, List.map_cons, List.map_nil]
      repeat (first | (refine Rel.wpA_b (by rfl) ?_) | (refine Rel.wpA_step (by rfl) fun K hK => ?_; go_simp; first | (refine hK _ ?_; clear hK K) | (apply Exists.intro; refine ⟨fun _ => ?_, hK _ ?_⟩; (first | (go_at_call 37; exact cN _)); clear hK K)))
      refine Rel.wpA_nil ?_
      rotate_left
      · intro z hz v u u' h1 h2
        simp only [List.mem_cons, List.not_mem_nil, or_false] at hz
        subst hz
        exact NewS1.keep h1 h2
      refine Rel.wpB_step _ rfl rfl (fun p' hc => ?_) (fun v9 => ?_)
      · go_simp
        exact rUpon_news1 _ _ _ _
      refine Rel.wpB_nil ?_
      intro p' hctx hfr
      simp only [List.nil_append, List.mem_cons, List.not_mem_nil, or_false, forall_eq] at hctx
      obtain ⟨bn, rfl, n9, g9⟩ := hctx
      have hb3 : Below wr.heap.size wr (later wr p') := below_later _ _
      replace ho := ho.mono hb3
      replace hB := below2 hB hb3
      clear hfr k1 k2 cN n9 hc hc' hb3
      generalize later wr p' = w3 at *
      have s9 := Sl.blk (k := .u64) [x] g9 rfl
      go_wp2_with (at_builtin; refine wpList_app _ rfl _ _ 22 rfl w.heap.size 30 .u64 8 Try.underlying22 Try.infoU64 (by decide) _ (pairs (l.take i)) [x] 1 _ rfl rfl ho s9 (by simp; omega) hB.size ?_; intro v' w' hown hg; refine Hold.mk ?_)
      refine Hold.go ?_
      have hB2 := hg.below hB ho (Nat.le_refl _) hB.size
      clear hg ho s9 g9 hB hpl
      rw [← hst.out] at hown
      go_wp2
      go_roundw
      case rel => exact ⟨i + 2, by omega, by omega, by go_num, hB2, _, rfl, hown⟩
      case measure => simp [intOf]; omega
    · have hp := pairs_end (l := l) (i := i) (by omega) hi he
      rw [hp] at ho
      have hlt' : (l.length : Int) ≤ (i : Int) + 1 := by omega
      go_wp2
      go_ret
      exact ⟨_, rfl, ho, hB⟩

end Go.Proofs.Ythkdaoomnfgooaa
