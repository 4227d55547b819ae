/- The sponge's examples hold. -/
import Derived.Test.YtaklpdhhcnnclaaSpongeC
namespace Go.Proofs.Ytaklpdhhcnnclaa
open Go.RowKit

theorem Sl.blk {w : World} {b : Nat} {cs : Array Value} {T : TypeId} {k : IntKind} (xs : List Int) (h : Blk w b cs T) (hc : cs = (xs.map (Value.int k)).toArray) : Sl w k (some ⟨b, 0, none⟩) xs := fun _ =>
  ⟨b, 0, rfl, h.lt, fun i hi => h.cell (by subst hc; simp [List.getD_eq_getElem?_getD, List.getElem?_eq_getElem hi])⟩

theorem rUpon_sl {P : Program} {f : FuncId} {args : Array Value} {W : World} {p : Later} {E : TypeId} {k : IntKind} {xs : List Int} (h : Calls P f args (later W p) (RetSl (later W p) E k xs)) :
    Rel.rUpon P (later W p) false (fun v w => Own w W.heap.size E k v xs) (.ok (.enter f args) (later W p)) :=
  ⟨rfl, h.mono fun _ _ ⟨v, he, hown, hb⟩ => ⟨v, he, hb, hown.low (below_later W p).size, fun h => by cases h⟩⟩

theorem rUpon_q {P : Program} {f : FuncId} {args : Array Value} {W : World} {p : Later} {v : Value} (h : Calls P f args (later W p) fun e w' => e = .returned v ∧ Below (later W p).heap.size (later W p) w') :
    Rel.rUpon P (later W p) false (fun u _ => u = v) (.ok (.enter f args) (later W p)) :=
  ⟨rfl, h.mono fun _ _ ⟨he, hb⟩ => ⟨v, he, hb, rfl, fun h => by cases h⟩⟩

theorem hash17 : hash 17 1 [] = (permute 17 ⟨0, 0, 1⟩).a := by
  have h1 : absI 17 1 0 = ⟨0, 0, 1⟩ := by decide
  unfold hash
  rw [if_pos (by decide)]
  show (absF 17 [] 0 (absI 17 1 0)).a = _
  rw [absF_none _ _ _ rfl, h1]
theorem pack8 : pack [1, 2, 0, 0, 0, 0, 0, 3] = [8, 513, 3] := by decide
theorem pack0 : pack [] = [0] := by decide

set_option maxHeartbeats 1000000 in
theorem awake8 (w : World) : Calls Try.prog 37 #[] w fun e w' => e = .returned (.bool true) ∧ Below w.heap.size w w' := by
  go_enter Try.func37, Try.ntmps37
  go_wp2_with fail
  refine name_calls fun W hW => ?_
  have hB : Below w.heap.size w W := by rw [hW]; exact (Below.refl _ _).alloc (Nat.le_refl _) _
  have g0 : Blk W w.heap.size #[.int .u8 1, .int .u8 2, .int .u8 0, .int .u8 0, .int .u8 0, .int .u8 0, .int .u8 0, .int .u8 3] 5 := by rw [hW]; exact Blk.newAt rfl
  have s0 := Sl.blk (k := .u8) [1, 2, 0, 0, 0, 0, 0, 3] g0 rfl
  clear hW g0
  refine (Pack_any _ 8 [1, 2, 0, 0, 0, 0, 0, 3] W s0 (by unfold AllB; decide) (by decide) (by decide)).mono ?_
  rintro e w1 ⟨v, rfl, hown, hb1⟩
  rw [pack8] at hown
  obtain ⟨ad, c, rfl, hsl, _, _⟩ := hown.sl
  replace hB := below2 hB hb1
  clear s0 hown hb1
  go_wp2_with fail
  refine name_calls fun W1 hW => ?_
  have g1 : Blk W1 w1.heap.size #[.int .u64 8, .int .u64 513, .int .u64 3] 22 := by rw [hW]; exact Blk.newAt rfl
  have s1 := Sl.blk (k := .u64) [8, 513, 3] g1 rfl
  have hal : Below w1.heap.size w1 W1 := by rw [hW]; exact (Below.refl _ _).alloc (Nat.le_refl _) _
  replace hsl := hsl.mono hal
  replace hB := below2 hB hal
  clear hW hal g1
  refine (rSame4_any ad _ c 3 [8, 513, 3] [8, 513, 3] W1 hsl s1 (by decide)).mono ?_
  rintro e w2 ⟨rfl, hb2⟩
  replace hB := below2 hB hb2
  clear s1 hsl hb2
  have hd1 : decide (([8, 513, 3] : List Int) = [8, 513, 3]) = true := by decide
  rw [hd1]
  clear hd1
  go_wp2_with fail
  refine (Pack_any none 0 [] w2 (Sl.nil _ _ _) (by unfold AllB; decide) (by decide) (by decide)).mono ?_
  rintro e w3 ⟨v, rfl, hown, hb3⟩
  rw [pack0] at hown
  obtain ⟨ad', c', rfl, hsl, _, _⟩ := hown.sl
  replace hB := below2 hB hb3
  clear hown hb3
  go_wp2_with fail
  refine name_calls fun W1 hW => ?_
  have g1 : Blk W1 w3.heap.size #[.int .u64 0] 22 := by rw [hW]; exact Blk.newAt rfl
  have s1 := Sl.blk (k := .u64) [0] g1 rfl
  have hal : Below w3.heap.size w3 W1 := by rw [hW]; exact (Below.refl _ _).alloc (Nat.le_refl _) _
  replace hsl := hsl.mono hal
  replace hB := below2 hB hal
  clear hW hal g1
  refine (rSame4_any ad' _ c' 1 [0] [0] W1 hsl s1 (by decide)).mono ?_
  rintro e w4 ⟨rfl, hb4⟩
  replace hB := below2 hB hb4
  clear s1 hsl hb4
  have hd1 : decide (([0] : List Int) = [0]) = true := by decide
  rw [hd1]
  clear hd1
  obtain ⟨R, hR⟩ : ∃ R, R = hash 17 1 [] := ⟨_, rfl⟩
  have hR2 := hash17
  rw [← hR] at hR2
  obtain ⟨T, hT⟩ : ∃ T, T = permute 17 ⟨0, 0, 1⟩ := ⟨_, rfl⟩
  rw [← hT] at hR2
  have c1 := Hash_any 17 1 none 0 [] w4 (by decide) (by decide) (Sl.nil _ _ _) (fun x hx => by cases hx) (by decide)
  rw [← hR] at c1
  have c2 := fun W : World => rPermute_any 17 ⟨0, 0, 1⟩ W ⟨by decide, by decide, by decide⟩
  rw [← hT] at c2
  replace hR2 := hide hR2
  clear hR hT
  go_wp2_with fail
  refine c1.mono ?_
  rintro e w5 ⟨rfl, hb5⟩
  clear c1
  go_wp2_with fail
  refine (c2 _).mono ?_
  rintro e w6 ⟨rfl, hb6⟩
  have hRT := hR2.out
  subst hRT
  clear c2 hR2
  go_wp2
  go_ret
  exact ⟨rfl, below2 (below2 hB hb5) hb6⟩

end Go.Proofs.Ytaklpdhhcnnclaa
