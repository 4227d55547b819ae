/- The cipher's examples hold. -/
import Derived.Test.YtaklpdhhcnnclaaCiphS
import Derived.Test.YtaklpdhhcnnclaaSeg
namespace Go.Proofs.Ytaklpdhhcnnclaa
open Go.RowKit

section
open Go.ChangeShapes Go.WideShapes Go.ChangeAt
variable {H : Type} {enc : TypeId × Value → H} {P : Program} {w : World} {base : Nat} {spare : Nat → Bool} {held : Bool}
theorem trod_arr2 {t e : TypeId} {fuel : Nat} {c0 c1 : Value} {x : DataW H × List MemPlace} (ht : P.underlying t = some (.array 2 e)) (hce : P.cellsOf e = 1)
    (h : DataW.trod enc P w base spare held fuel t [c0, c1] = some x) :
    ∃ y0 y1 n, x = (.agg [y0.1, y1.1], y0.2 ++ y1.2) ∧ DataW.trod enc P w base spare held n e [c0] = some y0 ∧ DataW.trod enc P w base spare held n e [c1] = some y1 := by
  cases fuel with
  | zero => simp [DataW.trod] at h
  | succ n =>
    unfold DataW.trod at h
    rw [ht] at h
    have r2 : List.range 2 = [0, 1] := rfl
    simp [r2, hce] at h
    obtain ⟨_, h⟩ := h
    cases h0 : DataW.trod enc P w base spare held n e [c0] with
    | none => simp [h0] at h
    | some y0 =>
      cases h1 : DataW.trod enc P w base spare held n e [c1] with
      | none => simp [h0, h1] at h
      | some y1 =>
        simp [h0, h1] at h
        exact ⟨y0, y1, n, h.symm, h0, h1⟩

/-- An array of two words of 64 bits. -/
theorem open_arr2 {r : Reach} {b0 : Nat} {t e : TypeId} {v : Value} {d : DataW H} {ps : List MemPlace} (ht : P.underlying t = some (.array 2 e)) (he : P.underlying e = some (.int .u64)) (hc : P.cellsOf e = 1) (hs : P.cellsOf t = 2)
    (hval : Value.okWide P w r b0 t v) (hd : DataW.Trod enc P w base spare held t v d ps) :
    ∃ x y, v = .agg #[.int .u64 x, .int .u64 y] ∧ d = .agg [.lit (.int .u64 x), .lit (.int .u64 y)] ∧ ps = [] ∧ (Lit.int .u64 x).wf = true ∧ (Lit.int .u64 y).wf = true := by
  have h1 : ∃ cs : Array Value, v = .agg cs ∧ cs.size = 2 := by
    simp only [Value.okWide, ht] at hval
    obtain ⟨cs, h1, h2, _⟩ := hval
    exact ⟨cs, h1, by rw [h2, hs]⟩
  obtain ⟨cs, rfl, hn⟩ := h1
  obtain ⟨fuel, hf⟩ := hd
  obtain ⟨c0, c1, hcs⟩ : ∃ c0 c1, cs.toList = [c0, c1] := by
    match h : cs.toList, (by simpa using hn : cs.toList.length = 2) with
    | [a, b], _ => exact ⟨a, b, rfl⟩
  obtain rfl : cs = #[c0, c1] := by cases cs; simp_all
  have hcells : (Value.agg #[c0, c1]).cells.toList = [c0, c1] := by simp [Value.cells]
  rw [hcells] at hf
  obtain ⟨y0, y1, n, hx, h0, h1⟩ := trod_arr2 ht hc hf
  obtain ⟨x, hx0, rfl, wx⟩ := DataW.trod_int he h0
  obtain ⟨y, hx1, rfl, wy⟩ := DataW.trod_int he h1
  simp only [List.cons.injEq, and_true] at hx0 hx1
  subst hx0 hx1
  simp only [Prod.mk.injEq, List.append_nil] at hx
  exact ⟨x, y, rfl, hx.1, hx.2, wx, wy⟩
end

theorem Own.take {w : World} {base : Nat} {E : TypeId} {k : IntKind} {g n cap : Nat} {xs : List Int} (h : Own w base E k (.slice (some ⟨g, 0, none⟩) n cap) xs) (m : Nat) : Sl w k (some ⟨g, 0, none⟩) (xs.take m) := fun h0 => by
  obtain ⟨hn, _⟩ := h.len
  refine ⟨g, 0, rfl, (h.lt (b := g) rfl).2, fun i hi => ?_⟩
  rw [List.length_take] at hi
  have := h.cell (j := i) (by omega)
  simp only [Nat.zero_add]
  rw [this]
  simp only [List.getD_eq_getElem?_getD]
  rw [List.getElem?_take_of_lt (by omega)]

theorem seal_W (key nonce : Int) (l : List Int) (h0 : 0 ≤ key) (h1 : key < 18446744073709551616) (g0 : 0 ≤ nonce) (g1 : nonce < 18446744073709551616) (hw : AllW l) : AllW (seal_ key nonce l) := by
  unfold seal_
  split
  · intro x hx
    rcases List.mem_append.1 hx with hx | hx
    · exact cOut_W _ _ _ _ x hx
    · rw [List.mem_singleton.1 hx]
      exact cTag_bd _ _ _ _ h0 h1 g0 g1 hw
  · intro x hx; cases hx

/-- The numbers of the examples. -/
structure Nine (x y z x' y' z' q : Int) : Prop where
  s1 : seal_ 3 4 [1, 5] = [x, y, z]
  s2 : seal_ 3 4 [0, 5] = [x', y', z']
  s3 : seal_ 3 4 [] = [q]
  w1 : AllW [x, y, z]
  w2 : AllW [x', y', z']
  d : fsub big x x' = 1
  no : openOk 3 4 [x, y, fadd big z 1] = false
  yes : openOk 3 4 [x, y, z] = true
  back : open_ 3 4 [x, y, z] = [1, 5]

theorem nine : ∃ x y z x' y' z' q, Nine x y z x' y' z' q := by
  have w1 : AllW [1, 5] := by unfold AllW; decide
  have w2 : AllW [0, 5] := by unfold AllW; decide
  have e1 : elB 3 4 [1, 5] = true := by decide
  have e2 : elB 3 4 [0, 5] = true := by decide
  have e3 : elB 3 4 [] = true := by decide
  have s1 := seal_yes e1
  have s2 := seal_yes e2
  have s3 := seal_yes e3
  have o1 := open_seal 3 4 [1, 5] w1 e1
  have c1 : cOut true 3 4 [1, 5] = [ce 2 true [1, 5] (cstart 3 4 2) 0, ce 2 true [1, 5] (cstart 3 4 2) 1] := rfl
  have c2 : cOut true 3 4 [0, 5] = [ce 2 true [0, 5] (cstart 3 4 2) 0, ce 2 true [0, 5] (cstart 3 4 2) 1] := rfl
  have hW1 := seal_W 3 4 [1, 5] (by decide) (by decide) (by decide) (by decide) w1
  have hW2 := seal_W 3 4 [0, 5] (by decide) (by decide) (by decide) (by decide) w2
  have hd : fsub big (ce 2 true [1, 5] (cstart 3 4 2) 0) (ce 2 true [0, 5] (cstart 3 4 2) 0) = 1 := by
    show fsub big (fadd big 1 (cstart 3 4 2).a) (fadd big 0 (cstart 3 4 2).a) = 1
    generalize (cstart 3 4 2).a = s
    rw [fsub_big, fadd_big, fadd_big]
    unfold big
    omega
  have ht := cTag_lt true 3 4 [1, 5]
  have hu := cl_undo true 3 4 [1, 5] w1 (by decide)
  rw [c1] at s1 hu
  rw [c2] at s2
  generalize ce 2 true [1, 5] (cstart 3 4 2) 0 = x at *
  generalize ce 2 true [1, 5] (cstart 3 4 2) 1 = y at *
  generalize ce 2 true [0, 5] (cstart 3 4 2) 0 = x' at *
  generalize ce 2 true [0, 5] (cstart 3 4 2) 1 = y' at *
  generalize cTag true 3 4 [1, 5] = z at *
  generalize cTag true 3 4 [0, 5] = z' at *
  have s1' : seal_ 3 4 [1, 5] = [x, y, z] := s1
  have s2' : seal_ 3 4 [0, 5] = [x', y', z'] := s2
  rw [s1'] at o1 hW1
  rw [s2'] at hW2
  refine ⟨x, y, z, x', y', z', cTag true 3 4 [], s1', s2', s3, hW1, hW2, hd, ?_, o1.1, o1.2⟩
  have h1 := (open_snoc 3 4 [x, y] (fadd big z 1)).1
  have h2 : openOk 3 4 ([x, y] ++ [fadd big z 1]) = openOk 3 4 [x, y, fadd big z 1] := rfl
  rw [h2] at h1
  rw [h1, Bool.not_true] at *
  have h3 : ¬ cTag false 3 4 [x, y] = fadd big z 1 := by
    have hu2 : cTag false 3 4 [x, y] = z := hu.2
    rw [hu2, fadd_big]
    have hz := (hW1 z (by simp)).1
    unfold big at *
    omega
  rw [decide_eq_false h3, Bool.and_false]

set_option maxRecDepth 10000 in
set_option maxHeartbeats 4000000 in
theorem awake9 (w : World) : Calls Try.prog 49 #[] w fun e w' => e = .returned (.bool true) ∧ Below w.heap.size w w' := by
  obtain ⟨x, y, z, x', y', z', q, N⟩ := nine
  have b1 := N.w1 x (by simp); have b2 := N.w1 y (by simp); have b3 := N.w1 z (by simp); have b4 := N.w2 x' (by simp)
  have bz := fadd_bd big z 1
  have cS1 := fun (ad : Option Addr) (W : World) hs => Seal_any 3 4 ad 2 [1, 5] W (by decide) (by decide) (by decide) (by decide) hs (by unfold AllW; decide) (by decide)
  have cS2 := fun (ad : Option Addr) (W : World) hs => Seal_any 3 4 ad 2 [0, 5] W (by decide) (by decide) (by decide) (by decide) hs (by unfold AllW; decide) (by decide)
  have cS3 := fun (W : World) => Seal_any 3 4 none 0 [] W (by decide) (by decide) (by decide) (by decide) (Sl.nil _ _ _) (fun x hx => by cases hx) (by decide)
  have cO1 := fun (ad : Option Addr) (c : Nat) (W : World) hs hc => Open_any 3 4 ad c [x, y, fadd big z 1] W (by decide) (by decide) (by decide) (by decide) hs (fun a ha => by
    simp only [List.mem_cons, List.not_mem_nil, or_false] at ha
    rcases ha with rfl | rfl | rfl
    · exact b1
    · exact b2
    · exact bz) (by simp) hc
  have cO2 := fun (ad : Option Addr) (c : Nat) (W : World) hs hc => Open_any 3 4 ad c [x, y, z] W (by decide) (by decide) (by decide) (by decide) hs N.w1 (by simp) hc
  have cU : ∀ W : World, Calls Try.prog 67 #[.int .u64 18446744069414584321, .int .u64 x, .int .u64 x'] W fun e w' => e = .returned (.int .u64 1) ∧ Below W.heap.size W w' := fun W => by
    rw [← N.d]; exact rSub_any big x x' W b1.1 b1.2 b4.1 b4.2
  have cA : ∀ W : World, Calls Try.prog 28 #[.int .u64 18446744069414584321, .int .u64 z, .int .u64 1] W fun e w' => e = .returned (.int .u64 (fadd big z 1)) ∧ Below W.heap.size W w' := fun W => rAdd_any big z 1 W b3.1 b3.2 (by decide) (by decide)
  rw [N.s1] at cS1
  rw [N.s2] at cS2
  rw [N.s3] at cS3
  rw [N.no, open_no N.no] at cO1
  rw [N.yes, N.back] at cO2
  generalize fadd big z 1 = z1 at *
  clear N b1 b2 b3 b4 bz
  go_enter Try.func49, Try.ntmps49
  go_wp2_with fail
  refine name_calls fun W hW => ?_
  have hB : Below w.heap.size w W := by rw [hW]; exact (Below.refl _ _).alloc (Nat.le_refl _) _
  have g0 : Blk W w.heap.size #[.int .u64 1, .int .u64 5] 22 := by rw [hW]; exact Blk.newAt rfl
  have s0 := Sl.blk (k := .u64) [1, 5] g0 rfl
  clear hW g0
  refine (cS1 _ W s0).mono ?_
  rintro e w1 ⟨v1, rfl, o1, hb1⟩
  obtain ⟨g1, cap1, rfl, _⟩ := o1.open_ (N := 3) rfl (by decide)
  have hcl1 := o1.len.2
  replace hB := below2 hB hb1
  clear s0 hb1 cS1
  go_wp2_with fail
  refine name_calls fun W1 hW => ?_
  have hal : Below w1.heap.size w1 W1 := by rw [hW]; exact (Below.refl _ _).alloc (Nat.le_refl _) _
  have g2 : Blk W1 w1.heap.size #[.int .u64 0, .int .u64 5] 22 := by rw [hW]; exact Blk.newAt rfl
  have s2 := Sl.blk (k := .u64) [0, 5] g2 rfl
  replace o1 := o1.mono hal
  replace hB := below2 hB hal
  clear hW hal g2
  refine (cS2 _ W1 s2).mono ?_
  rintro e w2 ⟨v2, rfl, o2, hb2⟩
  obtain ⟨g2, cap2, rfl, _⟩ := o2.open_ (N := 3) rfl (by decide)
  replace o1 := o1.mono hb2
  replace hB := below2 hB hb2
  clear s2 hb2 cS2
  go_wp2_with fail
  refine Rel.region_any Try.mixed fun w3 hb3 => ?_
  refine Rel.any_seg_k 14 [] (by kernel_rfl) fun K hK => ?_
  refine Rel.any_list (by kernel_rfl) ?_
  simp only [List.take_succ_cons, List.take_zero]
  go_wp2_with fail
  refine (cS3 w3).mono ?_
  rintro e w4 ⟨v3, rfl, o3, hb4⟩
  obtain ⟨ad3, c3, rfl, _, _, _⟩ := o3.sl
  replace hb4 := below2 hb3 hb4
  replace o1 := o1.mono hb4
  replace o2 := o2.mono hb4
  replace hB := below2 hB hb4
  clear o3 hb4 hb3 cS3
  have x0 := o1.cell (j := 0) (by decide)
  have x0' := o2.cell (j := 0) (by decide)
  replace x0 := cell_later' (v := .int .u64 x) x0
  replace x0' := cell_later' (v := .int .u64 x') x0'
  go_wp2_with fail
  refine hK _ _ (by kernel_rfl) ?_
  clear hK K
  refine Rel.any_later_tail 23 (by kernel_rfl) ?_
  simp only [Rel.seg2]
  repeat (first | simp only [List.take_succ_cons] | simp only [List.take_zero] | simp only [List.drop_succ_cons] | simp only [List.drop_zero] | simp only [Nat.reduceAdd] | simp only [Nat.reduceLT] | simp only [if_true] | simp only [if_false] | simp only [Rel.quietOp] | simp only [Rel.laterOp] | simp only [List.contains_nil] | simp only [List.contains_cons] | simp only [Nat.reduceBEq] | simp only [Bool.or_false] | simp only [Bool.false_or] | simp only [Bool.or_self] | simp only [Bool.true_or] | simp only [Bool.or_true] | simp only [Bool.false_eq_true])
  repeat (first | go_big_quiet_step (first | (go_at_call 67; exact Calls.later_of (cU _))) | quiet_step (first | (go_at_call 67; exact Calls.later_of (cU _))))
  refine wpQuiet_nil ?_
  intro w5 hb5
  replace hb5 := below_of_later hb5
  replace o1 := o1.mono hb5
  replace hB := below2 hB hb5
  clear x0 x0' o2 hb5 cU
  go_wp2_with fail
  have y0 := cell_later' (v := .int .u64 x) (o1.cell (j := 0) (by decide)); have y1 := cell_later' (v := .int .u64 y) (o1.cell (j := 1) (by decide)); have y2 := cell_later' (v := .int .u64 z) (o1.cell (j := 2) (by decide))
  refine Rel.any_of_region Try.mixed ?_
  refine Rel.any_seg_k 13 [] (by kernel_rfl) fun K hK => ?_
  refine Rel.any_later_tail1 10 (by kernel_rfl) ?_
  simp only [List.take_succ_cons, List.take_zero, List.drop_succ_cons, List.drop_zero]
  repeat (first | go_big_quiet_step (first | (go_at_call 28; exact Calls.later_of (cA _))) | quiet_step (first | (go_at_call 28; exact Calls.later_of (cA _))))
  refine wpQuiet_nil ?_
  intro w6 hb6
  replace hb6 := below_of_later hb6
  replace o1 := o1.mono hb6
  replace hB := below2 hB hb6
  clear y0 y1 y2 hb6 cA
  go_wp2_with fail
  refine name_calls fun W2 hW => ?_
  have hal : Below w6.heap.size w6 W2 := by rw [hW]; exact (Below.refl _ _).alloc (Nat.le_refl _) _
  have g7 : Blk W2 w6.heap.size #[.int .u64 x, .int .u64 y, .int .u64 z1] 22 := by rw [hW]; exact Blk.newAt rfl
  have s7 := Sl.blk (k := .u64) [x, y, z1] g7 rfl
  replace o1 := o1.mono hal
  replace hB := below2 hB hal
  clear hW hal g7
  refine (cO1 _ 3 W2 s7 (by simp)).mono ?_
  rintro e w7 ⟨v7, rfl, _, hb7⟩
  replace o1 := o1.mono hb7
  replace hB := below2 hB hb7
  clear s7 hb7 cO1
  go_wp2_with fail
  refine hK _ _ (by kernel_rfl) ?_
  clear hK K
  refine Rel.any_later_tail 16 (by kernel_rfl) ?_
  simp only [Rel.seg2]
  repeat (first | simp only [List.take_succ_cons] | simp only [List.take_zero] | simp only [List.drop_succ_cons] | simp only [List.drop_zero] | simp only [Nat.reduceAdd] | simp only [Nat.reduceLT] | simp only [if_true] | simp only [if_false] | simp only [Rel.quietOp] | simp only [Rel.laterOp] | simp only [List.contains_nil] | simp only [List.contains_cons] | simp only [Nat.reduceBEq] | simp only [Bool.or_false] | simp only [Bool.false_or] | simp only [Bool.or_self] | simp only [Bool.true_or] | simp only [Bool.or_true] | simp only [Bool.false_eq_true])
  repeat (first | go_big_quiet_step (first | fail) | quiet_step (first | fail))
  refine wpQuiet_nil ?_
  intro w9 hb9
  replace hb9 := below_of_later hb9
  replace o1 := o1.mono hb9
  replace hB := below2 hB hb9
  clear hb9
  go_wp2_with fail
  refine (cO2 (some ⟨g1, 0, none⟩) cap1 w9 (Own.take o1 3) hcl1).mono ?_
  rintro e w8 ⟨v8, rfl, o8, hb8⟩
  obtain ⟨ad8, c8, rfl, s8, _, _⟩ := o8.sl
  replace hB := below2 hB hb8
  clear hb8 cO2 o8 o1
  go_wp2_with fail
  refine name_calls fun W3 hW => ?_
  have hal : Below w8.heap.size w8 W3 := by rw [hW]; exact (Below.refl _ _).alloc (Nat.le_refl _) _
  have g9 : Blk W3 w8.heap.size #[.int .u64 1, .int .u64 5] 22 := by rw [hW]; exact Blk.newAt rfl
  have s9 := Sl.blk (k := .u64) [1, 5] g9 rfl
  replace s8 := s8.mono hal
  replace hB := below2 hB hal
  clear hW hal g9
  refine (rSame1_any ad8 _ c8 2 [1, 5] [1, 5] W3 s8 s9 (by decide)).mono ?_
  rintro e w9 ⟨rfl, hb9⟩
  have hd1 : decide (([1, 5] : List Int) = [1, 5]) = true := by decide
  rw [hd1]
  go_wp2
  go_ret
  exact ⟨rfl, below2 hB hb9⟩

end Go.Proofs.Ytaklpdhhcnnclaa
