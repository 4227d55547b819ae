/- SpongePrefix: Squeeze of fewer elements is the beginning of that of more, and Hash is its first element. -/
import Derived.Test.YtaklpdhhcnnclaaAwake8
import Derived.Test.YtaklpdhhcnnclaaOpen
namespace Go.Proofs.Ytaklpdhhcnnclaa
open Go.ChangeShapes Go.WideShapes Go.ChangeAt Go.RowKit

theorem sqT_take (p : Int) (s : T3) (n m : Nat) (h : n ≤ m) : (sqT p s m).take n = sqT p s n := by
  unfold sqT
  rw [← List.map_take, List.take_range, Nat.min_eq_left h]
theorem sqT_head (p : Int) (s : T3) (m : Nat) (h : 0 < m) : (sqT p s m).getD 0 0 = s.a := by
  obtain ⟨k, rfl⟩ : ∃ k, m = k + 1 := ⟨m - 1, by omega⟩
  simp [sqT, sqE, sqS, List.range_succ_eq_map, List.getD_eq_getElem?_getD]

theorem Own.take {w : World} {base : Nat} {E : TypeId} {k : IntKind} {g n cap : Nat} {xs : List Int} (h : Own w base E k (.slice (some ⟨g, 0, none⟩) n cap) xs) (m : Nat) : Sl w k (some ⟨g, 0, none⟩) (xs.take m) := fun h0 => by
  obtain ⟨hn, _⟩ := h.len
  refine ⟨g, 0, rfl, (h.lt (b := g) rfl).2, fun i hi => ?_⟩
  rw [List.length_take] at hi
  have := h.cell (j := i) (by omega)
  simp only [Nat.zero_add]
  rw [this]
  simp only [List.getD_eq_getElem?_getD]
  rw [List.getElem?_take_of_lt (by omega)]

namespace spongePrefix

set_option maxRecDepth 10000 in
set_option maxHeartbeats 2000000 in
theorem walk (p lb : Int) (ad : Option Addr) (c : Nat) (xs : List Int) (n : Int) (more : Int) (w : World) (_ : (Lit.int .u64 p).wf = true) (hl : (Lit.int .u64 lb).wf = true) (S : SlP w .u64 ad c xs) (_ : (Lit.int .i64 n).wf = true) (hm : (Lit.int .u8 more).wf = true) :
    Calls Try.prog 16 #[.agg #[.int .u64 p, .int .u64 lb, .slice ad xs.length c, .int .i64 n], .int .u8 more] w fun e w' => e = .returned (.bool true) ∧ Below w.heap.size w w' := by
  obtain ⟨l0, l1⟩ := wf_u64 hl
  have hm2 : 0 ≤ more ∧ more < 256 := by
    simp [Lit.wf, IntKind.min, IntKind.max, IntKind.signed, IntKind.bits] at hm
    omega
  obtain ⟨m0, m1⟩ := hm2
  have hs := S.sl
  have hw := wfs_u64 S.wf
  clear S hl hm
  go_enter Try.func16, Try.ntmps16
  go_wp2_with fail
  refine name_calls fun W hW => ?_
  have g0 : Blk W w.heap.size #[.int .u64 p, .int .u64 lb, .slice ad xs.length c, .int .i64 n] 43 := by rw [hW]; exact Blk.newAt rfl
  have hB : Below w.heap.size w W := by rw [hW]; exact (Below.refl _ _).alloc (Nat.le_refl _) _
  clear hW
  refine (awake8 W).mono ?_
  rintro e w1 ⟨rfl, hb1⟩
  replace hB := below2 hB hb1
  replace g0 := g0.mono hb1
  clear hb1
  have q2 := g0.cell (j := 2) (v := .slice ad xs.length c) rfl
  have q3 := g0.cell (j := 3) (v := .int .i64 n) rfl
  have q0 := g0.cell (j := 0) (v := .int .u64 p) rfl
  by_cases h40 : xs.length ≤ 40
  · by_cases hn0 : n < 0
    · go_wp2_with fail
      refine (awake8 _).mono ?_
      rintro ew2 w2 ⟨rfl, hb2⟩
      go_wp2
      go_ret
      exact ⟨rfl, below2 hB hb2⟩
    · by_cases hn1 : 100 < n
      · have hn2 : ¬ n < 0 := hn0
        go_wp2_with fail
        refine (awake8 _).mono ?_
        rintro ew2 w2 ⟨rfl, hb2⟩
        go_wp2
        go_ret
        exact ⟨rfl, below2 hB hb2⟩
      · go_wp2_with fail
        refine (rValid_any p _).mono ?_
        rintro ew2 w2 ⟨rfl, hb2⟩
        replace hB := below2 hB hb2
        replace g0 := g0.mono hb2
        clear hb2 q0 q2 q3
        by_cases hv : vld p = true
        · rw [hv]
          obtain ⟨N, rfl⟩ := Int.eq_ofNat_of_zero_le (show 0 ≤ n by omega)
          have hN : N ≤ 100 := by omega
          obtain ⟨k, hk⟩ : ∃ k : Nat, (more % 50 : Int) = k := ⟨(more % 50).toNat, by omega⟩
          have hk50 : k < 50 := by omega
          have c1 : ∀ (W : World), Sl W .u64 ad xs → Calls Try.prog 47 #[.int .u64 p, .int .u64 lb, .slice ad xs.length c, .int .i64 N] W (RetSl W 22 .u64 (sqT p (absorb p lb xs) N)) := fun W h => by
            have := Squeeze_any p lb N ad c xs W l0 l1 (by omega) (by omega) h hw (by omega)
            unfold squeeze at this
            rwa [if_pos ⟨hv, by omega, by omega⟩] at this
          have c2 : ∀ (W : World), Sl W .u64 ad xs → Calls Try.prog 47 #[.int .u64 p, .int .u64 lb, .slice ad xs.length c, .int .i64 ((N : Int) + k + 1)] W (RetSl W 22 .u64 (sqT p (absorb p lb xs) (N + k + 1))) := fun W h => by
            have := Squeeze_any p lb ((N : Int) + k + 1) ad c xs W l0 l1 (by omega) (by omega) h hw (by omega)
            unfold squeeze at this
            rwa [if_pos ⟨hv, by omega, by omega⟩, show ((N : Int) + k + 1).toNat = N + k + 1 by omega] at this
          have c3 : ∀ (W : World), Sl W .u64 ad xs → Calls Try.prog 38 #[.int .u64 p, .int .u64 lb, .slice ad xs.length c] W fun e w' => e = .returned (.int .u64 (absorb p lb xs).a) ∧ Below W.heap.size W w' := fun W h => by
            have := Hash_any p lb ad c xs W l0 l1 h hw (by omega)
            unfold hash at this
            rwa [if_pos hv] at this
          obtain ⟨s, hs0⟩ : ∃ s, s = absorb p lb xs := ⟨_, rfl⟩
          rw [← hs0] at c1 c2 c3
          clear hs0
          have t1 := sqT_take p s N (N + k + 1) (by omega)
          have t2 := sqT_head p s (N + k + 1) (by omega)
          have x1 : (sqT p s N).length = N := by simp [sqT]
          have y1 : (sqT p s (N + k + 1)).length = N + k + 1 := by simp [sqT]
          obtain ⟨x, hx⟩ : ∃ x, x = sqT p s N := ⟨_, rfl⟩
          obtain ⟨y, hy⟩ : ∃ y, y = sqT p s (N + k + 1) := ⟨_, rfl⟩
          rw [← hx] at c1 x1 t1
          rw [← hy] at c2 y1 t1 t2
          obtain ⟨a, ha⟩ : ∃ a, a = s.a := ⟨_, rfl⟩
          rw [← ha] at c3 t2
          replace x1 := hide x1
          replace y1 := hide y1
          replace t1 := hide t1
          replace t2 := hide t2
          have r0 := g0.cell (j := 0) (v := .int .u64 p) rfl; have r1 := g0.cell (j := 1) (v := .int .u64 lb) rfl; have r2 := g0.cell (j := 2) (v := .slice ad xs.length c) rfl; have r3 := g0.cell (j := 3) (v := .int .i64 N) rfl
          clear hx hy ha
          go_wp2_with fail
          refine (c1 _ (hs.mono hB)).mono ?_
          rintro e w3 ⟨v, rfl, o1, hb3⟩
          clear r0 r1 r2 r3
          replace hB := below2 hB hb3
          replace g0 := g0.mono hb3
          have r0 := g0.cell (j := 0) (v := .int .u64 p) rfl; have r1 := g0.cell (j := 1) (v := .int .u64 lb) rfl; have r2 := g0.cell (j := 2) (v := .slice ad xs.length c) rfl; have r3 := g0.cell (j := 3) (v := .int .i64 N) rfl
          clear hb3
          go_wp2_with fail
          refine (c2 _ (hs.mono hB)).mono ?_
          rintro e w4 ⟨v', rfl, o2, hb4⟩
          clear r0 r1 r2 r3
          replace hB := below2 hB hb4
          replace g0 := g0.mono hb4
          replace o1 := o1.mono hb4
          obtain ⟨ad1, cp1, rfl, s1, _, _⟩ := o1.sl
          obtain ⟨g, cp2, rfl, _⟩ := o2.open_ y1.out (by omega)
          rw [x1.out]
          have hcl := o2.len.2
          have s2 := o2.take N
          rw [t1.out] at s2
          have y0 := o2.cell (j := 0) (by omega)
          rw [t2.out] at y0
          replace y0 := cell_later' y0
          have c4 : ∀ p' : Later, Calls Try.prog 42 #[.slice (some ⟨g, 0, none⟩) N cp2, .slice ad1 N cp1] (later w4 p') fun e w' => e = .returned (.bool true) ∧ Below (later w4 p').heap.size (later w4 p') w' := fun p' => by
            have := rSame4_any (some ⟨g, 0, none⟩) ad1 cp2 cp1 x x (later w4 p') (s2.mono (below_later _ _)) (s1.mono (below_later _ _)) (by have := x1.out; omega)
            rw [x1.out] at this
            simpa using this
          have r0 := cell_later' (g0.cell (j := 0) (v := .int .u64 p) rfl); have r1 := cell_later' (g0.cell (j := 1) (v := .int .u64 lb) rfl); have r2 := cell_later' (g0.cell (j := 2) (v := .slice ad xs.length c) rfl); have r3 := cell_later' (g0.cell (j := 3) (v := .int .i64 N) rfl)
          have c3' : ∀ p' : Later, Calls Try.prog 38 #[.int .u64 p, .int .u64 lb, .slice ad xs.length c] (later w4 p') fun e w' => e = .returned (.int .u64 a) ∧ Below (later w4 p').heap.size (later w4 p') w' := fun p' => c3 _ ((hs.mono hB).mono (below_later _ _))
          have hgt : (N : Int) < N + k + 1 := by omega
          have hNc : N ≤ cp2 := by omega
          clear o1 o2 s1 s2 c1 c2 c3 hb4 x1 y1 t1 t2
          go_wp2_with fail
          refine wp_region_later Try.mixed (by kernel_rfl) ?_
          repeat (first | go_big_quiet_step (first | (go_at_call 42; exact Calls.later_of (c4 _)) | (go_at_call 38; exact Calls.later_of (c3' _))) | quiet_step (first | (go_at_call 42; exact Calls.later_of (c4 _)) | (go_at_call 38; exact Calls.later_of (c3' _))))
          refine wpQuiet_nil ?_
          intro w5 hb5
          replace hb5 := below_of_later hb5
          go_wp2
          go_ret
          exact ⟨rfl, below2 hB hb5⟩
        · have hv := vld_no hv
          rw [hv]
          go_wp2_with fail
          refine (awake8 _).mono ?_
          rintro ew3 w3 ⟨rfl, hb3⟩
          go_wp2
          go_ret
          exact ⟨rfl, below2 hB hb3⟩
  · have h41 : 40 < xs.length := by omega
    go_wp2_with fail
    refine (awake8 _).mono ?_
    rintro ew2 w2 ⟨rfl, hb2⟩
    go_wp2
    go_ret
    exact ⟨rfl, below2 hB hb2⟩

set_option maxRecDepth 100000 in
theorem lifted (os : Os) (started : os.Started) (H : Type) (enc : TypeId × Value → H) :
    ReturnsInHanded {} Try.checked os 16 .any (Rows.spongePrefixSpec.pre6 enc Try.prog Try.f16 Rows.spongePrefixRow.domain false) (Rows.spongePrefixSpec.post enc Try.prog Try.f16 false true false false) := by
  refine returnsInHanded_of_change (C := Try.checked) own started (by kernel_rfl) Try.func16
    (ChangeSpec.witness6 (enc := enc) (C := Try.checked) false ⟨#[], #[.agg #[.int .u64 0, .int .u64 0, .slice none 0 0, .int .i64 0], .int .u8 0], []⟩ 8 (by kernel_rfl) (by kernel_rfl) (by kernel_rfl) (by kernel_rfl)) ?_
  intro W base args ds gs before hval0 hW hcnd _
  have hval : ∀ (j : Nat) t v, Try.f16.params[j]? = some t → args[j]? = some v → Value.okWide Try.prog W .any base t v := hval0
  have hW' := hW
  obtain ⟨p, q, hA0, hV, rfl, hfz, hnd⟩ := hW
  have hA : DataW.TrodAll enc Try.prog W 0 (fun _ => true) true Try.f16.params.toList args.toList ds p := hA0
  rw [Try.params16] at hA hval
  obtain ⟨v0, vs0, d0, ds0, p0, q0, hargs, rfl, rfl, h0, r0⟩ := trodAll_cons hA
  obtain ⟨v1, vs1, d1, ds1, p1, q1, rfl, rfl, rfl, h1, r1⟩ := trodAll_cons r0
  obtain ⟨rfl, rfl, rfl⟩ := trodAll_nil r1
  obtain rfl : args = #[v0, v1] := by cases args; simp_all
  obtain ⟨rfl, rfl⟩ := trodVars_none hV
  have k0 := h0
  obtain ⟨v0_0, v0_1, v0_2, v0_3, y0_0, y0_1, y0_2, y0_3, n0, rfl, rfl, rfl, t0_0, t0_1, t0_2, t0_3⟩ := Joins.open_agg4 Try.underlying43 (by kernel_rfl) (by kernel_rfl) (hval 0 43 v0 rfl rfl) h0
  obtain ⟨a0_0, e0_0, _, w0_0⟩ := DataW.trod_int Try.underlying22 t0_0
  simp only [List.cons.injEq, and_true] at e0_0
  subst e0_0
  obtain ⟨a0_1, e0_1, _, w0_1⟩ := DataW.trod_int Try.underlying22 t0_1
  simp only [List.cons.injEq, and_true] at e0_1
  subst e0_1
  obtain ⟨ad0_2, cap0_2, xs0_2, rfl, S0_2⟩ := open_slice_f Try.underlying31 Try.underlying22 (by kernel_rfl) t0_2 (fun x hx => hW'.lt x (by simp [hx]))
  obtain ⟨a0_3, e0_3, _, w0_3⟩ := DataW.trod_int Try.underlying3 t0_3
  simp only [List.cons.injEq, and_true] at e0_3
  subst e0_3
  obtain ⟨a1, rfl, rfl, rfl, w1⟩ := open_int Try.underlying5 (hval 1 5 v1 rfl rfl) h1
  clear hA0 hval0
  simp only [List.append_nil] at hW'
  refine (walk a0_0 a0_1 ad0_2 cap0_2 xs0_2 a0_3 a1 W w0_0 w0_1 S0_2 w0_3 w1).mono fun e W' ⟨he, hg⟩ => ?_
  subst he
  exact ⟨_, rfl, post_of_below (pv := []) hW' (fun _ _ _ => (trodAll_cons_mk (shut_bool Try.underlying4 _) trodAll_mk0))
    (fun sp _ hsp => by subst hsp; exact (trodAll_cons_mk (Below.trod Try.laidOut (by kernel_rfl) (of_decide_eq_true (by kernel_rfl)) k0 hg (fun x hx => hW'.lt x (by simp [hx]))) (trodAll_cons_mk (shut_int Try.underlying5 w1) trodAll_mk0))) (fun _ _ => rfl) (by simp) hg⟩

theorem closed : joinedFacts Try.prog 16 Try.f16 Rows.spongePrefixSpec Rows.spongePrefixRow = true := by
  unfold joinedFacts
  rw [Try.mayEnter, Try.liftsFinal, Try.make]
  kernel_rfl

theorem proved : Rows.SpongePrefixSaid :=
  OpenClaim.holds_of_wide 16 Try.f16 rfl rfl rfl rfl rfl rfl rfl ⟨rfl, rfl, rfl, rfl, rfl⟩ rfl rfl rfl rfl rfl (by kernel_rfl) Try.func16 closed
    (of_decide_eq_true (by kernel_rfl)) (by unfold Func.isWrapper; first | (rw [if_pos (by decide +kernel)]; kernel_rfl) | (rw [if_neg (by decide +kernel)]; exact ⟨rfl, rfl⟩))
    (fun os started H enc _ => lifted os started H enc)
#print axioms proved
end spongePrefix
end Go.Proofs.Ytaklpdhhcnnclaa
