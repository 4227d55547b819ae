/- Exhaustive search, reference: Count, Right, Few. -/
import Derived.Test.YtlgjnidphldiiaaExQ
import Derived.Test.YtlgjnidphldiiaaCircS
namespace Go.Proofs.Ytlgjnidphldiiaa
open Go.ChangeShapes Go.WideShapes Go.ChangeAt Go.RowKit

theorem own_one {w : World} {base b : Nat} {x : Int} (g : Blk w b #[.int .u64 x] 22) (hb : base ≤ b) : Own w base 22 .u64 (.slice (some ⟨b, 0, none⟩) 1 1) [x] :=
  Own.of_blk (xs := [x]) hb g (Nat.le_refl _) (by simp [maxLen]) rfl rfl

set_option maxRecDepth 10000 in
set_option maxHeartbeats 16000000 in
theorem rTot_any (p V : Nat) (pub : Int) (ra : Option Addr) (R : List Rw) (rc : Nat) (fa : Option Addr) (fc : Nat) (front : List Int) (most : Int) (w : World) (hp : 17 ≤ p) (h257 : p ≤ 257) (hrow : ∀ r ∈ R, RowOk p V r.val) (hV : V ≤ 65536) (hRl : R.length ≤ 16384) (hR : RowsP w ra rc R) (sF : Sl w .u64 fa front) (hF : ∀ x ∈ front, 0 ≤ x ∧ x < p) (hfl : 1 + front.length ≤ V) (hm : 0 ≤ most ∧ most ≤ 9223372036854775807) :
    Calls Try.prog 62 #[.agg #[.int .u64 p, .int .i64 pub, .int .i64 V, .slice ra R.length rc], .slice fa front.length fc, .int .i64 most] w fun e w' => e = .returned (.int .i64 (totN p (R.map Rw.val) V front most)) ∧ Below w.heap.size w w' := by
  have hFW : ∀ i, AllW (1 :: front.take i) := fun i x hx => by
    rcases List.mem_cons.1 hx with rfl | hx
    · omega
    · have := hF x (List.mem_of_mem_take hx); omega
  have cX := fun i W wa wc h1 h2 h3 => rComplete_any p V pub ra R rc wa wc (1 :: front.take i) W h1 h2 (hFW i) hrow hRl h3
  have cC := fun k hk wa wc W h1 h2 => rCount_any p V pub ra R rc hp h257 hrow hV hRl k (1 :: front.take (front.length + 1)) hk (by simp) (hFW _) wa wc most W h1 h2 hm.1 hm.2
  have htf : front.take (front.length + 1) = front := List.take_of_length_le (by omega)
  rw [htf] at cC
  obtain ⟨n, hnl⟩ : ∃ n, front.length = n := ⟨_, rfl⟩
  rw [hnl] at hfl htf
  rw [hnl]
  have hnI : (n : Int) ≤ 65536 := by omega
  have hVI : (V : Int) ≤ 65536 := by omega
  have hlen : ∀ i, i ≤ n → (1 :: front.take i).length = i + 1 := fun i hi => by rw [List.length_cons, List.length_take]; omega
  have hlenF : ((1 : Int) :: front).length = n + 1 := by rw [List.length_cons, hnl]
  rw [hlenF] at cC
  have hno : ∀ k, k ≤ n → okAt p (R.map Rw.val) (1 :: front.take k) = false → totN p (R.map Rw.val) V front most = 0 := fun k hk h => by
    unfold totN
    rw [preOk_stop (by omega) h]
    rfl
  have hyes : (∀ k, k < n + 1 → okAt p (R.map Rw.val) (1 :: front.take k) = true) → refN p (R.map Rw.val) (V - (1 + n)) (1 :: front) most = totN p (R.map Rw.val) V front most := fun h => by
    have h2 := h n (by omega)
    rw [List.take_of_length_le (by omega)] at h2
    unfold totN refN
    rw [preOk_all (by rw [hnl]; exact h), h2, hnl]
  have hst := fun i (hi : i < front.length) => take_front (front := front) hi
  clear hFW hrow hp h257 hV hRl
  replace hnl := hide hnl
  replace hno := hide hno
  replace hyes := hide hyes
  replace hF := hide hF
  replace hlen := hide hlen
  replace hlenF := hide hlenF
  replace htf := hide htf
  replace hst := hide hst
  go_enter Try.func62, Try.ntmps62
  go_wp2_with fail
  refine name_world fun W hN => ?_
  have g0 : Blk W w.heap.size #[.int .u64 p, .int .i64 pub, .int .i64 V, .slice ra R.length rc] 34 := by rw [hN]; exact (Blk.newAt rfl).alloc _
  have g1 : Blk W (w.heap.size + 1) #[.int .u64 1] 22 := by rw [hN]; exact Blk.newAt (by simp)
  have hB : Below w.heap.size w W := by rw [hN]; exact ((Below.refl _ _).alloc (Nat.le_refl _) _).alloc (by simp) _
  have own0 : Own W w.heap.size 22 .u64 (.slice (some ⟨w.heap.size + 1, 0, none⟩) 1 1) [1] := own_one g1 (by omega)
  clear hN g1
  go_loopw [7, 8] (fun t7 t8 wr => ∃ i : Nat, i ≤ n + 1 ∧ t8 = .int .i64 i ∧ Below w.heap.size w wr ∧ Blk wr w.heap.size #[.int .u64 p, .int .i64 pub, .int .i64 V, .slice ra R.length rc] 34 ∧ Own wr w.heap.size 22 .u64 t7 (1 :: front.take i) ∧ Hid (∀ k, k < i → okAt p (R.map Rw.val) (1 :: front.take k) = true)) (fun _ t8 _ => n + 1 - (intOf t8).toNat)
  case atStart => exact ⟨0, by omega, rfl, hB, g0, own0, hide fun k hk => absurd hk (by omega)⟩
  case round =>
    clear g0 hB own0
    obtain ⟨i, hi, rfl, hB, g0, ow, hok⟩ := hrel
    obtain ⟨va, vc, e7, sl, _, _⟩ := ow.sl
    by_cases hlt : i ≤ n
    · have hltI : (i : Int) ≤ n := by omega
      have hl := hlen.out i hlt
      rw [hl] at e7
      subst e7
      have cA := cX i wr va vc (hR.mono hB) sl (by rw [hl]; omega)
      rw [hl] at cA
      have hno2 := hide (hno.out i hlt)
      have hnx : Hid (okAt p (R.map Rw.val) (1 :: front.take i) = true → ∀ k, k < i + 1 → okAt p (R.map Rw.val) (1 :: front.take k) = true) := hide fun h k hk => by
        by_cases e : k = i
        · subst e; exact h
        · exact hok.out k (by omega)
      generalize okAt p (R.map Rw.val) (1 :: front.take i) = q at *
      have k0 := g0.cell (j := 0) (v := .int .u64 p) rfl; have k1 := g0.cell (j := 1) (v := .int .i64 pub) rfl; have k2 := g0.cell (j := 2) (v := .int .i64 V) rfl; have k3 := g0.cell (j := 3) (v := .slice ra R.length rc) rfl
      replace hl := hide hl
      go_wp2_with fail
      refine cA.mono ?_
      rintro e w3 ⟨rfl, hb3⟩
      replace g0 := g0.mono hb3
      replace hB := below2 hB hb3
      replace ow := ow.mono hb3
      clear hb3 cA k0 k1 k2 k3 cX cC
      cases q with
      | false =>
        have hF2 := hide (hno2.out rfl)
        clear hno2 hnx
        go_wp2
        go_ret
        exact ⟨congrArg (fun x => Ending.returned (.int .i64 x)) hF2.out.symm, hB⟩
      | true =>
        have hN2 := hide (hnx.out rfl)
        clear hno2 hnx
        by_cases hlt2 : i < n
        · have hlt2I : (i : Int) < n := by omega
          have hif : i < front.length := by have := hnl.out; omega
          obtain ⟨b, off, e, _, hfc⟩ := (sF.mono hB) (by omega)
          subst e
          have hc := hfc i hif
          have hst2 := hst.out i hif
          generalize front.getD i 0 = x at *
          clear hfc
          go_wp2_with (at_builtin; refine wpList_appX _ 22 .u64 _ rfl _ _ 54 rfl w.heap.size 8 Try.underlying54 Try.infoU64 (by decide) _ (1 :: front.take i) _ rfl rfl (by simp) ow (by have := hl.out; omega) hB.size ?_; intro v9 w9 own9 hg9; refine Hold.mk ?_)
          refine Hold.go ?_
          have g9 := hg9.blk g0 (own_neq ow g0 (by decide))
          have hB9 := hg9.below hB ow (Nat.le_refl _) hB.size
          rw [← hst2] at own9
          clear hg9 ow hst2
          go_wp2
          go_roundw
          case rel => exact ⟨i + 1, by omega, by go_num, hB9, g9, own9, hN2⟩
          case measure => simp [intOf]; omega
        · have hlt2I : ¬ (i : Int) < n := by omega
          have heq : front.take (i + 1) = front.take i := by
            rw [List.take_of_length_le (by have := hnl.out; omega), List.take_of_length_le (by have := hnl.out; omega)]
          rw [← heq] at ow
          clear heq
          go_wp2
          go_roundw
          case rel => exact ⟨i + 1, by omega, by go_num, hB, g0, ow, hN2⟩
          case measure => simp [intOf]; omega
    · have hltI : ¬ (i : Int) ≤ n := by omega
      obtain rfl : i = n + 1 := by omega
      rw [htf.out] at e7 sl
      rw [hlenF.out] at e7
      subst e7
      have cA := cC (V - (1 + n)) (by omega) va vc wr (hR.mono hB) sl
      have hres := hyes.out hok.out
      rw [hres] at cA
      have k0 := g0.cell (j := 0) (v := .int .u64 p) rfl; have k1 := g0.cell (j := 1) (v := .int .i64 pub) rfl; have k2 := g0.cell (j := 2) (v := .int .i64 V) rfl; have k3 := g0.cell (j := 3) (v := .slice ra R.length rc) rfl
      clear hres
      obtain ⟨z, hz⟩ : ∃ z, totN p (R.map Rw.val) V front most = z := ⟨_, rfl⟩
      rw [hz] at cA
      replace hz := hide hz
      go_wp2_with fail
      refine cA.mono ?_
      rintro e w3 ⟨rfl, hb3⟩
      go_wp2
      go_ret
      exact ⟨congrArg (fun x => Ending.returned (.int .i64 x)) hz.out.symm, below2 hB hb3⟩

def right23 (p pub vars : Int) (R : List Rw) (front : List Int) : Bool := allLt p front && tblOk p pub vars R && decide ((front.length : Int) < vars)
set_option maxRecDepth 10000 in
set_option maxHeartbeats 16000000 in
theorem rRight23_any (p pub vars : Int) (ra : Option Addr) (R : List Rw) (rc : Nat) (fa : Option Addr) (fc : Nat) (front : List Int) (w : World) (hR : RowsP w ra rc R) (sF : Sl w .u64 fa front) (hF : AllW front) (hfl : front.length ≤ 9223372036854775807) :
    Calls Try.prog 59 #[.agg #[.int .u64 p, .int .i64 pub, .int .i64 vars, .slice ra R.length rc], .slice fa front.length fc] w fun e w' => e = .returned (.bool (right23 p pub vars R front)) ∧ Below w.heap.size w w' := by
  have cT := fun W h => rTValid_any p pub vars ra R rc W h
  have hstop : ∀ k, k < front.length → p ≤ front.getD k 0 → right23 p pub vars R front = false := fun k hk h => by
    unfold right23
    rw [allLt_stop hk h]
    rfl
  have hall : (∀ k, k < front.length → front.getD k 0 < p) → right23 p pub vars R front = (tblOk p pub vars R && decide ((front.length : Int) < vars)) := fun h => by
    unfold right23
    rw [allLt_all h, Bool.true_and]
  obtain ⟨res, hres⟩ : ∃ res, right23 p pub vars R front = res := ⟨_, rfl⟩
  rw [hres] at hstop hall
  rw [hres]
  replace hres := hide hres
  obtain ⟨T, hT⟩ : ∃ T, tblOk p pub vars R = T := ⟨_, rfl⟩
  rw [hT] at cT hall
  replace hT := hide hT
  obtain ⟨n, hnl⟩ : ∃ n, front.length = n := ⟨_, rfl⟩
  rw [hnl] at hfl hall hstop
  rw [hnl]
  replace hstop := hide hstop
  replace hall := hide hall
  replace hnl := hide hnl
  replace hfl := hide hfl
  go_enter Try.func59, Try.ntmps59
  go_wp2_with fail
  refine name_world fun W hN => ?_
  have g0 : Blk W w.heap.size #[.int .u64 p, .int .i64 pub, .int .i64 vars, .slice ra R.length rc] 34 := by rw [hN]; exact Blk.newAt rfl
  have hB : Below w.heap.size w W := by rw [hN]; exact (Below.refl _ _).alloc (Nat.le_refl _) _
  clear hN
  go_loopw [5] (fun t5 wr => ∃ i : Nat, i ≤ n ∧ t5 = .int .i64 i ∧ Below w.heap.size w wr ∧ Blk wr w.heap.size #[.int .u64 p, .int .i64 pub, .int .i64 vars, .slice ra R.length rc] 34 ∧ Hid (∀ k, k < i → front.getD k 0 < p)) (fun t5 _ => n - (intOf t5).toNat)
  case atStart => exact ⟨0, Nat.zero_le _, rfl, hB, g0, hide fun k hk => absurd hk (by omega)⟩
  case round =>
    clear g0 hB
    obtain ⟨i, hi, rfl, hB, g0, hk⟩ := hrel
    by_cases hlt : i < n
    · have hltI : (i : Int) < n := by omega
      have hif : i < front.length := by have := hnl.out; omega
      obtain ⟨b, off, rfl, _, hfc⟩ := (sF.mono hB) (by omega)
      have hc := cell_later' (hfc i hif)
      have hxr := hF.get hif
      have hst := hide (hstop.out i hlt)
      have hnx : Hid (front.getD i 0 < p → ∀ k, k < i + 1 → front.getD k 0 < p) := hide fun h k hk2 => by
        by_cases e : k = i
        · subst e; exact h
        · exact hk.out k (by omega)
      generalize front.getD i 0 = x at *
      have k0 := cell_later' (g0.cell (j := 0) (v := .int .u64 p) rfl)
      have hrs := hide (rel_succ hlt hfl.out)
      have hms := hide (meas_succ hlt hfl.out)
      clear hfc hk
      by_cases hx : p ≤ x
      · have hF2 := hide (hst.out hx)
        clear hst hnx
        go_wp2_with fail
        refine wp_region_later Try.mixed (by kernel_rfl) ?_
        repeat (first | go_big_quiet_step (first | fail) | quiet_step (first | fail))
        refine wpQuiet_nil ?_
        intro w3 hb3
        replace hb3 := below_of_later hb3
        go_wp2
        go_ret
        exact ⟨ret_bool hF2.out.symm, below2 hB hb3⟩
      · have hN2 := hide (hnx.out (by omega))
        clear hst hnx
        go_wp2_with fail
        refine wp_region_later Try.mixed (by kernel_rfl) ?_
        repeat (first | go_big_quiet_step (first | fail) | quiet_step (first | fail))
        refine wpQuiet_nil ?_
        intro w3 hb3
        replace hb3 := below_of_later hb3
        replace hB := below2 hB hb3
        replace g0 := g0.mono hb3
        clear hb3 k0 hc
        go_wp2
        go_roundw
        case rel => exact ⟨i + 1, by omega, hrs.out, hB, g0, hN2⟩
        case measure => exact hms.out
    · obtain rfl : i = n := by omega
      have hF2 := hide (hall.out hk.out)
      have k0 := g0.cell (j := 0) (v := .int .u64 p) rfl; have k1 := g0.cell (j := 1) (v := .int .i64 pub) rfl; have k2 := g0.cell (j := 2) (v := .int .i64 vars) rfl; have k3 := g0.cell (j := 3) (v := .slice ra R.length rc) rfl
      go_wp2_with fail
      refine (cT wr (hR.mono hB)).mono ?_
      rintro e w3 ⟨rfl, hb3⟩
      replace g0 := g0.mono hb3
      replace hB := below2 hB hb3
      clear hb3 cT k0 k1 k2 k3
      have k2 := g0.cell (j := 2) (v := .int .i64 vars) rfl
      cases T with
      | false =>
        go_wp2
        go_ret
        exact ⟨ret_bool (by rw [hF2.out]; rfl), hB⟩
      | true =>
        go_wp2
        go_ret
        exact ⟨ret_bool (by rw [hF2.out]; rfl), hB⟩

/-- What Few answers. -/
def fewB (p V given : Nat) (R : List Rw) : Bool := decide (p ≤ 257) && decide (p ^ (V - (1 + given)) ≤ 6000) && smT R && decide (R.length ≤ 30)
set_option maxRecDepth 10000 in
set_option maxHeartbeats 16000000 in
theorem rFew_any (p V given : Nat) (pub : Int) (ra : Option Addr) (R : List Rw) (rc : Nat) (w : World) (hR : RowsP w ra rc R) (hp : 17 ≤ p) (hV : V ≤ 65536) (hg : 1 + given ≤ V) :
    Calls Try.prog 60 #[.agg #[.int .u64 p, .int .i64 pub, .int .i64 V, .slice ra R.length rc], .int .i64 given] w fun e w' => e = .returned (.bool (fewB p V given R)) ∧ Below w.heap.size w w' := by
  have cS := fun W h => tSmall_any p pub V ra R rc W h
  obtain ⟨sm, hsm⟩ : ∃ sm, smT R = sm := ⟨_, rfl⟩
  rw [hsm] at cS
  have hRl := hide (rows_len hR)
  have hpI : 17 ≤ (p : Int) := by omega
  have hVI : (V : Int) ≤ 65536 := by omega
  have hgI : 1 + (given : Int) ≤ V := by omega
  by_cases h257 : p ≤ 257
  · have h257I : (p : Int) ≤ 257 := by omega
    have hstop : ∀ j, 1 + given + j ≤ V → 6000 < p ^ j → fewB p V given R = false := fun j hj h => by
      have : p ^ j ≤ p ^ (V - (1 + given)) := Nat.pow_le_pow_right (by omega) (by omega)
      unfold fewB
      rw [decide_eq_false (show ¬ p ^ (V - (1 + given)) ≤ 6000 by omega), Bool.and_false]
      rfl
    have hall : p ^ (V - (1 + given)) ≤ 6000 → fewB p V given R = (sm && decide (R.length ≤ 30)) := fun h => by
      unfold fewB
      rw [decide_eq_true h, decide_eq_true h257, hsm]
      rfl
    obtain ⟨res, hres⟩ : ∃ res, fewB p V given R = res := ⟨_, rfl⟩
    rw [hres] at hstop hall
    rw [hres]
    replace hres := hide hres
    replace hsm := hide hsm
    replace hstop := hide hstop
    replace hall := hide hall
    obtain ⟨u, hu⟩ : ∃ u : Nat, u = 1 + given := ⟨_, rfl⟩
    have huI : 1 + (given : Int) = u := by omega
    have hwu : IntKind.i64.wrap (u : Int) = u := by rw [IntKind.wrap_i64]; omega
    rw [← hu] at hstop hall hg
    clear hgI
    replace hu := hide hu
    go_enter Try.func60, Try.ntmps60
    go_wp2_with fail
    refine name_world fun W hN => ?_
    have g0 : Blk W w.heap.size #[.int .u64 p, .int .i64 pub, .int .i64 V, .slice ra R.length rc] 34 := by rw [hN]; exact Blk.newAt rfl
    have hB : Below w.heap.size w W := by rw [hN]; exact (Below.refl _ _).alloc (Nat.le_refl _) _
    clear hN
    go_loopw [5, 6] (fun t5 t6 wr => ∃ j N : Nat, u + j ≤ V ∧ t6 = .int .i64 ((u + j : Nat) : Int) ∧ t5 = .int .u64 N ∧ N ≤ 6000 ∧ Hid (N = p ^ j) ∧ wr = W) (fun _ t6 _ => V - (intOf t6).toNat)
    case atStart => exact ⟨0, 1, by omega, rfl, rfl, by omega, hide rfl, rfl⟩
    case round =>
      obtain ⟨j, N, hj, rfl, rfl, hN6, hN, rfl⟩ := hrel
      have k0 := g0.cell (j := 0) (v := .int .u64 p) rfl; have k1 := g0.cell (j := 1) (v := .int .i64 pub) rfl; have k2 := g0.cell (j := 2) (v := .int .i64 V) rfl; have k3 := g0.cell (j := 3) (v := .slice ra R.length rc) rfl
      obtain ⟨i, hi⟩ : ∃ i, i = u + j := ⟨_, rfl⟩
      rw [← hi]
      rw [← hi] at hj
      by_cases hlt : i < V
      · have hltI : (i : Int) < V := by omega
        obtain ⟨M, hM⟩ : ∃ M, M = N * p := ⟨_, rfl⟩
        have hMb : M ≤ 6000 * 257 := by rw [hM]; exact Nat.mul_le_mul hN6 h257
        have hMI : (N : Int) * p = M := by rw [hM, Int.natCast_mul]
        have hwM : IntKind.u64.wrap (M : Int) = M := by rw [IntKind.wrap_u64]; omega
        have hMp : Hid (M = p ^ (j + 1)) := hide (by rw [hM, hN.out, Nat.pow_succ])
        replace hi := hide hi
        replace hM := hide hM
        by_cases hbig : 6000 < M
        · have hbigI : (6000 : Int) < M := by omega
          have hF2 := hide (hstop.out (j + 1) (by have := hi.out; omega) (by rw [← hMp.out]; exact hbig))
          go_wp2
          go_ret
          exact ⟨ret_bool hF2.out.symm, hB⟩
        · have hbigI : ¬ (6000 : Int) < M := by omega
          go_wp2
          go_roundw
          case rel => exact ⟨j + 1, M, by have := hi.out; omega, by have := hi.out; go_num, rfl, by omega, hMp, trivial⟩
          case measure => simp [intOf]; omega
      · obtain rfl : i = V := by omega
        have hF2 := hide (hall.out (by rw [show i - u = j by omega, ← hN.out]; exact hN6))
        replace hi := hide hi
        go_wp2_with fail
        refine (cS wr (hR.mono hB)).mono ?_
        rintro e w3 ⟨rfl, hb3⟩
        replace g0 := g0.mono hb3
        replace hB := below2 hB hb3
        clear hb3 cS k0 k1 k2 k3
        have k3 := g0.cell (j := 3) (v := .slice ra R.length rc) rfl
        cases sm with
        | false =>
          go_wp2
          go_ret
          exact ⟨ret_bool (by rw [hF2.out]; rfl), hB⟩
        | true =>
          by_cases h30 : R.length ≤ 30
          · have h30I : (R.length : Int) ≤ 30 := by omega
            go_wp2
            go_ret
            exact ⟨ret_bool (by rw [hF2.out, decide_eq_true h30]; rfl), hB⟩
          · have h30I : ¬ (R.length : Int) ≤ 30 := by omega
            go_wp2
            go_ret
            exact ⟨ret_bool (by rw [hF2.out, decide_eq_false h30, decide_eq_false (show ¬ (R.length : Int) ≤ 30 by omega)]; rfl), hB⟩
  · have h257I : (257 : Int) < p := by omega
    have hF2 := hide (show fewB p V given R = false by unfold fewB; rw [decide_eq_false h257, Bool.false_and, Bool.false_and, Bool.false_and])
    replace hsm := hide hsm
    go_enter Try.func60, Try.ntmps60
    go_wp2
    go_ret
    exact ⟨ret_bool hF2.out.symm, (Below.refl _ _).alloc (Nat.le_refl _) _⟩
end Go.Proofs.Ytlgjnidphldiiaa
