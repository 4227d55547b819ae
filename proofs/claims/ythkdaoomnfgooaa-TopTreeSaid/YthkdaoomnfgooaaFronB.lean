/- Frontiers: Append of the reference. -/
import Derived.Test.YthkdaoomnfgooaaFronA
namespace Go.Proofs.Ythkdaoomnfgooaa
open Go.RowKit

theorem rUpon_allocF (W : World) (p : Later) (fr : Bool) (T : TypeId) :
    Rel.rUpon Try.prog (later W p) fr (NewA W.heap.size #[.int .i64 0, .int .i64 0, .slice none 0 0] T) (.ok (.value (.pointer (some ⟨(later W p).heap.size, 0, none⟩))) ((later W p).alloc (.cells #[.int .i64 0, .int .i64 0, .slice none 0 0] T))) :=
  ⟨(Below.refl _ _).alloc (Nat.le_refl _) _, ⟨_, rfl, (below_later W p).size, Blk.new _ _ _⟩, fun _ => ⟨_, rfl, Nat.le_refl _, by simp⟩⟩

set_option maxRecDepth 10000 in
set_option maxHeartbeats 4000000 in
theorem rAppend36_any (d c x : Int) (ad : Option Addr) (cap : Nat) (L : List Int) (w : World) (hx : 0 ≤ x ∧ x < 18446744073709551616) (hs : Sl w .u64 ad L) (hw : AllW L) (hl : L.length < 1099511627776) (c1 : c < 9223372036854775808) :
    Calls Try.prog 33 #[.agg #[.int .i64 d, .int .i64 c, .slice ad L.length cap], .int .u64 x] w (RetA w (appD d c L x) (appC d c L x) (appF d c L x) (appE d c L x)) := by
  have cV := fun (W : World) hs => rValid36_any d c ad cap L W hs hw hl c1
  have hbig : big = 18446744069414584321 := rfl
  by_cases hv : fvld d c L = true
  · rw [hv] at cV
    by_cases h1 : x < big
    · have hv2 := of_decide_eq_true hv
      obtain ⟨d1, d2, c0, c2, hll, _⟩ := hv2
      obtain ⟨n, rfl⟩ := Int.eq_ofNat_of_zero_le (show 0 ≤ d by omega)
      obtain ⟨q, rfl⟩ := Int.eq_ofNat_of_zero_le c0
      rw [Int.toNat_natCast] at c2
      have hlN : L.length = n + 1 := by omega
      obtain ⟨p1, p2⟩ := pow_le12 (show n ≤ 12 by omega)
      have epow : ((2 : Int) ^ n) = ((2 ^ n : Nat) : Int) := (Int.natCast_pow 2 n).symm
      rw [epow] at c2
      obtain ⟨M, hM⟩ : ∃ M : Nat, M = 2 ^ n := ⟨_, rfl⟩
      have hwp : IntKind.i64.wrap ((2 : Int) ^ n) = M := by rw [epow, ← hM, IntKind.wrap_i64]; omega
      by_cases hful : q = M
      · have e0 : appOk n q L x = false := by
          unfold appOk
          rw [Int.toNat_natCast, epow, ← hM, hful]
          simp
        have e1 : appD n q L x = 0 := by unfold appD; rw [e0]; rfl
        have e2 : appC n q L x = 0 := by unfold appC; rw [e0]; rfl
        have e3 : appF n q L x = [] := by unfold appF; rw [e0]; rfl
        have e4 : appE n q L x = 16 := by
          unfold appE
          rw [hv, decide_eq_true h1, Int.toNat_natCast, epow, ← hM, hful]
          simp
        rw [e1, e2, e3, e4]
        have hqe : ((q : Int) == (M : Int)) = true := by rw [hful]; simp
        rw [hbig] at h1
        clear e0 e1 e2 e3 e4 c1 c0 hv hbig epow hlN hll p1 p2 c2
        replace hM := hide hM
        replace hful := hide hful
        go_enter Try.func33, Try.ntmps33
        go_wp2_with fail
        refine name_calls fun W hW => ?_
        have g0 : Blk W w.heap.size #[.int .i64 n, .int .i64 q, .slice ad L.length cap] 24 := by rw [hW]; exact (Blk.newAt rfl).alloc _
        have g1 : Blk W (w.heap.size + 1) #[.int .i64 0, .int .i64 0, .slice none 0 0] 24 := by rw [hW]; exact Blk.newAt (by simp)
        have hB : Below w.heap.size w W := by rw [hW]; exact ((Below.refl _ _).alloc (Nat.le_refl _) _).alloc (by simp) _
        clear hW
        refine (cV W (hs.mono hB)).mono ?_
        rintro e w1 ⟨rfl, hb1⟩
        replace g0 := g0.mono hb1
        replace g1 := g1.mono hb1
        replace hB := below2 hB hb1
        clear cV hb1
        go_wp2_with fail
        have k0 := cell_later' (g0.cell (j := 0) (v := .int .i64 n) rfl); have k1 := cell_later' (g0.cell (j := 1) (v := .int .i64 q) rfl)
        refine wp_region_later Try.mixed (by kernel_rfl) ?_
        repeat (first | go_big_quiet_step (first | fail) | quiet_step (first | fail))
        refine wpQuiet_nil ?_
        intro w3 hb3
        replace hb3 := below_of_later hb3
        replace g1 := g1.mono hb3
        replace hB := below2 hB hb3
        clear k0 k1 hb3
        have y0 := g1.cell (j := 0) (v := .int .i64 0) rfl; have y1 := g1.cell (j := 1) (v := .int .i64 0) rfl; have y2 := g1.cell (j := 2) (v := .slice none 0 0) rfl
        have f := g1.free
        have l2 := g1.lt
        go_wp2
        exact bodyPost_ret (v := .tuple #[.agg #[.int .i64 0, .int .i64 0, .slice none 0 0], .int .i64 16]) (by simp [results, Try.results33, go_sem, y0, y1, y2]) rfl ⟨_, rfl, Own.nil _ _ _ _, below_set3 hB (by omega) _ _ _⟩
      · have hq : q < M := by omega
        have e0 : appOk n q L x = true := by
          unfold appOk
          rw [hv, decide_eq_true h1, Int.toNat_natCast, epow, ← hM]
          simp; omega
        have e1 : appD n q L x = n := by unfold appD; rw [e0]; rfl
        have e2 : appC n q L x = q + 1 := by unfold appC; rw [e0]; rfl
        have e3 : appF n q L x = appL q L x := by unfold appF; rw [e0]; rfl
        have e4 : appE n q L x = 0 := by
          unfold appE
          rw [hv, decide_eq_true h1, Int.toNat_natCast, epow, ← hM]
          simp; omega
        rw [e1, e2, e3, e4]
        have hqe : ((q : Int) == (M : Int)) = false := by rw [beq_eq_false_iff_ne]; omega
        have hblt : Hid (∀ i, q / 2 ^ i % 2 = 1 → i < n) := hide fun i h => bit_lt (by rw [← hM]; exact hq) h
        have hq4 : q < 4096 := by omega
        have hn12 : n ≤ 12 := by omega
        have hwq : IntKind.i64.wrap ((q : Int) + 1) = q + 1 := by rw [IntKind.wrap_i64]; omega
        obtain ⟨R, hR⟩ : ∃ R, R = appL q L x := ⟨_, rfl⟩
        rw [← hR]
        have hst0 : Hid (List.replicate 0 0 ++ appL (q / 2 ^ 0) (L.drop 0) x = R) := hide (by rw [hR]; simp)
        rw [hbig] at h1
        clear e0 e1 e2 e3 e4 c1 c0 hv hbig epow hll p1 p2 c2 hR d1 d2
        replace hM := hide hM
        replace hq := hide hq
        clear hful
        replace hlN := hide hlN
        go_enter Try.func33, Try.ntmps33
        go_wp2_with fail
        refine name_calls fun W hW => ?_
        have g0 : Blk W w.heap.size #[.int .i64 n, .int .i64 q, .slice ad L.length cap] 24 := by rw [hW]; exact (Blk.newAt rfl).alloc _
        have g1 : Blk W (w.heap.size + 1) #[.int .i64 0, .int .i64 0, .slice none 0 0] 24 := by rw [hW]; exact Blk.newAt (by simp)
        have hB : Below w.heap.size w W := by rw [hW]; exact ((Below.refl _ _).alloc (Nat.le_refl _) _).alloc (by simp) _
        have hz : w.heap.size + 2 ≤ W.heap.size := by rw [hW]; simp
        clear hW
        refine (cV W (hs.mono hB)).mono ?_
        rintro e w1 ⟨rfl, hb1⟩
        replace hz := Nat.le_trans hz hb1.size
        replace g0 := g0.mono hb1
        replace g1 := g1.mono hb1
        replace hB := below2 hB hb1
        clear cV hb1
        go_wp2_with fail
        have k0 := cell_later' (g0.cell (j := 0) (v := .int .i64 n) rfl); have k1 := cell_later' (g0.cell (j := 1) (v := .int .i64 q) rfl)
        refine wp_region_later Try.mixed (by kernel_rfl) ?_
        repeat (first | go_big_quiet_step (first | fail) | quiet_step (first | fail))
        refine wpQuiet_nil ?_
        intro w3 hb3
        replace hb3 := below_of_later hb3
        replace hz := Nat.le_trans hz hb3.size
        replace g0 := g0.mono hb3
        replace g1 := g1.mono hb3
        replace hB := below2 hB hb3
        clear k0 k1 hb3 hqe hwp
        go_wp2_with fail
        have k0 := cell_later' (g0.cell (j := 0) (v := .int .i64 n) rfl); have k1 := cell_later' (g0.cell (j := 1) (v := .int .i64 q) rfl); have k2 := cell_later' (g0.cell (j := 2) (v := .slice ad L.length cap) rfl)
        refine Rel.wp_region_mix 11 [] [(5, NewE w3.heap.size 30), (8, fun v w => Own w w3.heap.size 30 .u64 v L), (9, fun v w => ∃ u, v = .agg #[.int .i64 n, .int .i64 (q + 1), u] ∧ Own w w3.heap.size 30 .u64 u L), (10, NewA w3.heap.size #[.int .i64 0, .int .i64 0, .slice none 0 0] 24)] Try.mixed (by kernel_rfl) (by kernel_rfl) ?_ ?_
        rotate_left
        simp only [List.take_succ_cons, List.take_zero, List.drop_succ_cons, List.drop_zero, List.map_cons, List.map_nil]
        repeat (first | (refine Rel.wpA_b (by rfl) ?_) | (refine Rel.wpA_step (by rfl) fun K hK => ?_; go_simp; first | (refine hK _ ?_; clear hK K) | (apply Exists.intro; refine ⟨fun _ => ?_, hK _ ?_⟩; (first | fail); clear hK K)))
        refine Rel.wpA_nil ?_
        rotate_left
        · intro z hz v u u' h1 h2
          simp only [List.mem_cons, List.not_mem_nil, or_false] at hz
          rcases hz with rfl | rfl | rfl | rfl
          · exact NewE.keep h1 h2
          · exact Own.mono h1 h2
          · obtain ⟨z, h3, h4⟩ := h1
            exact ⟨z, h3, h4.mono h2⟩
          · exact NewA.keep h1 h2
        refine Rel.wpB_step _ rfl rfl (fun p' hc => ?_) (fun v5 => ?_)
        · go_simp
          exact rUpon_newe _ _ _
        refine Rel.wpB_step _ rfl rfl (fun p' hc => ?_) (fun v8 => ?_)
        · have h4 : NewE w3.heap.size 30 v5 (later w3 p') := hc _ (List.Mem.head _) (by kernel_rfl)
          exact rUpon_app0 _ _ 22 rfl (bytes := 8) Try.underlying22 Try.infoU64 (by decide) h4 rfl rfl ((hs.mono hB).mono (below_later _ _)) hl
        refine Rel.wpB_step _ rfl rfl (fun p' hc => ?_) (fun v9 => ?_)
        · have h8 : Own (later w3 p') w3.heap.size 30 .u64 v8 L := hc _ (List.Mem.tail _ (List.Mem.head _)) (by kernel_rfl)
          obtain ⟨a8, c8, rfl, _, _, _⟩ := Own.sl h8
          go_simp
          exact ⟨Below.refl _ _, ⟨_, rfl, h8⟩, fun h => by cases h⟩
        refine Rel.wpB_step _ rfl rfl (fun p' hc => ?_) (fun v10 => ?_)
        · go_simp
          exact rUpon_allocF _ _ _ _
        refine Rel.wpB_nil ?_
        intro p' hctx hfr
        simp only [List.nil_append, List.cons_append, List.mem_cons, List.not_mem_nil, or_false, forall_eq_or_imp, forall_eq] at hctx
        obtain ⟨_, _, ⟨u, rfl, hown⟩, bo, rfl, nbo, go⟩ := hctx
        have hb4 : Below w3.heap.size w3 (later w3 p') := below_later _ _
        clear hfr k0 k1 k2
        generalize later w3 p' = w4 at *
        replace g0 := g0.mono hb4
        replace g1 := g1.mono hb4
        replace hB := below2 hB hb4
        replace hown := hown.low hz
        replace nbo := Nat.le_trans hz nbo
        clear hb4 hz
        obtain ⟨ga, gc, rfl, _, _, _⟩ := Own.sl hown
        obtain ⟨g, rfl⟩ : ∃ g, ga = some ⟨g, 0, none⟩ := by
          rcases hown.form with ⟨_, h0⟩ | ⟨g, _, _, he, _⟩
          · have := hlN.out
            rw [h0] at this; cases this
          · injection he with he
            exact ⟨g, he⟩
        have hg2 := (hown.lt (b := g) rfl).1
        have hgo : g ≠ bo := by
          rintro rfl
          rcases hown.form with ⟨h0, _⟩ | ⟨g', _, cur, he, _, hgb, _⟩
          · cases h0
          · injection he with he
            injection he with he
            injection he with he
            subst he
            have := hgb.symm.trans go
            injection this with this
            injection this with _ this
            cases this
        have hno : (Value.slice (some ⟨g, 0, none⟩) L.length gc).ownBlock ≠ some bo := fun e => hgo (by injection e)
        have hbo1 : bo ≠ w.heap.size + 1 := by omega
        have hbo0 : bo ≠ w.heap.size := by omega
        have y0 := go.cell (j := 0) (v := .int .i64 0) rfl; have y1 := go.cell (j := 1) (v := .int .i64 0) rfl; have y2 := go.cell (j := 2) (v := .slice none 0 0) rfl
        have f := go.free
        have l2 := go.lt
        go_wp2_with fail
        have hB' := below_set3 hB (show w.heap.size ≤ bo by omega) (.int .i64 n) (.int .i64 (q + 1)) (.slice (some ⟨g, 0, none⟩) L.length gc)
        have g0' := g0.other3 hbo0 (.int .i64 n) (.int .i64 (q + 1)) (.slice (some ⟨g, 0, none⟩) L.length gc)
        have g1' := g1.other3 hbo1 (.int .i64 n) (.int .i64 (q + 1)) (.slice (some ⟨g, 0, none⟩) L.length gc)
        have go' := Blk.set3 go (x := .int .i64 n) (y := .int .i64 (q + 1)) (z := .slice (some ⟨g, 0, none⟩) L.length gc)
        have hown0 : Own (((w4.setCell ⟨bo, 0, none⟩ (.int .i64 n)).setCell ⟨bo, 1, none⟩ (.int .i64 (q + 1))).setCell ⟨bo, 2, none⟩ (.slice (some ⟨g, 0, none⟩) L.length gc)) (w.heap.size + 2) 30 .u64 (.slice (some ⟨g, 0, none⟩) L.length gc) (appS 0 L) := by
          have := ((hown.other (j := 0) hno (.int .i64 n)).other (j := 1) hno (.int .i64 (q + 1))).other (j := 2) hno (.slice (some ⟨g, 0, none⟩) L.length gc)
          simpa [appS] using this
        clear hown y0 y1 y2 f l2 g0 g1 hB go
        go_loopw [7, 8] (fun t7 t8 wr => ∃ i : Nat, i ≤ n ∧ t8 = .int .i64 i ∧ (∃ y : Int, (0 ≤ y ∧ y < 18446744073709551616) ∧ t7 = .int .u64 y ∧ Hid (List.replicate i 0 ++ appL (q / 2 ^ i) (L.drop i) y = R)) ∧ Below w.heap.size w wr ∧ Blk wr w.heap.size #[.int .i64 n, .int .i64 q, .slice ad L.length cap] 24 ∧ Blk wr (w.heap.size + 1) #[.int .i64 0, .int .i64 0, .slice none 0 0] 24 ∧ Blk wr bo #[.int .i64 n, .int .i64 (q + 1), .slice (some ⟨g, 0, none⟩) L.length gc] 24 ∧ Own wr (w.heap.size + 2) 30 .u64 (.slice (some ⟨g, 0, none⟩) L.length gc) (appS i L)) (fun _ t8 _ => n - (intOf t8).toNat)
        case atStart => exact ⟨0, by omega, rfl, ⟨x, hx, rfl, hst0⟩, hB', g0', g1', go', hown0⟩
        case round =>
          clear hst0 hown0 g0' g1' hB' go'
          obtain ⟨i, hi, rfl, ⟨y, hy, rfl, hst⟩, hB, g0, g1, go, hown⟩ := hrel
          have hiL : i < L.length := by have := hlN.out; omega
          have cb := fun W : World => bit_any q i W (by omega)
          have hbl := hblt.out i
          have hyb := hw.get hiL
          have hgi := appS_get hiL
          have hse := appS_set hiL
          have hs1 := appS_step (q := q) (x := y) hiL
          have hs2 := appS_end (q := q) (x := y) hiL
          obtain ⟨z, hz⟩ : ∃ z, z = L.getD i 0 := ⟨_, rfl⟩
          rw [← hz] at hyb hs1 hgi
          obtain ⟨r, hr⟩ : ∃ r, r = q / 2 ^ i % 2 := ⟨_, rfl⟩
          rw [← hr] at hbl hs1 hs2 cb
          have hr2 : r = 0 ∨ r = 1 := by omega
          have k1 := g0.cell (j := 1) (v := .int .i64 q) rfl
          replace hz := hide hz
          replace hr := hide hr
          rcases hr2 with rfl | rfl
          · have hfin : Hid ((appS i L).set i y = R) := hide (by rw [hs2 (by decide), hst.out])
            clear hs1 hs2 hst hbl hse hgi
            go_wp2_with fail
            refine (cb _).mono ?_
            rintro ew5 w5 ⟨rfl, hb5⟩
            clear cb
            replace g1 := g1.mono hb5
            replace go := go.mono hb5
            replace hown := hown.mono hb5
            replace hB := below2 hB hb5
            clear hb5 k1 g0
            have hown2 := hown.set i y
            rw [hfin.out] at hown2
            have hfr := hown.free i
            have hc := hown.cell hiL
            have hgne1 : g ≠ w.heap.size + 1 := by omega
            have G1 := g1.other hgne1 i (.int .u64 y)
            have GO := go.other hgo i (.int .u64 y)
            have GB : Below w.heap.size w (w5.setCell ⟨g, i, none⟩ (.int .u64 y)) := hB.setCell (show w.heap.size ≤ g by omega) _
            have m2 := go.cell (j := 2) (v := .slice (some ⟨g, 0, none⟩) L.length gc) rfl
            have n0 := GO.cell (j := 0) (v := .int .i64 n) rfl
            have n1 := GO.cell (j := 1) (v := .int .i64 (q + 1)) rfl
            have n2 := GO.cell (j := 2) (v := .slice (some ⟨g, 0, none⟩) L.length gc) rfl
            have y0 := G1.cell (j := 0) (v := .int .i64 0) rfl; have y1 := G1.cell (j := 1) (v := .int .i64 0) rfl; have y2 := G1.cell (j := 2) (v := .slice none 0 0) rfl
            have f := G1.free
            go_wp2
            have hn : (Value.slice (some ⟨g, 0, none⟩) L.length gc).ownBlock ≠ some (w.heap.size + 1) := fun e => by have := (hown2.lt e).1; omega
            exact bodyPost_ret (v := .tuple #[.agg #[.int .i64 n, .int .i64 (q + 1), .slice (some ⟨g, 0, none⟩) L.length gc], .int .i64 0]) (by simp [results, Try.results33, go_sem, y0, y1, y2]) rfl ⟨_, rfl, (((hown2.other hn _).other hn _).other hn _).low (by omega), below_set3 GB (by omega) _ _ _⟩
          · have hnext : Hid (List.replicate (i + 1) 0 ++ appL (q / 2 ^ (i + 1)) (L.drop (i + 1)) (nd z y) = R) := hide (by rw [← hs1 rfl, hst.out])
            have hin := hbl rfl
            have hn1 := nd_bd z y
            clear hs1 hs2 hst hbl
            replace hse := hide hse
            go_wp2_with fail
            refine (cb _).mono ?_
            rintro ew5 w5 ⟨rfl, hb5⟩
            clear cb
            replace g0 := g0.mono hb5
            replace g1 := g1.mono hb5
            replace go := go.mono hb5
            replace hown := hown.mono hb5
            replace hB := below2 hB hb5
            clear hb5 k1
            have hc := hown.cell hiL
            rw [hgi] at hc
            have m2 := go.cell (j := 2) (v := .slice (some ⟨g, 0, none⟩) L.length gc) rfl
            go_wp2_with fail
            refine (rNode_any z y _ hyb hy).mono ?_
            rintro ew6 w6 ⟨rfl, hb6⟩
            clear hc m2
            replace g0 := g0.mono hb6
            replace g1 := g1.mono hb6
            replace go := go.mono hb6
            replace hown := hown.mono hb6
            replace hB := below2 hB hb6
            clear hb6
            have m2 := go.cell (j := 2) (v := .slice (some ⟨g, 0, none⟩) L.length gc) rfl
            have hfr := hown.free i
            have hc := hown.cell hiL
            have hgne : g ≠ w.heap.size := by omega
            have hgne1 : g ≠ w.heap.size + 1 := by omega
            have H0 := g0.other hgne i (.int .u64 0)
            have H1 := g1.other hgne1 i (.int .u64 0)
            have H2 := go.other hgo i (.int .u64 0)
            have HB : Below w.heap.size w (w6.setCell ⟨g, i, none⟩ (.int .u64 0)) := hB.setCell (show w.heap.size ≤ g by omega) _
            have HO := hown.set i 0
            rw [hse.out] at HO
            clear hown g0 g1 hB go hgi
            go_wp2
            go_roundw
            case rel => exact ⟨i + 1, by omega, by go_num, ⟨_, hn1, rfl, hide hnext.out⟩, HB, H0, H1, H2, HO⟩
            case measure => simp [intOf]; omega
    · have e0 : appOk d c L x = false := by unfold appOk; rw [decide_eq_false h1]; simp
      have e1 : appD d c L x = 0 := by unfold appD; rw [e0]; rfl
      have e2 : appC d c L x = 0 := by unfold appC; rw [e0]; rfl
      have e3 : appF d c L x = [] := by unfold appF; rw [e0]; rfl
      have e4 : appE d c L x = 1 := by unfold appE; rw [decide_eq_false h1]; simp
      rw [e1, e2, e3, e4]
      rw [hbig] at h1
      have h1' : 18446744069414584321 ≤ x := by omega
      clear e0 e1 e2 e3 e4 c1 hv hbig h1
      go_enter Try.func33, Try.ntmps33
      go_wp2_with fail
      refine name_calls fun W hW => ?_
      have g1 : Blk W (w.heap.size + 1) #[.int .i64 0, .int .i64 0, .slice none 0 0] 24 := by rw [hW]; exact Blk.newAt (by simp)
      have hB : Below w.heap.size w W := by rw [hW]; exact ((Below.refl _ _).alloc (Nat.le_refl _) _).alloc (by simp) _
      clear hW
      refine (cV W (hs.mono hB)).mono ?_
      rintro e w1 ⟨rfl, hb1⟩
      replace g1 := g1.mono hb1
      replace hB := below2 hB hb1
      clear cV hb1
      have y0 := g1.cell (j := 0) (v := .int .i64 0) rfl; have y1 := g1.cell (j := 1) (v := .int .i64 0) rfl; have y2 := g1.cell (j := 2) (v := .slice none 0 0) rfl
      have f := g1.free
      have l2 := g1.lt
      go_wp2
      exact bodyPost_ret (v := .tuple #[.agg #[.int .i64 0, .int .i64 0, .slice none 0 0], .int .i64 1]) (by simp [results, Try.results33, go_sem, y0, y1, y2]) rfl ⟨_, rfl, Own.nil _ _ _ _, below_set3 hB (by omega) _ _ _⟩
  · replace hv : fvld d c L = false := by simpa using hv
    rw [hv] at cV
    have e0 : appOk d c L x = false := by unfold appOk; rw [hv]; simp
    have e1 : appD d c L x = 0 := by unfold appD; rw [e0]; rfl
    have e2 : appC d c L x = 0 := by unfold appC; rw [e0]; rfl
    have e3 : appF d c L x = [] := by unfold appF; rw [e0]; rfl
    have e4 : appE d c L x = 1 := by unfold appE; rw [hv]; simp
    rw [e1, e2, e3, e4]
    clear e0 e1 e2 e3 e4 c1 hv hbig
    go_enter Try.func33, Try.ntmps33
    go_wp2_with fail
    refine name_calls fun W hW => ?_
    have g1 : Blk W (w.heap.size + 1) #[.int .i64 0, .int .i64 0, .slice none 0 0] 24 := by rw [hW]; exact Blk.newAt (by simp)
    have hB : Below w.heap.size w W := by rw [hW]; exact ((Below.refl _ _).alloc (Nat.le_refl _) _).alloc (by simp) _
    clear hW
    refine (cV W (hs.mono hB)).mono ?_
    rintro e w1 ⟨rfl, hb1⟩
    replace g1 := g1.mono hb1
    replace hB := below2 hB hb1
    clear cV hb1
    have y0 := g1.cell (j := 0) (v := .int .i64 0) rfl; have y1 := g1.cell (j := 1) (v := .int .i64 0) rfl; have y2 := g1.cell (j := 2) (v := .slice none 0 0) rfl
    have f := g1.free
    have l2 := g1.lt
    go_wp2
    exact bodyPost_ret (v := .tuple #[.agg #[.int .i64 0, .int .i64 0, .slice none 0 0], .int .i64 1]) (by simp [results, Try.results33, go_sem, y0, y1, y2]) rfl ⟨_, rfl, Own.nil _ _ _ _, below_set3 hB (by omega) _ _ _⟩

end Go.Proofs.Ythkdaoomnfgooaa
