/- Frontiers: Append. -/
import Derived.Test.YthkdaoomnfgooaaFronC
import Derived.Test.YthkdaoomnfgooaaFronT
namespace Go.Proofs.Ythkdaoomnfgooaa
open Go.RowKit

/-- The frontier that Append gives, and the error. -/
def appOk (d c : Int) (L : List Int) (x : Int) : Bool := fvld d c L && decide (x < big) && !decide (c = 2 ^ d.toNat)
def appE (d c : Int) (L : List Int) (x : Int) : Int := if fvld d c L && decide (x < big) then (if c = 2 ^ d.toNat then 16 else 0) else 1
def appD (d c : Int) (L : List Int) (x : Int) : Int := if appOk d c L x then d else 0
def appC (d c : Int) (L : List Int) (x : Int) : Int := if appOk d c L x then c + 1 else 0
def appF (d c : Int) (L : List Int) (x : Int) : List Int := if appOk d c L x then appL c.toNat L x else []
/-- What Append returns. -/
def RetA (w : World) (d c : Int) (L : List Int) (n : Int) (e : Ending) (w' : World) : Prop := ∃ v, e = .returned (.tuple #[.agg #[.int .i64 d, .int .i64 c, v], .int .i64 n]) ∧ Own w' w.heap.size 30 .u64 v L ∧ Below w.heap.size w w'

theorem appL_len : ∀ (c : Nat) (L : List Int) (x : Int), (appL c L x).length = L.length
  | _, [], _ => rfl
  | c, l :: r, x => by
    unfold appL
    split
    · simp [appL_len (c / 2) r (nd l x)]
    · rfl

/-- What lies in the slice after i rounds. -/
def appS (i : Nat) (L : List Int) : List Int := List.replicate i 0 ++ L.drop i
theorem appS_get {i : Nat} {L : List Int} (_ : i < L.length) : (appS i L).getD i 0 = L.getD i 0 := by
  unfold appS
  simp only [List.getD_eq_getElem?_getD]
  rw [List.getElem?_append_right (by simp)]
  simp
theorem appS_set {i : Nat} {L : List Int} (h : i < L.length) : (appS i L).set i 0 = appS (i + 1) L := by
  unfold appS
  rw [List.set_append_right _ _ (by simp)]
  simp only [List.length_replicate, Nat.sub_self]
  rw [drop_getD h, List.set_cons_zero, List.replicate_succ']
  simp
theorem appS_end {q i : Nat} {L : List Int} {x : Int} (h : i < L.length) (hb : ¬ q / 2 ^ i % 2 = 1) : (appS i L).set i x = List.replicate i 0 ++ appL (q / 2 ^ i) (L.drop i) x := by
  unfold appS
  rw [List.set_append_right _ _ (by simp)]
  simp only [List.length_replicate, Nat.sub_self]
  rw [drop_getD h, List.set_cons_zero, appL, if_neg hb]
theorem appS_step {q i : Nat} {L : List Int} {x : Int} (h : i < L.length) (hb : q / 2 ^ i % 2 = 1) : List.replicate i 0 ++ appL (q / 2 ^ i) (L.drop i) x = List.replicate (i + 1) 0 ++ appL (q / 2 ^ (i + 1)) (L.drop (i + 1)) (nd (L.getD i 0) x) := by
  rw [drop_getD h, appL, if_pos hb, half_pow, List.replicate_succ']
  simp
theorem bit_lt {q i n : Nat} (hq : q < 2 ^ n) (hb : q / 2 ^ i % 2 = 1) : i < n := by
  rcases Nat.lt_or_ge i n with h | h
  · exact h
  · exfalso
    have : 2 ^ n ≤ 2 ^ i := Nat.pow_le_pow_right (by decide) h
    rw [Nat.div_eq_of_lt (by omega)] at hb
    cases hb

set_option maxRecDepth 10000 in
set_option maxHeartbeats 4000000 in
theorem Append_any (d c x : Int) (ad : Option Addr) (cap : Nat) (L : List Int) (w : World) (hx : 0 ≤ x ∧ x < 18446744073709551616) (hs : Sl w .u64 ad L) (hw : AllW L) (hl : L.length < 1099511627776) (c1 : c < 9223372036854775808) :
    Calls Try.prog 32 #[.agg #[.int .i64 d, .int .i64 c, .slice ad L.length cap], .int .u64 x] w (RetA w (appD d c L x) (appC d c L x) (appF d c L x) (appE d c L x)) := by
  have cV := fun (W : World) hs => Valid_any d c ad cap L W hs hw hl c1
  have hbig : big = 18446744069414584321 := rfl
  by_cases hv : fvld d c L = true
  · rw [hv] at cV
    by_cases h1 : x < big
    · have hv2 := of_decide_eq_true hv
      obtain ⟨d1, d2, c0, c2, hll, _⟩ := hv2
      obtain ⟨n, rfl⟩ := Int.eq_ofNat_of_zero_le (show 0 ≤ d by omega)
      obtain ⟨q, rfl⟩ := Int.eq_ofNat_of_zero_le c0
      rw [Int.toNat_natCast] at c2
      have hlN : L.length = n + 1 := by omega
      obtain ⟨p1, p2⟩ := pow_le12 (show n ≤ 12 by omega)
      have epow : ((2 : Int) ^ n) = ((2 ^ n : Nat) : Int) := (Int.natCast_pow 2 n).symm
      rw [epow] at c2
      obtain ⟨M, hM⟩ : ∃ M : Nat, M = 2 ^ n := ⟨_, rfl⟩
      have hwp : IntKind.i64.wrap ((2 : Int) ^ n) = M := by rw [epow, ← hM, IntKind.wrap_i64]; omega
      by_cases hful : q = M
      · have e0 : appOk n q L x = false := by
          unfold appOk
          rw [Int.toNat_natCast, epow, ← hM, hful]
          simp
        have e1 : appD n q L x = 0 := by unfold appD; rw [e0]; rfl
        have e2 : appC n q L x = 0 := by unfold appC; rw [e0]; rfl
        have e3 : appF n q L x = [] := by unfold appF; rw [e0]; rfl
        have e4 : appE n q L x = 16 := by
          unfold appE
          rw [hv, decide_eq_true h1, Int.toNat_natCast, epow, ← hM, hful]
          simp
        rw [e1, e2, e3, e4]
        have hqe : ((q : Int) == (M : Int)) = true := by rw [hful]; simp
        rw [hbig] at h1
        clear e0 e1 e2 e3 e4 c1 c0 hv hbig epow hlN hll p1 p2 c2
        replace hM := hide hM
        replace hful := hide hful
        go_enter Try.func32, Try.ntmps32
        go_wp2_with fail
        refine name_calls fun W hW => ?_
        have g0 : Blk W w.heap.size #[.int .i64 n, .int .i64 q, .slice ad L.length cap] 28 := by rw [hW]; exact (Blk.newAt rfl).alloc _
        have g1 : Blk W (w.heap.size + 1) #[.int .i64 0, .int .i64 0, .slice none 0 0] 28 := by rw [hW]; exact Blk.newAt (by simp)
        have hB : Below w.heap.size w W := by rw [hW]; exact ((Below.refl _ _).alloc (Nat.le_refl _) _).alloc (by simp) _
        clear hW
        refine (cV W (hs.mono hB)).mono ?_
        rintro e w1 ⟨rfl, hb1⟩
        replace g0 := g0.mono hb1
        replace g1 := g1.mono hb1
        replace hB := below2 hB hb1
        clear cV hb1
        go_wp2_with fail
        have k0 := cell_later' (g0.cell (j := 0) (v := .int .i64 n) rfl); have k1 := cell_later' (g0.cell (j := 1) (v := .int .i64 q) rfl)
        refine wp_region_later Try.mixed (by kernel_rfl) ?_
        repeat (first | go_big_quiet_step (first | fail) | quiet_step (first | fail))
        refine wpQuiet_nil ?_
        intro w3 hb3
        replace hb3 := below_of_later hb3
        replace g1 := g1.mono hb3
        replace hB := below2 hB hb3
        clear k0 k1 hb3
        have y0 := g1.cell (j := 0) (v := .int .i64 0) rfl; have y1 := g1.cell (j := 1) (v := .int .i64 0) rfl; have y2 := g1.cell (j := 2) (v := .slice none 0 0) rfl
        have f := g1.free
        have l2 := g1.lt
        go_wp2
        exact bodyPost_ret (v := .tuple #[.agg #[.int .i64 0, .int .i64 0, .slice none 0 0], .int .i64 16]) (by simp [results, Try.results32, go_sem, y0, y1, y2]) rfl ⟨_, rfl, Own.nil _ _ _ _, below_set3 hB (by omega) _ _ _⟩
      · have hq : q < M := by omega
        have e0 : appOk n q L x = true := by
          unfold appOk
          rw [hv, decide_eq_true h1, Int.toNat_natCast, epow, ← hM]
          simp; omega
        have e1 : appD n q L x = n := by unfold appD; rw [e0]; rfl
        have e2 : appC n q L x = q + 1 := by unfold appC; rw [e0]; rfl
        have e3 : appF n q L x = appL q L x := by unfold appF; rw [e0]; rfl
        have e4 : appE n q L x = 0 := by
          unfold appE
          rw [hv, decide_eq_true h1, Int.toNat_natCast, epow, ← hM]
          simp; omega
        rw [e1, e2, e3, e4]
        have hqe : ((q : Int) == (M : Int)) = false := by rw [beq_eq_false_iff_ne]; omega
        have hblt : Hid (∀ i, q / 2 ^ i % 2 = 1 → i < n) := hide fun i h => bit_lt (by rw [← hM]; exact hq) h
        have hq4 : q < 4096 := by omega
        have hn12 : n ≤ 12 := by omega
        have hwq : IntKind.i64.wrap ((q : Int) + 1) = q + 1 := by rw [IntKind.wrap_i64]; omega
        obtain ⟨R, hR⟩ : ∃ R, R = appL q L x := ⟨_, rfl⟩
        rw [← hR]
        have hst0 : Hid (List.replicate 0 0 ++ appL (q / 2 ^ 0) (L.drop 0) x = R) := hide (by rw [hR]; simp)
        rw [hbig] at h1
        clear e0 e1 e2 e3 e4 c1 c0 hv hbig epow hll p1 p2 c2 hR d1 d2
        replace hM := hide hM
        replace hq := hide hq
        clear hful
        replace hlN := hide hlN
        go_enter Try.func32, Try.ntmps32
        go_wp2_with fail
        refine name_calls fun W hW => ?_
        have g0 : Blk W w.heap.size #[.int .i64 n, .int .i64 q, .slice ad L.length cap] 28 := by rw [hW]; exact (Blk.newAt rfl).alloc _
        have g1 : Blk W (w.heap.size + 1) #[.int .i64 0, .int .i64 0, .slice none 0 0] 28 := by rw [hW]; exact Blk.newAt (by simp)
        have hB : Below w.heap.size w W := by rw [hW]; exact ((Below.refl _ _).alloc (Nat.le_refl _) _).alloc (by simp) _
        have hz : w.heap.size + 2 ≤ W.heap.size := by rw [hW]; simp
        clear hW
        refine (cV W (hs.mono hB)).mono ?_
        rintro e w1 ⟨rfl, hb1⟩
        replace hz := Nat.le_trans hz hb1.size
        replace g0 := g0.mono hb1
        replace g1 := g1.mono hb1
        replace hB := below2 hB hb1
        clear cV hb1
        go_wp2_with fail
        have k0 := cell_later' (g0.cell (j := 0) (v := .int .i64 n) rfl); have k1 := cell_later' (g0.cell (j := 1) (v := .int .i64 q) rfl)
        refine wp_region_later Try.mixed (by kernel_rfl) ?_
        repeat (first | go_big_quiet_step (first | fail) | quiet_step (first | fail))
        refine wpQuiet_nil ?_
        intro w3 hb3
        replace hb3 := below_of_later hb3
        replace hz := Nat.le_trans hz hb3.size
        replace g0 := g0.mono hb3
        replace g1 := g1.mono hb3
        replace hB := below2 hB hb3
        clear k0 k1 hb3 hqe hwp
        have k2 := g0.cell (j := 2) (v := .slice ad L.length cap) rfl
        go_wp2_with fail
        refine (Clone_any ad cap L _ (hs.mono hB) hl).mono ?_
        rintro e w4 ⟨v, rfl, hown, hb4⟩
        replace hown := hown.low hz
        replace g0 := g0.mono hb4
        replace g1 := g1.mono hb4
        replace hB := below2 hB hb4
        clear k2 hb4 hz
        obtain ⟨ga, gc, rfl, _, _, _⟩ := Own.sl hown
        obtain ⟨g, rfl⟩ : ∃ g, ga = some ⟨g, 0, none⟩ := by
          rcases hown.form with ⟨_, h0⟩ | ⟨g, _, _, he, _⟩
          · have := hlN.out
            rw [h0] at this; cases this
          · injection he with he
            exact ⟨g, he⟩
        have hg2 := (hown.lt (b := g) rfl).1
        have hown0 : Own w4 (w.heap.size + 2) 30 .u64 (.slice (some ⟨g, 0, none⟩) L.length gc) (appS 0 L) := by simpa [appS] using hown
        clear hown
        go_wp2_with fail
        go_loopw [7, 8] (fun t7 t8 wr => ∃ i : Nat, i ≤ n ∧ t7 = .int .i64 i ∧ (∃ y : Int, (0 ≤ y ∧ y < 18446744073709551616) ∧ t8 = .int .u64 y ∧ Hid (List.replicate i 0 ++ appL (q / 2 ^ i) (L.drop i) y = R)) ∧ Below w.heap.size w wr ∧ Blk wr w.heap.size #[.int .i64 n, .int .i64 q, .slice ad L.length cap] 28 ∧ Blk wr (w.heap.size + 1) #[.int .i64 0, .int .i64 0, .slice none 0 0] 28 ∧ Own wr (w.heap.size + 2) 30 .u64 (.slice (some ⟨g, 0, none⟩) L.length gc) (appS i L)) (fun t7 _ _ => n - (intOf t7).toNat)
        case atStart => exact ⟨0, by omega, rfl, ⟨x, hx, rfl, hst0⟩, hB, g0, g1, hown0⟩
        case round =>
          clear hst0 hown0 g0 g1 hB
          obtain ⟨i, hi, rfl, ⟨y, hy, rfl, hst⟩, hB, g0, g1, hown⟩ := hrel
          have hiL : i < L.length := by have := hlN.out; omega
          have hbt := bit_fact q i (by omega)
          have hbl := hblt.out i
          have hyb := hw.get hiL
          have hgi := appS_get hiL
          have hse := appS_set hiL
          have hs1 := appS_step (q := q) (x := y) hiL
          have hs2 := appS_end (q := q) (x := y) hiL
          have hc := hown.cell hiL
          have hfr := hown.free i
          rw [hgi] at hc
          obtain ⟨z, hz⟩ : ∃ z, z = L.getD i 0 := ⟨_, rfl⟩
          rw [← hz] at hc hyb hs1
          obtain ⟨r, hr⟩ : ∃ r, r = q / 2 ^ i % 2 := ⟨_, rfl⟩
          rw [← hr] at hbt hbl hs1 hs2
          have hr2 : r = 0 ∨ r = 1 := by omega
          have k1 := g0.cell (j := 1) (v := .int .i64 q) rfl
          replace hz := hide hz
          replace hr := hide hr
          clear hgi
          rcases hr2 with rfl | rfl
          · have hfin : Hid ((appS i L).set i y = R) := hide (by rw [hs2 (by decide), hst.out])
            clear hs1 hs2 hst hbl hse
            have hown2 := hown.set i y
            rw [hfin.out] at hown2
            have k0 := g0.cell (j := 0) (v := .int .i64 n) rfl
            have hgne : g ≠ w.heap.size := by omega
            have hgne1 : g ≠ w.heap.size + 1 := by omega
            have G0 := g0.other hgne i (.int .u64 y)
            have G1 := g1.other hgne1 i (.int .u64 y)
            have GB : Below w.heap.size w (wr.setCell ⟨g, i, none⟩ (.int .u64 y)) := hB.setCell (show w.heap.size ≤ g by omega) _
            have k01 := G0.cell (j := 0) (v := .int .i64 n) rfl
            have k11 := G0.cell (j := 1) (v := .int .i64 q) rfl
            have y0 := G1.cell (j := 0) (v := .int .i64 0) rfl; have y1 := G1.cell (j := 1) (v := .int .i64 0) rfl; have y2 := G1.cell (j := 2) (v := .slice none 0 0) rfl
            have f := G1.free
            go_wp2
            have hn : (Value.slice (some ⟨g, 0, none⟩) L.length gc).ownBlock ≠ some (w.heap.size + 1) := fun e => by have := (hown2.lt e).1; omega
            exact bodyPost_ret (v := .tuple #[.agg #[.int .i64 n, .int .i64 (q + 1), .slice (some ⟨g, 0, none⟩) L.length gc], .int .i64 0]) (by simp [results, Try.results32, go_sem, y0, y1, y2]) rfl ⟨_, rfl, (((hown2.other hn _).other hn _).other hn _).low (by omega), below_set3 GB (by omega) _ _ _⟩
          · have hnext : Hid (List.replicate (i + 1) 0 ++ appL (q / 2 ^ (i + 1)) (L.drop (i + 1)) (nd z y) = R) := hide (by rw [← hs1 rfl, hst.out])
            have hin := hbl rfl
            have hn1 := nd_bd z y
            clear hs1 hs2 hst hbl
            replace hse := hide hse
            go_wp2_with fail
            refine (node_any z y _ hyb hy).mono ?_
            rintro ew5 w5 ⟨rfl, hb5⟩
            have hB5 := below2 hB hb5
            have G0 := g0.mono hb5
            have G1 := g1.mono hb5
            have O5 := hown.mono hb5
            have hfr5 := O5.free i
            have hgne : g ≠ w.heap.size := by omega
            have hgne1 : g ≠ w.heap.size + 1 := by omega
            have H0 := G0.other hgne i (.int .u64 0)
            have H1 := G1.other hgne1 i (.int .u64 0)
            have HB : Below w.heap.size w (w5.setCell ⟨g, i, none⟩ (.int .u64 0)) := hB5.setCell (show w.heap.size ≤ g by omega) _
            have HO := O5.set i 0
            rw [hse.out] at HO
            have hc5 := O5.cell hiL
            clear G0 G1 O5 hB5 hown g0 g1 hB hb5 hc k1 hfr
            go_wp2
            go_roundw
            case rel => exact ⟨i + 1, by omega, by go_num, ⟨_, hn1, rfl, hide hnext.out⟩, HB, H0, H1, HO⟩
            case measure => simp [intOf]; omega
    · have e0 : appOk d c L x = false := by unfold appOk; rw [decide_eq_false h1]; simp
      have e1 : appD d c L x = 0 := by unfold appD; rw [e0]; rfl
      have e2 : appC d c L x = 0 := by unfold appC; rw [e0]; rfl
      have e3 : appF d c L x = [] := by unfold appF; rw [e0]; rfl
      have e4 : appE d c L x = 1 := by unfold appE; rw [decide_eq_false h1]; simp
      rw [e1, e2, e3, e4]
      rw [hbig] at h1
      have h1' : 18446744069414584321 ≤ x := by omega
      clear e0 e1 e2 e3 e4 c1 hv hbig h1
      go_enter Try.func32, Try.ntmps32
      go_wp2_with fail
      refine name_calls fun W hW => ?_
      have g1 : Blk W (w.heap.size + 1) #[.int .i64 0, .int .i64 0, .slice none 0 0] 28 := by rw [hW]; exact Blk.newAt (by simp)
      have hB : Below w.heap.size w W := by rw [hW]; exact ((Below.refl _ _).alloc (Nat.le_refl _) _).alloc (by simp) _
      clear hW
      refine (cV W (hs.mono hB)).mono ?_
      rintro e w1 ⟨rfl, hb1⟩
      replace g1 := g1.mono hb1
      replace hB := below2 hB hb1
      clear cV hb1
      have y0 := g1.cell (j := 0) (v := .int .i64 0) rfl; have y1 := g1.cell (j := 1) (v := .int .i64 0) rfl; have y2 := g1.cell (j := 2) (v := .slice none 0 0) rfl
      have f := g1.free
      have l2 := g1.lt
      go_wp2
      exact bodyPost_ret (v := .tuple #[.agg #[.int .i64 0, .int .i64 0, .slice none 0 0], .int .i64 1]) (by simp [results, Try.results32, go_sem, y0, y1, y2]) rfl ⟨_, rfl, Own.nil _ _ _ _, below_set3 hB (by omega) _ _ _⟩
  · replace hv : fvld d c L = false := by simpa using hv
    rw [hv] at cV
    have e0 : appOk d c L x = false := by unfold appOk; rw [hv]; simp
    have e1 : appD d c L x = 0 := by unfold appD; rw [e0]; rfl
    have e2 : appC d c L x = 0 := by unfold appC; rw [e0]; rfl
    have e3 : appF d c L x = [] := by unfold appF; rw [e0]; rfl
    have e4 : appE d c L x = 1 := by unfold appE; rw [hv]; simp
    rw [e1, e2, e3, e4]
    clear e0 e1 e2 e3 e4 c1 hv hbig
    go_enter Try.func32, Try.ntmps32
    go_wp2_with fail
    refine name_calls fun W hW => ?_
    have g1 : Blk W (w.heap.size + 1) #[.int .i64 0, .int .i64 0, .slice none 0 0] 28 := by rw [hW]; exact Blk.newAt (by simp)
    have hB : Below w.heap.size w W := by rw [hW]; exact ((Below.refl _ _).alloc (Nat.le_refl _) _).alloc (by simp) _
    clear hW
    refine (cV W (hs.mono hB)).mono ?_
    rintro e w1 ⟨rfl, hb1⟩
    replace g1 := g1.mono hb1
    replace hB := below2 hB hb1
    clear cV hb1
    have y0 := g1.cell (j := 0) (v := .int .i64 0) rfl; have y1 := g1.cell (j := 1) (v := .int .i64 0) rfl; have y2 := g1.cell (j := 2) (v := .slice none 0 0) rfl
    have f := g1.free
    have l2 := g1.lt
    go_wp2
    exact bodyPost_ret (v := .tuple #[.agg #[.int .i64 0, .int .i64 0, .slice none 0 0], .int .i64 1]) (by simp [results, Try.results32, go_sem, y0, y1, y2]) rfl ⟨_, rfl, Own.nil _ _ _ _, below_set3 hB (by omega) _ _ _⟩

end Go.Proofs.Ythkdaoomnfgooaa
