/- Circuits: Run of the reference; Satisfy, of the program and of the reference. -/
import Derived.Test.YtlflkddgdbdebaaCircIK
namespace Go.Proofs.Ytlflkddgdbdebaa
open Go.RowKit

theorem allLt_app {p : Int} {u s : List Int} : allLt p (u ++ s) = (allLt p u && allLt p s) := by
  have h : ∀ l : List Int, allLt p l = decide (∀ x ∈ l, x < p) := fun l => by
    unfold allLt
    congr 1
    apply propext
    constructor
    · intro h x hx
      obtain ⟨i, hi, rfl⟩ := List.mem_iff_getElem.1 hx
      have := h i hi
      rw [List.getD_eq_getElem?_getD, List.getElem?_eq_getElem hi] at this
      exact this
    · intro h i hi
      exact h _ (getD_mem' hi 0)
  rw [h, h, h]
  rw [Bool.eq_iff_iff, Bool.and_eq_true, decide_eq_true_eq, decide_eq_true_eq, decide_eq_true_eq]
  exact List.forall_mem_append

set_option maxRecDepth 10000 in
set_option maxHeartbeats 4000000 in
theorem rRun_any (p pub vars : Int) (ra : Option Addr) (R : List Rw) (rc : Nat) (sec : Int) (ha : Option Addr) (H : List Hn) (hc : Nat) (ua : Option Addr) (uc : Nat) (u : List Int) (sa : Option Addr) (sc : Nat) (s : List Int) (w : World)
    (hR : RowsP w ra rc R) (hH : HintsP w ha hc H) (hsec : (Lit.int .i64 sec).wf = true) (hu : Sl w .u64 ua u) (hs : Sl w .u64 sa s) (hAu : AllW u) (hAs : AllW s) :
    Calls Try.prog 16 #[.agg #[.int .u64 p, .int .i64 pub, .int .i64 vars, .slice ra R.length rc, .int .i64 sec, .slice ha H.length hc], .slice ua u.length uc, .slice sa s.length sc] w (RetR w (runL p pub vars R sec H u s) (runE p pub vars R sec H u s)) := by
  have cC := fun W h1 h2 => rCValid_any p pub vars ra R rc sec ha H hc W h1 h2 hsec
  have cK := fun (la : Option Addr) (lc : Nat) W h1 h2 h3 h4 h5 => Complete_any p pub vars ra R rc sec ha H hc la lc (u ++ s) W h1 h2 h3 h4 h5
  have eL : runL p pub vars R sec H u s = if cirOk p pub vars R sec H && inpOk p pub sec u s then runH p (1 :: (u ++ s)) H else [] := rfl
  have eE : runE p pub vars R sec H u s = if cirOk p pub vars R sec H && inpOk p pub sec u s then 0 else 1 := rfl
  rw [eL, eE]
  clear eL eE
  obtain ⟨C, hC⟩ : ∃ C, C = cirOk p pub vars R sec H := ⟨_, rfl⟩
  rw [← hC] at cC cK ⊢
  obtain ⟨I, hI⟩ : ∃ I, I = inpOk p pub sec u s := ⟨_, rfl⟩
  rw [← hI]
  cases C with
  | false =>
    rw [Bool.false_and, if_neg (by decide), if_neg (by decide)]
    clear hC hI hu hs hAu hAs hsec cK
    go_enter Try.func16, Try.ntmps16
    go_wp2_with fail
    refine name_calls fun W hN => ?_
    have g0 : Blk W w.heap.size #[.int .u64 p, .int .i64 pub, .int .i64 vars, .slice ra R.length rc, .int .i64 sec, .slice ha H.length hc] 28 := by rw [hN]; exact Blk.newAt rfl
    have hB : Below w.heap.size w W := by rw [hN]; exact (Below.refl _ _).alloc (Nat.le_refl _) _
    clear hN
    refine (cC W (hR.mono hB) (hH.mono hB)).mono ?_
    rintro e w1 ⟨rfl, hb1⟩
    replace g0 := g0.mono hb1
    replace hB := below2 hB hb1
    clear hb1
    have k0 := g0.cell (j := 0) (v := .int .u64 p) rfl; have k1 := g0.cell (j := 1) (v := .int .i64 pub) rfl; have k2 := g0.cell (j := 2) (v := .int .i64 vars) rfl; have k3 := g0.cell (j := 3) (v := .slice ra R.length rc) rfl; have k4 := g0.cell (j := 4) (v := .int .i64 sec) rfl; have k5 := g0.cell (j := 5) (v := .slice ha H.length hc) rfl
    go_wp2
    exact bodyPost_ret (v := .tuple #[.slice none 0 0, .int .i64 1]) (by simp [results, Try.results16, go_sem]) rfl ⟨_, rfl, Own.nil _ _ _ _, hB⟩
  | true =>
    rw [Bool.true_and]
    obtain ⟨hT, hs0, hv, hok⟩ := cir_bd hC.symm
    obtain ⟨hvp, hp0, hp1, hp2, _⟩ := tbl_bd hT
    clear hC hT hsec hok
    by_cases hl1 : (u.length : Int) = pub
    · by_cases hl2 : (s.length : Int) = sec
      · rw [inp_eq ⟨hl1, hl2⟩, ← allLt_app] at hI
        have hl1' : ((u.length : Int) != pub) = false := by simp [hl1]
        have hl2' : ((s.length : Int) != sec) = false := by simp [hl2]
        have hlen : u.length + s.length + 1 + H.length ≤ 65536 := by omega
        have hll := hide (show ((u ++ s).length : Int) = pub + sec by rw [List.length_append]; omega)
        replace hv := hide hv
        replace hl1 := hide hl1
        replace hl2 := hide hl2
        replace cK := hide cK
        obtain ⟨RL, hRL⟩ : ∃ RL, RL = if I = true then runH p (1 :: (u ++ s)) H else [] := ⟨_, rfl⟩
        obtain ⟨RE, hRE⟩ : ∃ RE : Int, RE = if I = true then 0 else 1 := ⟨_, rfl⟩
        rw [← hRL, ← hRE]
        replace hRL := hide hRL
        replace hRE := hide hRE
        replace hI := hide hI
        go_enter Try.func16, Try.ntmps16
        go_wp2_with fail
        refine name_calls fun W hN => ?_
        have g0 : Blk W w.heap.size #[.int .u64 p, .int .i64 pub, .int .i64 vars, .slice ra R.length rc, .int .i64 sec, .slice ha H.length hc] 28 := by rw [hN]; exact Blk.newAt rfl
        have hB : Below w.heap.size w W := by rw [hN]; exact (Below.refl _ _).alloc (Nat.le_refl _) _
        clear hN
        refine (cC W (hR.mono hB) (hH.mono hB)).mono ?_
        rintro e w1 ⟨rfl, hb1⟩
        replace g0 := g0.mono hb1
        replace hB := below2 hB hb1
        clear hb1
        have k0 := g0.cell (j := 0) (v := .int .u64 p) rfl; have k1 := g0.cell (j := 1) (v := .int .i64 pub) rfl; have k2 := g0.cell (j := 2) (v := .int .i64 vars) rfl; have k3 := g0.cell (j := 3) (v := .slice ra R.length rc) rfl; have k4 := g0.cell (j := 4) (v := .int .i64 sec) rfl; have k5 := g0.cell (j := 5) (v := .slice ha H.length hc) rfl
        clear cC
        have own1 : Own (w1.alloc (.cells #[] 22)) w.heap.size 22 .u64 (.slice (some ⟨w1.heap.size, 0, none⟩) 0 0) [] := Own.of_blk (xs := []) hB.size (Blk.newAt rfl) (by simp) (by simp [maxLen]) rfl rfl
        have hu1 := (hu.mono hB).alloc (.cells #[] 22)
        have g1 := g0.alloc (.cells #[] 22)
        have hB1 := hB.alloc hB.size (.cells #[] 22)
        go_wp2_with (at_builtin; refine wpList_app _ rfl _ _ 32 rfl w.heap.size 22 .u64 8 Try.underlying32 Try.infoU64 (by decide) _ [] u uc _ rfl rfl own1 hu1 (by simp; omega) hB1.size ?_; intro v4 w4 own4 hg4; refine Hold.mk ?_)
        refine Hold.go ?_
        replace g0 := hg4.blk g1 (own_neq own1 g1 (by decide))
        replace hB := hg4.below hB1 own1 (Nat.le_refl _) hB1.size
        clear own1 hu1 g1 hB1 hg4 k0 k1 k2 k3 k4 k5
        rw [List.nil_append] at own4
        have hs4 := hs.mono hB
        go_wp2_with (at_builtin; refine wpList_app _ rfl _ _ 32 rfl w.heap.size 22 .u64 8 Try.underlying32 Try.infoU64 (by decide) _ u s sc _ rfl rfl own4 hs4 (by omega) hB.size ?_; intro v5 w5 own5 hg5; refine Hold.mk ?_)
        refine Hold.go ?_
        replace g0 := hg5.blk g0 (own_neq own4 g0 (by decide))
        replace hB := hg5.below hB own4 (Nat.le_refl _) hB.size
        clear own4 hs4 hg5
        have hAl : AllW (u ++ s) := fun x hx => by
          rcases List.mem_append.1 hx with h2 | h2
          · exact hAu x h2
          · exact hAs x h2
        have hll3 : (u ++ s).length ≤ 65536 := by rw [List.length_append]; omega
        clear hu hs hAu hAs
        generalize u ++ s = l at *
        obtain ⟨a5, c5, e5, sl5, _, _⟩ := Own.sl own5
        subst e5
        go_wp2_with fail
        go_loopw [9] (fun t9 wr => ∃ k : Nat, k ≤ l.length ∧ t9 = .int .i64 k ∧ Below w5.heap.size w5 wr ∧ Hid (∀ j, j < k → l.getD j 0 < p)) (fun t9 _ => l.length - (intOf t9).toNat)
        case atStart => exact ⟨0, Nat.zero_le _, rfl, Below.refl _ _, hide fun j hj => by omega⟩
        case round =>
          obtain ⟨k, hk, rfl, hb, hU⟩ := hrel
          have gr := g0.mono hb
          by_cases hlt : k < l.length
          · have hlt' : (k : Int) < l.length := by omega
            obtain ⟨b2, off2, e2, _, hd⟩ := (sl5.mono hb).get hlt
            have hst := hide (fun h => allLt_stop (p := p) hlt h)
            have hnx := hide (fun h : l.getD k 0 < p => fun j (hj : j < k + 1) => (by
              rcases Nat.lt_or_ge j k with h2 | h2
              · exact hU.out j h2
              · have : j = k := by omega
                subst this; exact h : l.getD j 0 < p))
            have hxr := hAl.get hlt
            generalize l.getD k 0 = y at *
            replace hd := cell_later' hd
            have k0 := cell_later' (gr.cell (j := 0) (v := .int .u64 p) rfl)
            subst e2
            by_cases hy : p ≤ y
            · have hF := hst.out hy
              have e1 := hide (show RL = [] by rw [hRL.out, hI.out, hF]; rfl)
              have e2 := hide (show RE = 1 by rw [hRE.out, hI.out, hF]; rfl)
              clear hst hnx hU hF hI hRL hRE
              go_wp2_with fail
              refine wp_region_later Try.mixed (by kernel_rfl) ?_
              repeat (first | go_big_quiet_step (first | fail) | quiet_step (first | fail))
              refine wpQuiet_nil ?_
              intro w3 hb3
              replace hb3 := below_of_later hb3
              go_wp2
              exact bodyPost_ret (v := .tuple #[.slice none 0 0, .int .i64 1]) (by simp [results, Try.results16, go_sem]) rfl ⟨_, by rw [e2.out], by rw [e1.out]; exact Own.nil _ _ _ _, below2 hB (below2 hb hb3)⟩
            · have hN := hide (hnx.out (by omega))
              clear hst hnx hU
              go_wp2_with fail
              refine wp_region_later Try.mixed (by kernel_rfl) ?_
              repeat (first | go_big_quiet_step (first | fail) | quiet_step (first | fail))
              refine wpQuiet_nil ?_
              intro w3 hb3
              replace hb3 := below_of_later hb3
              go_wp2
              go_roundw
              case rel => exact ⟨k + 1, by omega, by go_num, below2 hb hb3, hN⟩
              case measure => simp [intOf]; omega
          · obtain rfl : k = l.length := by omega
            have hF := allLt_all hU.out
            have e1 := hide (show RL = runH p (1 :: l) H by rw [hRL.out, hI.out, hF]; rfl)
            have e2 := hide (show RE = 0 by rw [hRE.out, hI.out, hF]; rfl)
            clear hU hF hI hRL hRE
            have k0 := gr.cell (j := 0) (v := .int .u64 p) rfl; have k1 := gr.cell (j := 1) (v := .int .i64 pub) rfl; have k2 := gr.cell (j := 2) (v := .int .i64 vars) rfl; have k3 := gr.cell (j := 3) (v := .slice ra R.length rc) rfl; have k4 := gr.cell (j := 4) (v := .int .i64 sec) rfl; have k5 := gr.cell (j := 5) (v := .slice ha H.length hc) rfl
            go_wp2_with fail
            refine (cK.out a5 c5 wr (hH.mono (below2 hB hb)) (sl5.mono hb) hAl (by first | rfl | trivial) hll.out).mono ?_
            rintro e w6 ⟨v6, rfl, own6, hb6⟩
            go_wp2
            exact bodyPost_ret (v := .tuple #[v6, .int .i64 0]) (by simp [results, Try.results16, go_sem]) rfl ⟨_, by rw [e2.out], by rw [e1.out]; exact own6.low (below2 hB hb).size, below2 (below2 hB hb) hb6⟩
      · have hl1' : ((u.length : Int) != pub) = false := by simp [hl1]
        have hl2' : ((s.length : Int) != sec) = true := by simpa using hl2
        rw [inp_no fun h => hl2 h.2] at hI
        rw [hI, if_neg (by decide), if_neg (by decide)]
        replace hl1 := hide hl1
        replace hl2 := hide hl2
        clear hI hu hs hAu hAs hv cK
        go_enter Try.func16, Try.ntmps16
        go_wp2_with fail
        refine name_calls fun W hN => ?_
        have g0 : Blk W w.heap.size #[.int .u64 p, .int .i64 pub, .int .i64 vars, .slice ra R.length rc, .int .i64 sec, .slice ha H.length hc] 28 := by rw [hN]; exact Blk.newAt rfl
        have hB : Below w.heap.size w W := by rw [hN]; exact (Below.refl _ _).alloc (Nat.le_refl _) _
        clear hN
        refine (cC W (hR.mono hB) (hH.mono hB)).mono ?_
        rintro e w1 ⟨rfl, hb1⟩
        replace g0 := g0.mono hb1
        replace hB := below2 hB hb1
        clear hb1
        have k0 := g0.cell (j := 0) (v := .int .u64 p) rfl; have k1 := g0.cell (j := 1) (v := .int .i64 pub) rfl; have k2 := g0.cell (j := 2) (v := .int .i64 vars) rfl; have k3 := g0.cell (j := 3) (v := .slice ra R.length rc) rfl; have k4 := g0.cell (j := 4) (v := .int .i64 sec) rfl; have k5 := g0.cell (j := 5) (v := .slice ha H.length hc) rfl
        go_wp2
        exact bodyPost_ret (v := .tuple #[.slice none 0 0, .int .i64 1]) (by simp [results, Try.results16, go_sem]) rfl ⟨_, rfl, Own.nil _ _ _ _, hB⟩
    · have hl1' : ((u.length : Int) != pub) = true := by simpa using hl1
      rw [inp_no fun h => hl1 h.1] at hI
      rw [hI, if_neg (by decide), if_neg (by decide)]
      replace hl1 := hide hl1
      clear hI hu hs hAu hAs hv cK
      go_enter Try.func16, Try.ntmps16
      go_wp2_with fail
      refine name_calls fun W hN => ?_
      have g0 : Blk W w.heap.size #[.int .u64 p, .int .i64 pub, .int .i64 vars, .slice ra R.length rc, .int .i64 sec, .slice ha H.length hc] 28 := by rw [hN]; exact Blk.newAt rfl
      have hB : Below w.heap.size w W := by rw [hN]; exact (Below.refl _ _).alloc (Nat.le_refl _) _
      clear hN
      refine (cC W (hR.mono hB) (hH.mono hB)).mono ?_
      rintro e w1 ⟨rfl, hb1⟩
      replace g0 := g0.mono hb1
      replace hB := below2 hB hb1
      clear hb1
      have k0 := g0.cell (j := 0) (v := .int .u64 p) rfl; have k1 := g0.cell (j := 1) (v := .int .i64 pub) rfl; have k2 := g0.cell (j := 2) (v := .int .i64 vars) rfl; have k3 := g0.cell (j := 3) (v := .slice ra R.length rc) rfl; have k4 := g0.cell (j := 4) (v := .int .i64 sec) rfl; have k5 := g0.cell (j := 5) (v := .slice ha H.length hc) rfl
      go_wp2
      exact bodyPost_ret (v := .tuple #[.slice none 0 0, .int .i64 1]) (by simp [results, Try.results16, go_sem]) rfl ⟨_, rfl, Own.nil _ _ _ _, hB⟩

theorem runE_of {p pub vars sec : Int} {R : List Rw} {H : List Hn} {u s : List Int} (h : runOk p pub vars R sec H u s = true) : runE p pub vars R sec H u s = 0 ∧ satL p pub vars R sec H u s = (if satOk p pub vars R (runL p pub vars R sec H u s) = true then runL p pub vars R sec H u s else []) ∧ satE p pub vars R sec H u s = if satOk p pub vars R (runL p pub vars R sec H u s) = true then 0 else 9 := by
  unfold runE satL satE
  rw [h]
  exact ⟨rfl, rfl, rfl⟩
theorem runE_no {p pub vars sec : Int} {R : List Rw} {H : List Hn} {u s : List Int} (h : runOk p pub vars R sec H u s = false) : runE p pub vars R sec H u s = 1 ∧ runL p pub vars R sec H u s = [] ∧ satL p pub vars R sec H u s = [] ∧ satE p pub vars R sec H u s = 1 := by
  unfold runE satL satE runL
  rw [h]
  exact ⟨rfl, rfl, rfl, rfl⟩
theorem runL_W {p pub vars sec : Int} {R : List Rw} {H : List Hn} {u s : List Int} (hu : AllW u) (hs : AllW s) : AllW (runL p pub vars R sec H u s) := by
  unfold runL
  split
  · refine runH_mem (fun W h => hval_bd p W h) (fun x hx => ?_) H
    rcases List.mem_cons.1 hx with h1 | h1
    · rw [h1]; decide
    · rcases List.mem_append.1 h1 with h2 | h2
      · exact hu x h2
      · exact hs x h2
  · intro x hx; cases hx

set_option maxRecDepth 10000 in
set_option maxHeartbeats 4000000 in
theorem aSat_any (p pub vars : Int) (ra : Option Addr) (R : List Rw) (rc : Nat) (sec : Int) (ha : Option Addr) (H : List Hn) (hc : Nat) (ua : Option Addr) (uc : Nat) (u : List Int) (sa : Option Addr) (sc : Nat) (s : List Int) (w : World)
    (hR : RowsP w ra rc R) (hH : HintsP w ha hc H) (hsec : (Lit.int .i64 sec).wf = true) (hu : Sl w .u64 ua u) (hs : Sl w .u64 sa s) (hAu : AllW u) (hAs : AllW s) :
    Calls Try.prog 18 #[.agg #[.int .u64 p, .int .i64 pub, .int .i64 vars, .slice ra R.length rc, .int .i64 sec, .slice ha H.length hc], .slice ua u.length uc, .slice sa s.length sc] w (RetR w (satL p pub vars R sec H u s) (satE p pub vars R sec H u s)) := by
  have cR := fun W h1 h2 h3 h4 => aRun_any p pub vars ra R rc sec ha H hc ua uc u sa sc s W h1 h2 hsec h3 h4 hAu hAs
  have hWl := runL_W (p := p) (pub := pub) (vars := vars) (R := R) (sec := sec) (H := H) hAu hAs
  have cS := fun (wa : Option Addr) (wc : Nat) W h1 h2 => tSat_any p pub vars ra R rc wa wc (runL p pub vars R sec H u s) W h1 h2 hWl
  obtain ⟨K, hK⟩ : ∃ K, K = runOk p pub vars R sec H u s := ⟨_, rfl⟩
  cases K with
  | false =>
    obtain ⟨e1, e2, e3, e4⟩ := runE_no hK.symm
    rw [e1, e2] at cR
    rw [e3, e4]
    clear cS hWl e1 e2 e3 e4 hK hsec hAu hAs
    go_enter Try.func18, Try.ntmps18
    go_wp2_with fail
    refine name_calls fun W hN => ?_
    have g0 : Blk W w.heap.size #[.int .u64 p, .int .i64 pub, .int .i64 vars, .slice ra R.length rc, .int .i64 sec, .slice ha H.length hc] 28 := by rw [hN]; exact Blk.newAt rfl
    have hB : Below w.heap.size w W := by rw [hN]; exact (Below.refl _ _).alloc (Nat.le_refl _) _
    clear hN
    have hz := hB.size
    refine (cR W (hR.mono hB) (hH.mono hB) (hu.mono hB) (hs.mono hB)).mono ?_
    rintro e w1 ⟨v1, rfl, own1, hb1⟩
    replace hB := below2 hB hb1
    replace own1 := own1.low hz
    clear hb1 cR
    rcases own1.form with ⟨rfl, _⟩ | ⟨g, cap, cur, rfl, _⟩
    · go_wp2
      exact bodyPost_ret (v := .tuple #[.slice none 0 0, .int .i64 1]) (by simp [results, Try.results18, go_sem]) rfl ⟨_, rfl, Own.nil _ _ _ _, hB⟩
    · go_wp2
      exact bodyPost_ret (v := .tuple #[.slice none 0 0, .int .i64 1]) (by simp [results, Try.results18, go_sem]) rfl ⟨_, rfl, Own.nil _ _ _ _, hB⟩
  | true =>
    obtain ⟨e1, e3, e4⟩ := runE_of hK.symm
    rw [e1] at cR
    rw [e3, e4]
    clear e1 e3 e4 hK hsec hAu hAs
    generalize runL p pub vars R sec H u s = L at *
    obtain ⟨B, hBe⟩ : ∃ B, B = satOk p pub vars R L := ⟨_, rfl⟩
    rw [← hBe] at cS ⊢
    replace hBe := hide hBe
    obtain ⟨RL, hRL⟩ : ∃ RL, RL = if B = true then L else [] := ⟨_, rfl⟩
    obtain ⟨RE, hRE⟩ : ∃ RE : Int, RE = if B = true then 0 else 9 := ⟨_, rfl⟩
    rw [← hRL, ← hRE]
    replace hRL := hide hRL
    replace hRE := hide hRE
    go_enter Try.func18, Try.ntmps18
    go_wp2_with fail
    refine name_calls fun W hN => ?_
    have g0 : Blk W w.heap.size #[.int .u64 p, .int .i64 pub, .int .i64 vars, .slice ra R.length rc, .int .i64 sec, .slice ha H.length hc] 28 := by rw [hN]; exact Blk.newAt rfl
    have hB : Below w.heap.size w W := by rw [hN]; exact (Below.refl _ _).alloc (Nat.le_refl _) _
    clear hN
    have hz := hB.size
    refine (cR W (hR.mono hB) (hH.mono hB) (hu.mono hB) (hs.mono hB)).mono ?_
    rintro e w1 ⟨v1, rfl, own1, hb1⟩
    replace hB := below2 hB hb1
    replace g0 := g0.mono hb1
    replace own1 := own1.low hz
    clear hb1 cR hu hs hz
    obtain ⟨a1, c1, e1, sl1, _, _⟩ := Own.sl own1
    subst e1
    have k0 := g0.cell (j := 0) (v := .int .u64 p) rfl; have k1 := g0.cell (j := 1) (v := .int .i64 pub) rfl; have k2 := g0.cell (j := 2) (v := .int .i64 vars) rfl; have k3 := g0.cell (j := 3) (v := .slice ra R.length rc) rfl; have k4 := g0.cell (j := 4) (v := .int .i64 sec) rfl; have k5 := g0.cell (j := 5) (v := .slice ha H.length hc) rfl
    go_wp2_with fail
    refine (cS a1 c1 w1 (hR.mono hB) sl1).mono ?_
    rintro e w2 ⟨rfl, hb2⟩
    replace hB := below2 hB hb2
    replace own1 := own1.mono hb2
    clear hb2 cS k0 k1 k2 k3 k4 k5 sl1
    cases B with
    | false =>
      have e1 := hide (show RL = [] from hRL.out)
      have e2 := hide (show RE = 9 from hRE.out)
      clear hRL hRE
      go_wp2
      exact bodyPost_ret (v := .tuple #[.slice none 0 0, .int .i64 9]) (by simp [results, Try.results18, go_sem]) rfl ⟨_, by rw [e2.out], by rw [e1.out]; exact Own.nil _ _ _ _, hB⟩
    | true =>
      have e1 := hide (show RL = L from hRL.out)
      have e2 := hide (show RE = 0 from hRE.out)
      clear hRL hRE
      go_wp2
      exact bodyPost_ret (v := .tuple #[.slice a1 L.length c1, .int .i64 0]) (by simp [results, Try.results18, go_sem]) rfl ⟨_, by rw [e2.out], by rw [e1.out]; exact own1, hB⟩

set_option maxRecDepth 10000 in
set_option maxHeartbeats 4000000 in
theorem rSat22_any (p pub vars : Int) (ra : Option Addr) (R : List Rw) (rc : Nat) (sec : Int) (ha : Option Addr) (H : List Hn) (hc : Nat) (ua : Option Addr) (uc : Nat) (u : List Int) (sa : Option Addr) (sc : Nat) (s : List Int) (w : World)
    (hR : RowsP w ra rc R) (hH : HintsP w ha hc H) (hsec : (Lit.int .i64 sec).wf = true) (hu : Sl w .u64 ua u) (hs : Sl w .u64 sa s) (hAu : AllW u) (hAs : AllW s) :
    Calls Try.prog 19 #[.agg #[.int .u64 p, .int .i64 pub, .int .i64 vars, .slice ra R.length rc, .int .i64 sec, .slice ha H.length hc], .slice ua u.length uc, .slice sa s.length sc] w (RetR w (satL p pub vars R sec H u s) (satE p pub vars R sec H u s)) := by
  have cR := fun W h1 h2 h3 h4 => rRun_any p pub vars ra R rc sec ha H hc ua uc u sa sc s W h1 h2 hsec h3 h4 hAu hAs
  have hWl := runL_W (p := p) (pub := pub) (vars := vars) (R := R) (sec := sec) (H := H) hAu hAs
  have cS := fun (wa : Option Addr) (wc : Nat) W h1 h2 => rSat_any p pub vars ra R rc wa wc (runL p pub vars R sec H u s) W h1 h2 hWl
  obtain ⟨K, hK⟩ : ∃ K, K = runOk p pub vars R sec H u s := ⟨_, rfl⟩
  cases K with
  | false =>
    obtain ⟨e1, e2, e3, e4⟩ := runE_no hK.symm
    rw [e1, e2] at cR
    rw [e3, e4]
    clear cS hWl e1 e2 e3 e4 hK hsec hAu hAs
    go_enter Try.func19, Try.ntmps19
    go_wp2_with fail
    refine name_calls fun W hN => ?_
    have g0 : Blk W w.heap.size #[.int .u64 p, .int .i64 pub, .int .i64 vars, .slice ra R.length rc, .int .i64 sec, .slice ha H.length hc] 28 := by rw [hN]; exact Blk.newAt rfl
    have hB : Below w.heap.size w W := by rw [hN]; exact (Below.refl _ _).alloc (Nat.le_refl _) _
    clear hN
    have hz := hB.size
    refine (cR W (hR.mono hB) (hH.mono hB) (hu.mono hB) (hs.mono hB)).mono ?_
    rintro e w1 ⟨v1, rfl, own1, hb1⟩
    replace hB := below2 hB hb1
    replace own1 := own1.low hz
    clear hb1 cR
    rcases own1.form with ⟨rfl, _⟩ | ⟨g, cap, cur, rfl, _⟩
    · go_wp2
      exact bodyPost_ret (v := .tuple #[.slice none 0 0, .int .i64 1]) (by simp [results, Try.results19, go_sem]) rfl ⟨_, rfl, Own.nil _ _ _ _, hB⟩
    · go_wp2
      exact bodyPost_ret (v := .tuple #[.slice (some ⟨g, 0, none⟩) ([] : List Int).length cap, .int .i64 1]) (by simp [results, Try.results19, go_sem]) rfl ⟨_, rfl, own1, hB⟩
  | true =>
    obtain ⟨e1, e3, e4⟩ := runE_of hK.symm
    rw [e1] at cR
    rw [e3, e4]
    clear e1 e3 e4 hK hsec hAu hAs
    generalize runL p pub vars R sec H u s = L at *
    obtain ⟨B, hBe⟩ : ∃ B, B = satOk p pub vars R L := ⟨_, rfl⟩
    rw [← hBe] at cS ⊢
    replace hBe := hide hBe
    obtain ⟨RL, hRL⟩ : ∃ RL, RL = if B = true then L else [] := ⟨_, rfl⟩
    obtain ⟨RE, hRE⟩ : ∃ RE : Int, RE = if B = true then 0 else 9 := ⟨_, rfl⟩
    rw [← hRL, ← hRE]
    replace hRL := hide hRL
    replace hRE := hide hRE
    go_enter Try.func19, Try.ntmps19
    go_wp2_with fail
    refine name_calls fun W hN => ?_
    have g0 : Blk W w.heap.size #[.int .u64 p, .int .i64 pub, .int .i64 vars, .slice ra R.length rc, .int .i64 sec, .slice ha H.length hc] 28 := by rw [hN]; exact Blk.newAt rfl
    have hB : Below w.heap.size w W := by rw [hN]; exact (Below.refl _ _).alloc (Nat.le_refl _) _
    clear hN
    have hz := hB.size
    refine (cR W (hR.mono hB) (hH.mono hB) (hu.mono hB) (hs.mono hB)).mono ?_
    rintro e w1 ⟨v1, rfl, own1, hb1⟩
    replace hB := below2 hB hb1
    replace g0 := g0.mono hb1
    replace own1 := own1.low hz
    clear hb1 cR hu hs hz
    obtain ⟨a1, c1, e1, sl1, _, _⟩ := Own.sl own1
    subst e1
    have k0 := g0.cell (j := 0) (v := .int .u64 p) rfl; have k1 := g0.cell (j := 1) (v := .int .i64 pub) rfl; have k2 := g0.cell (j := 2) (v := .int .i64 vars) rfl; have k3 := g0.cell (j := 3) (v := .slice ra R.length rc) rfl; have k4 := g0.cell (j := 4) (v := .int .i64 sec) rfl; have k5 := g0.cell (j := 5) (v := .slice ha H.length hc) rfl
    go_wp2_with fail
    refine (cS a1 c1 w1 (hR.mono hB) sl1).mono ?_
    rintro e w2 ⟨rfl, hb2⟩
    replace hB := below2 hB hb2
    replace own1 := own1.mono hb2
    clear hb2 cS k0 k1 k2 k3 k4 k5 sl1
    cases B with
    | false =>
      have e1 := hide (show RL = [] from hRL.out)
      have e2 := hide (show RE = 9 from hRE.out)
      clear hRL hRE
      go_wp2
      exact bodyPost_ret (v := .tuple #[.slice none 0 0, .int .i64 9]) (by simp [results, Try.results19, go_sem]) rfl ⟨_, by rw [e2.out], by rw [e1.out]; exact Own.nil _ _ _ _, hB⟩
    | true =>
      have e1 := hide (show RL = L from hRL.out)
      have e2 := hide (show RE = 0 from hRE.out)
      clear hRL hRE
      go_wp2
      exact bodyPost_ret (v := .tuple #[.slice a1 L.length c1, .int .i64 0]) (by simp [results, Try.results19, go_sem]) rfl ⟨_, by rw [e2.out], by rw [e1.out]; exact own1, hB⟩
end Go.Proofs.Ytlflkddgdbdebaa
