/- awake23. -/
import Derived.Test.YtalmgeefkcebdaaGreatDoorQ35
namespace Go.Proofs.YtalmgeefkcebdaaGreatDoor
open Go.RowKit

theorem sl_one {w : World} {b : Nat} {x : Int} (g : Blk w b #[.int .u64 x] 23) : Sl w .u64 (some ⟨b, 0, none⟩) [x] := fun _ =>
  ⟨b, 0, rfl, g.lt, fun i hi => by
    have : i = 0 := by simpa using hi
    subst this
    exact g.cell rfl⟩
theorem allW_one {x : Int} (h : 0 ≤ x ∧ x < 18446744073709551616) : AllW [x] := fun y hy => by
  rcases List.mem_cons.1 hy with rfl | hy
  · exact h
  · cases hy
set_option maxRecDepth 10000 in
set_option maxHeartbeats 32000000 in
theorem awake23_any (m : Int) (w : World) (hm : w.cell? ⟨5, 0, none⟩ = some (.int .i64 m)) (hO : POps w) (h5 : 5 < w.heap.size) :
    Calls Tryz.prog 4 #[] w fun e w' => e = .returned (.bool true) ∧ Below w.heap.size w w' := by
  have cP := Program_txt m w hm hO h5
  have cC := fun v W (h : PgP W v ds0 T0) => Compile_any v ds0 T0 17 (by decide) cp0 W h
  obtain ⟨x1, x2, x3, x4⟩ := cs_vars
  have xR := cs_RT
  have w3 := ext0 9 3 (by decide) (by decide)
  have w4 := ext0 9 4 (by decide) (by decide)
  have hL : (cS 17 ds0 T0).R.length ≤ 16384 := by rw [xR]; decide
  have cS3 : ∀ (R : List Rw) (H : List Hn), R.map Rw.val = (cS 17 ds0 T0).R → H.map Hn.val = (cS 17 ds0 T0).H → tblOk 17 1 6 R = true ∧ satE 17 1 6 R 1 H [9] [3] = 0 ∧ satE 17 1 6 R 1 H [9] [4] = 9 ∧ cntN 17 1 6 R [9] 10 = 2 ∧ cntE 17 1 6 R [9] 10 = 0 := fun R H eR eH => by
    have q1 := sat_if w3.1 (by rw [x2]; rfl) (by rw [x3]; decide) hL eR eH
    have q2 := sat_if w4.1 (by rw [x2]; rfl) (by rw [x3]; decide) hL eR eH
    rw [x1, x2, x3, x4] at q1 q2
    have hT := (cir_bd q1.1).1
    have hc : cntOk 17 1 6 R [9] 10 = true := by
      unfold cntOk
      rw [hT]
      decide
    refine ⟨hT, q1.2.1 (w3.2.2 (by decide)), q2.2.2 (fun h => absurd (w4.2.1 h) (by decide)), ?_, ?_⟩
    · unfold cntN
      rw [if_pos hc, if_neg (by decide), eR, xR]
      show totN 17 RT 6 [9] 10 = 2
      unfold totN
      rw [if_pos (show preOk ((17 : Nat) : Int) RT [9] = true from pre_RT)]
      show min (10 : Int) ((cnt 17 RT 4 [1, 9] : Nat) : Int) = 2
      rw [cnt_RT]
      decide
    · unfold cntE
      rw [if_pos hc, if_neg (by decide)]
  have cH := fun v W pu se (h : PgP W v ds0 T0) (gP : Blk W pu #[.int .u64 9] 23) (gS : Blk W se #[.int .u64 14] 23) => Holds_any v nX nY T0 pg0 (by decide +kernel) 17 (by decide) 9 14 (by decide) (by decide) ⟨.inr rfl, ⟨.inl rfl, (by decide +kernel : (getS [(nX, 9), (nY, 14)] nY).isSome = true), (by decide +kernel : (getS [(nX, 9), (nY, 14)] nY).isSome = true)⟩, (by decide +kernel : (getS [(nX, 9), (nY, 14)] nX).isSome = true)⟩ (by decide +kernel) W h pu se gP gS
  unfold RetCp at cC
  rw [x1, x2, x3, x4] at cC
  clear hm hO x1 x2 x3 x4 xR w3 w4 hL
  go_enter Tryz.func4, Tryz.ntmps4
  go_wp2_with fail
  refine cP.mono ?_
  rintro e w1 ⟨bd, cd, bb, bc, ev, rfl, hD, hSt, hR, hb1⟩
  have hP : PgP w1 (.agg #[.slice none 0 0, .slice (some ⟨bd, 0, none⟩) 2 cd, .slice (some ⟨bb, 0, none⟩) 1 bc]) ds0 T0 := ⟨bd, cd, bb, bc, ev, rfl, hD, hSt, hR⟩
  clear hD hSt hR cP
  go_wp2_with fail
  refine name_calls fun W hN => ?_
  have hb2 : Below w1.heap.size w1 W := by rw [hN]; exact (Below.refl _ _).alloc (Nat.le_refl _) _
  have gA : Blk W w1.heap.size #[.slice none 0 0, .slice (some ⟨bd, 0, none⟩) 2 cd, .slice (some ⟨bb, 0, none⟩) 1 bc] 41 := by rw [hN]; exact Blk.newAt rfl
  have hB2 := below2 hb1 hb2
  replace hP := hP.mono hb2
  clear hN hb1 hb2
  refine (cC _ W hP).mono ?_
  rintro e w3 ⟨ra, rc, R, ha, hc, H, rfl, hR, hH, eR, eH, hb3⟩
  replace gA := gA.mono hb3
  replace hP := hP.mono hb3
  have hB3 := below2 hB2 hb3
  obtain ⟨hT, q3, q4, q5, q6⟩ := cS3 R H eR.out eH.out
  have cT := fun W (hR : RowsP W ra rc R) => tValid_any 17 1 6 ra R rc W hR
  have c3 := fun W (hR : RowsP W ra rc R) (hH : HintsP W ha hc H) b1 b2 (g1 : Blk W b1 #[.int .u64 9] 23) (g2 : Blk W b2 #[.int .u64 3] 23) => aSat_any 17 1 6 ra R rc 1 ha H hc (some ⟨b1, 0, none⟩) 1 [9] (some ⟨b2, 0, none⟩) 1 [3] W hR hH (by decide) (sl_one g1) (sl_one g2) (allW_one (by decide)) (allW_one (by decide))
  have c4 := fun W (hR : RowsP W ra rc R) (hH : HintsP W ha hc H) b1 b2 (g1 : Blk W b1 #[.int .u64 9] 23) (g2 : Blk W b2 #[.int .u64 4] 23) => aSat_any 17 1 6 ra R rc 1 ha H hc (some ⟨b1, 0, none⟩) 1 [9] (some ⟨b2, 0, none⟩) 1 [4] W hR hH (by decide) (sl_one g1) (sl_one g2) (allW_one (by decide)) (allW_one (by decide))
  have c5 := fun W (hR : RowsP W ra rc R) b1 (g1 : Blk W b1 #[.int .u64 9] 23) => Count_any 17 1 6 ra R rc (some ⟨b1, 0, none⟩) 1 [9] 10 W hR (sl_one g1) (allW_one (by decide)) (by decide) (by decide)
  rw [q3] at c3
  rw [q4] at c4
  rw [q5, q6] at c5
  rw [hT] at cT
  generalize satL 17 1 6 R 1 H [9] [3] = L3 at c3
  generalize satL 17 1 6 R 1 H [9] [4] = L4 at c4
  obtain ⟨M, hM⟩ : ∃ M, R.length = M := ⟨_, rfl⟩
  obtain ⟨K, hK⟩ : ∃ K, H.length = K := ⟨_, rfl⟩
  rw [hM] at cT c3 c4 c5 ⊢
  rw [hK] at c3 c4 ⊢
  rw [show ([9] : List Int).length = 1 from rfl] at c3 c4 c5
  rw [show ([3] : List Int).length = 1 from rfl] at c3
  rw [show ([4] : List Int).length = 1 from rfl] at c4
  clear hM hK eR eH hT q3 q4 q5 q6 cS3 cC hb3 hB2
  have hC0 : ∀ W', W' = w3.alloc (.cells #[.int .u64 17, .int .i64 1, .int .i64 6, .slice ra M rc, .int .i64 1, .slice ha K hc] 47) → Blk W' w3.heap.size #[.int .u64 17, .int .i64 1, .int .i64 6, .slice ra M rc, .int .i64 1, .slice ha K hc] 47 := fun W' h => by rw [h]; exact Blk.newAt rfl
  go_wp2_with fail
  refine name_calls fun W4 hN => ?_
  have hb4 : Below w3.heap.size w3 W4 := by rw [hN]; exact (Below.refl _ _).alloc (Nat.le_refl _) _
  have gC := hC0 W4 hN
  replace gA := gA.mono hb4
  replace hP := hP.mono hb4
  replace hR := hR.mono hb4
  replace hH := hH.mono hb4
  have hB4 := below2 hB3 hb4
  clear hN hb4 hC0 hB3
  refine (cT W4 hR).mono ?_
  rintro e w5 ⟨rfl, hb5⟩
  replace gA := gA.mono hb5
  replace gC := gC.mono hb5
  replace hP := hP.mono hb5
  replace hR := hR.mono hb5
  replace hH := hH.mono hb5
  have hB5 := below2 hB4 hb5
  clear cT hb5 hB4
  have k0 := gC.cell (j := 0) (v := .int .u64 17) rfl; have k1 := gC.cell (j := 1) (v := .int .i64 1) rfl; have k2 := gC.cell (j := 2) (v := .int .i64 6) rfl; have k3 := gC.cell (j := 3) (v := .slice ra M rc) rfl; have k4 := gC.cell (j := 4) (v := .int .i64 1) rfl; have k5 := gC.cell (j := 5) (v := .slice ha K hc) rfl
  go_wp2_with fail
  refine name_calls fun W6 hN => ?_
  have hb6 : Below w5.heap.size w5 W6 := by rw [hN]; exact ((Below.refl _ _).alloc (Nat.le_refl _) _).alloc (by simp) _
  have g1 : Blk W6 w5.heap.size #[.int .u64 9] 23 := by rw [hN]; exact (Blk.newAt rfl).alloc _
  have g2 : Blk W6 (w5.heap.size + 1) #[.int .u64 3] 23 := by rw [hN]; exact Blk.newAt (by simp)
  clear hN k0 k1 k2 k3 k4 k5
  refine (c3 W6 (hR.mono hb6) (hH.mono hb6) _ _ g1 g2).mono ?_
  rintro e w7 ⟨v7, rfl, _, hb7⟩
  have hb67 := below2 hb6 hb7
  replace gA := gA.mono hb67
  replace gC := gC.mono hb67
  replace hP := hP.mono hb67
  replace hR := hR.mono hb67
  replace hH := hH.mono hb67
  have hB7 := below2 hB5 hb67
  clear c3 hb6 hb7 hb67 g1 g2 hB5
  have k0 := gC.cell (j := 0) (v := .int .u64 17) rfl; have k1 := gC.cell (j := 1) (v := .int .i64 1) rfl; have k2 := gC.cell (j := 2) (v := .int .i64 6) rfl; have k3 := gC.cell (j := 3) (v := .slice ra M rc) rfl; have k4 := gC.cell (j := 4) (v := .int .i64 1) rfl; have k5 := gC.cell (j := 5) (v := .slice ha K hc) rfl
  go_wp2_with fail
  refine name_calls fun W8 hN => ?_
  have hb8 : Below w7.heap.size w7 W8 := by rw [hN]; exact ((Below.refl _ _).alloc (Nat.le_refl _) _).alloc (by simp) _
  have g1 : Blk W8 w7.heap.size #[.int .u64 9] 23 := by rw [hN]; exact (Blk.newAt rfl).alloc _
  have g2 : Blk W8 (w7.heap.size + 1) #[.int .u64 4] 23 := by rw [hN]; exact Blk.newAt (by simp)
  clear hN k0 k1 k2 k3 k4 k5
  refine (c4 W8 (hR.mono hb8) (hH.mono hb8) _ _ g1 g2).mono ?_
  rintro e w9 ⟨v9, rfl, _, hb9⟩
  have hb89 := below2 hb8 hb9
  replace gA := gA.mono hb89
  replace gC := gC.mono hb89
  replace hP := hP.mono hb89
  replace hR := hR.mono hb89
  have hB9 := below2 hB7 hb89
  clear c4 hb8 hb9 hb89 g1 g2 hB7 hH
  have a0 := gA.cell (j := 0) (v := .slice none 0 0) rfl; have a1 := gA.cell (j := 1) (v := .slice (some ⟨bd, 0, none⟩) 2 cd) rfl; have a2 := gA.cell (j := 2) (v := .slice (some ⟨bb, 0, none⟩) 1 bc) rfl
  go_wp2_with fail
  refine name_calls fun W10 hN => ?_
  have hb10 : Below w9.heap.size w9 W10 := by rw [hN]; exact ((Below.refl _ _).alloc (Nat.le_refl _) _).alloc (by simp) _
  have g1 : Blk W10 w9.heap.size #[.int .u64 9] 23 := by rw [hN]; exact (Blk.newAt rfl).alloc _
  have g2 : Blk W10 (w9.heap.size + 1) #[.int .u64 14] 23 := by rw [hN]; exact Blk.newAt (by simp)
  clear hN a0 a1 a2
  refine (cH _ W10 _ _ (hP.mono hb10) g1 g2).mono ?_
  rintro e w11 ⟨rfl, hb11⟩
  have hb1011 := below2 hb10 hb11
  replace gC := gC.mono hb1011
  replace hR := hR.mono hb1011
  have hB11 := below2 hB9 hb1011
  clear cH hb10 hb11 hb1011 g1 g2 hB9 gA hP
  have k0 := gC.cell (j := 0) (v := .int .u64 17) rfl; have k1 := gC.cell (j := 1) (v := .int .i64 1) rfl; have k2 := gC.cell (j := 2) (v := .int .i64 6) rfl; have k3 := gC.cell (j := 3) (v := .slice ra M rc) rfl
  go_wp2_with fail
  refine name_calls fun W12 hN => ?_
  have hb12 : Below w11.heap.size w11 W12 := by rw [hN]; exact (Below.refl _ _).alloc (Nat.le_refl _) _
  have g1 : Blk W12 w11.heap.size #[.int .u64 9] 23 := by rw [hN]; exact Blk.newAt rfl
  clear hN k0 k1 k2 k3
  refine (c5 W12 (hR.mono hb12) _ g1).mono ?_
  rintro e w13 ⟨rfl, hb13⟩
  have hB13 := below2 hB11 (below2 hb12 hb13)
  clear c5 hb12 hb13 g1 hR gC hB11
  go_wp2
  go_ret
  exact ⟨by first | rfl | simp, hB13⟩

/-- The known primes. -/
def primes5 : List Int := [17, 97, 193, 257, 12289, 65537, 18446744069414584321]
theorem Known5_any (w : World) : Calls Tryz.prog 14 #[] w fun e w' => ∃ b, e = .returned (.slice (some ⟨b, 0, none⟩) 7 7) ∧ Blk w' b #[.int .u64 17, .int .u64 97, .int .u64 193, .int .u64 257, .int .u64 12289, .int .u64 65537, .int .u64 18446744069414584321] 23 ∧ Below w.heap.size w w' := by
  go_enter Tryz.func14, Tryz.ntmps14
  go_wp2
  go_ret
  exact ⟨_, rfl, Blk.newAt rfl, (Below.refl _ _).alloc (Nat.le_refl _) _⟩
theorem prime5_vld : ∀ i, i < 7 → vld (primes5.getD i 0) = true := by
  intro i hi
  have : i = 0 ∨ i = 1 ∨ i = 2 ∨ i = 3 ∨ i = 4 ∨ i = 5 ∨ i = 6 := by omega
  rcases this with rfl | rfl | rfl | rfl | rfl | rfl | rfl <;> rfl
theorem Prime5_any (k : Int) (w : World) (hk : 0 ≤ k ∧ k < 256) : Calls Tryz.prog 5 #[.int .u8 k] w fun e w' => ∃ p, e = .returned (.int .u64 p) ∧ vld p = true ∧ Below w.heap.size w w' := by
  have hm := mod_lt' (show (0 : Int) < 7 by decide) k
  obtain ⟨i, hi⟩ : ∃ i : Nat, (i : Int) = k % 7 := ⟨(k % 7).toNat, by omega⟩
  have hi7 : i < 7 := by omega
  have hit : (k % 7).toNat = i := by omega
  have hv := prime5_vld i hi7
  have cK := Known5_any w
  replace hit := hide hit
  replace hi := hide hi
  replace hv := hide hv
  go_enter Tryz.func5, Tryz.ntmps5
  go_wp2_with fail
  refine cK.mono ?_
  rintro e w1 ⟨b, rfl, g, hb⟩
  have he : w1.cell? ⟨b, (k % 7).toNat, none⟩ = some (.int .u64 (primes5.getD i 0)) := by
    rw [hit.out]
    have : i = 0 ∨ i = 1 ∨ i = 2 ∨ i = 3 ∨ i = 4 ∨ i = 5 ∨ i = 6 := by omega
    rcases this with rfl | rfl | rfl | rfl | rfl | rfl | rfl <;> exact g.cell rfl
  generalize primes5.getD i 0 = p at *
  clear cK g
  go_wp2
  go_ret
  exact ⟨p, rfl, hv.out, hb⟩
/-- Program 2: x == hash(label; a, b). -/
def nA : ByteArray := ⟨#[97]⟩
def nB : ByteArray := ⟨#[98]⟩
def ds1 : List (Bool × ByteArray) := [(true, nX), (false, nA), (false, nB)]
def T1 (lb : Int) : Tr := .bin 14 0 (.nm nX) (.bin 6 lb (.nm nA) (.nm nB))
theorem nmOkA : NmOk nA := ⟨by decide +kernel, by decide +kernel, by decide +kernel, by decide +kernel, by decide +kernel, by decide +kernel⟩
theorem nmOkB : NmOk nB := ⟨by decide +kernel, by decide +kernel, by decide +kernel, by decide +kernel, by decide +kernel, by decide +kernel⟩
theorem names1 : inNs (pubN ds1) ds1 ds1.length = [(nX, [(1,1)]), (nA, [(2,1)]), (nB, [(3,1)])] := by kernel_rfl
theorem pg1 (lb : Int) (hlb : 0 ≤ lb ∧ lb < 65536) : PgOk ds1 (T1 lb) := by
  have h1 : ∀ d ∈ ds1, NmOk d.2 := fun d hd => by
    rcases List.mem_cons.1 hd with rfl | hd
    · exact nmOkX
    · rcases List.mem_cons.1 hd with rfl | hd
      · exact nmOkA
      · rcases List.mem_cons.1 hd with rfl | hd
        · exact nmOkB
        · cases hd
  have h2 : ∀ j, j < ds1.length → getM (syL ((nms ds1).take j)) (ds1.getD j (false, ⟨#[]⟩)).2 = none := fun j hj => by
    rcases (show j = 0 ∨ j = 1 ∨ j = 2 by have : j < 3 := hj; omega) with rfl | rfl | rfl
    · kernel_rfl
    · kernel_rfl
    · kernel_rfl
  exact ⟨⟨.inr ⟨.inr rfl, rfl⟩, by decide, nmOkX, .inl rfl, hlb.1, nmOkA, nmOkB⟩, (show (3 : Nat) ≤ 40 by decide), h1, by decide, h2, ⟨.inr (.inr rfl), (show getM (syL (nms ds1)) nX = some symV by kernel_rfl), .inl ⟨rfl, hlb.2⟩, (show getM (syL (nms ds1)) nA = some symV by kernel_rfl), (show getM (syL (nms ds1)) nB = some symV by kernel_rfl)⟩, rfl⟩
theorem gok1 (lb : Int) (hlb : 0 ≤ lb ∧ lb < 65536) : (T1 lb).gok (inNs (pubN ds1) ds1 ds1.length) := by
  rw [names1]
  exact ⟨.inr (.inl rfl), ⟨by decide, by decide⟩, ⟨[(1,1)], by kernel_rfl, by simp⟩, ⟨.inr (.inr rfl), ⟨hlb.1, by omega⟩, ⟨[(2,1)], by kernel_rfl, by simp⟩, ⟨[(3,1)], by kernel_rfl, by simp⟩⟩⟩
theorem in1 : ∀ x ∈ inNs (pubN ds1) ds1 ds1.length, ∃ i : Nat, i < 3 ∧ x.2 = [(1 + (i : Int), 1)] := by
  rw [names1]
  intro x hx
  rcases List.mem_cons.1 hx with rfl | hx
  · exact ⟨0, by decide, rfl⟩
  · rcases List.mem_cons.1 hx with rfl | hx
    · exact ⟨1, by decide, rfl⟩
    · rcases List.mem_cons.1 hx with rfl | hx
      · exact ⟨2, by decide, rfl⟩
      · cases hx
theorem ext1 {p : Int} (lb x a b : Int) (hv : vld p = true) (hlb : 0 ≤ lb ∧ lb < 65536) (hx : 0 ≤ x ∧ x < p) (ha : 0 ≤ a ∧ a < p) (hb : 0 ≤ b ∧ b < p) :
    Wf (cS p ds1 (T1 lb)) ([x] ++ [a, b]) ∧ (Sat (cS p ds1 (T1 lb)) ([x] ++ [a, b]) ↔ x = (absorb p lb [a, b]).a) ∧ (cS p ds1 (T1 lb)).p = p ∧ (cS p ds1 (T1 lb)).pub = 1 ∧ (cS p ds1 (T1 lb)).sec = 2 := by
  have hI : ∀ y ∈ [x, a, b], 0 ≤ y ∧ y < p := fun y hy => by
    rcases List.mem_cons.1 hy with rfl | hy
    · exact hx
    · rcases List.mem_cons.1 hy with rfl | hy
      · exact ha
      · rcases List.mem_cons.1 hy with rfl | hy
        · exact hb
        · cases hy
  obtain ⟨wf, s, e1, e2, e3⟩ := cS_ext (p := p) (ds := ds1) (t := T1 lb) (I := [x, a, b]) hv (gok1 lb hlb) hI rfl in1
  refine ⟨wf, s.trans ?_, e1, e2, e3⟩
  have vx : nmV p ds1 [x, a, b] nX = x := (new_in (p := p) (pub := 1) (sec := 2) (I := [x, a, b]) hv hI ⟨by decide, by decide, rfl⟩ (i := 0) (show 0 < 3 by decide)).2
  have va : nmV p ds1 [x, a, b] nA = a := (new_in (p := p) (pub := 1) (sec := 2) (I := [x, a, b]) hv hI ⟨by decide, by decide, rfl⟩ (i := 1) (show 1 < 3 by decide)).2
  have vb : nmV p ds1 [x, a, b] nB = b := (new_in (p := p) (pub := 1) (sec := 2) (I := [x, a, b]) hv hI ⟨by decide, by decide, rfl⟩ (i := 2) (show 2 < 3 by decide)).2
  have e : tv p (nmV p ds1 [x, a, b]) (T1 lb) = if nmV p ds1 [x, a, b] nX = (absorb p lb [nmV p ds1 [x, a, b] nA, nmV p ds1 [x, a, b] nB]).a then 1 else 0 := by
    unfold T1
    rw [tv14, tv6]
    rfl
  rw [e, vx, va, vb]
  split
  · rename_i h; exact ⟨fun _ => h, fun _ => rfl⟩
  · rename_i h; exact ⟨fun h2 => absurd h2 (by decide), fun h2 => absurd h2 h⟩
theorem bd1 {p : Int} (lb : Int) : (cS p ds1 (T1 lb)).vars ≤ 65536 ∧ (cS p ds1 (T1 lb)).R.length ≤ 16384 := by
  have hB := cS_bd (p := p) (ds := ds1) (T1 lb) (by decide)
  have hc : cTr (T1 lb) = 2000 := rfl
  have := hB.v
  have := hB.r
  exact ⟨by omega, by omega⟩
theorem cp1 {p : Int} (lb : Int) (hv : vld p = true) (hlb : 0 ≤ lb ∧ lb < 65536) : CpOk p ds1 (T1 lb) := by
  have hp := vld_pos hv
  obtain ⟨wf, _⟩ := ext1 (p := p) lb 0 0 0 hv hlb ⟨by omega, by omega⟩ ⟨by omega, by omega⟩ ⟨by omega, by omega⟩
  have h6 := bd1 (p := p) lb
  have h2 : ∀ j, j < ds1.length → getN (inNs (pubN ds1) ds1 j) (ds1.getD j (false, ⟨#[]⟩)).2 = none := fun j hj => by
    rcases (show j = 0 ∨ j = 1 ∨ j = 2 by have : j < 3 := hj; omega) with rfl | rfl | rfl
    · kernel_rfl
    · kernel_rfl
    · kernel_rfl
  have hr : rTr p (T1 lb) = 24 * xrows p + 3 := by
    show 0 + (0 + 0 + (if (6 : Int) = 11 then 1 else if (6 : Int) = 14 then 3 else 24 * xrows p)) + (if (14 : Int) = 11 then 1 else if (14 : Int) = 14 then 3 else 24 * xrows p) = _
    rw [if_neg (by decide), if_neg (by decide), if_neg (by decide), if_pos rfl]
    omega
  have hx := xrows_bd p
  exact ⟨pg1 lb hlb, h2, gok1 lb hlb, by omega, (show (2000 : Int) ≤ 10000 by decide), wf.szR (by omega), wf.szH (by omega)⟩
set_option maxHeartbeats 4000000 in
theorem name23_any (s : ByteArray) (w : World) : Calls Tryz.prog 6 #[.string s] w fun e w' => e = .returned (.agg #[.int .i64 2, .int .u64 0, .string s, .slice none 0 0]) ∧ Below w.heap.size w w' := by
  obtain ⟨W7, hW7⟩ : ∃ W7, W7 = w.alloc (.cells #[.int .i64 2, .int .u64 0, .string s, .slice none 0 0] 29) := ⟨_, rfl⟩
  have hB : Below w.heap.size w W7 := by rw [hW7]; exact (Below.refl _ _).alloc (Nat.le_refl _) _
  have gV : Blk W7 w.heap.size #[.int .i64 2, .int .u64 0, .string s, .slice none 0 0] 29 := by rw [hW7]; exact Blk.newAt rfl
  have z0 := gV.cell (j := 0) (v := .int .i64 2) rfl; have z1 := gV.cell (j := 1) (v := .int .u64 0) rfl; have z2 := gV.cell (j := 2) (v := .string s) rfl; have z3 := gV.cell (j := 3) (v := .slice none 0 0) rfl
  go_enter Tryz.func6, Tryz.ntmps6
  go_wp2
  rw [← hW7]
  exact bodyPost_ret (v := .agg #[.int .i64 2, .int .u64 0, .string s, .slice none 0 0]) (by simp [results, Tryz.results6, go_sem, z0, z1, z2, z3]) rfl ⟨rfl, hB⟩


def AllB (xs : List Int) : Prop := ∀ x ∈ xs, 0 ≤ x ∧ x < 256
theorem AllB.drop {xs : List Int} (h : AllB xs) (n : Nat) : AllB (xs.drop n) := fun x hx => h x (List.mem_of_mem_drop hx)

/-! The reference. -/

def big : Int := 18446744069414584321
/-! ref04.Reduced. -/
/-! A hash depends on the label and the elements modulo the prime. -/
theorem mix_lt {p : Int} (hv : vld p = true) (s : T3) : (mix p s).a < p ∧ (mix p s).b < p ∧ (mix p s).c < p := by
  have hp := vld_pos hv
  have h : ∀ a b, fadd p a b < p := fun a b => by rw [fadd_eq hv]; exact Int.emod_lt_of_pos _ (by omega)
  exact ⟨h _ _, h _ _, h _ _⟩
theorem permute_lt {p : Int} (hv : vld p = true) (s : T3) : (permute p s).a < p ∧ (permute p s).b < p ∧ (permute p s).c < p := by
  unfold permute
  rw [if_pos hv]
  have := permN_succ p 7 s (by decide)
  have e8 : ((7 : Int) + 1).toNat = 8 := rfl
  rw [e8] at this
  rw [this]
  exact mix_lt hv _
theorem absL_lt {p : Int} (hv : vld p = true) : ∀ (xs : List Int) (s : T3), (s.a < p ∧ s.b < p ∧ s.c < p) → (absL p xs s).a < p ∧ (absL p xs s).b < p ∧ (absL p xs s).c < p
  | [], _, h => h
  | [_], _, _ => permute_lt hv _
  | _ :: _ :: r, _, _ => absL_lt hv r _ (permute_lt hv _)
theorem absorb_lt {p : Int} (hv : vld p = true) (lb : Int) (xs : List Int) : (absorb p lb xs).a < p ∧ (absorb p lb xs).b < p ∧ (absorb p lb xs).c < p := by
  unfold absorb absF
  split
  · exact permute_lt hv _
  · have hp := vld_pos hv
    exact absL_lt hv _ _ ⟨by simp [absI]; omega, by simp [absI]; omega, by simp only [absI]; rw [fadd_eq hv]; exact Int.emod_lt_of_pos _ (by omega)⟩
theorem hash_lt {p : Int} (hv : vld p = true) (lb : Int) (xs : List Int) : hash p lb xs < p := by
  unfold hash
  rw [if_pos hv]
  exact (absorb_lt hv lb xs).1

end Go.Proofs.YtalmgeefkcebdaaGreatDoor

