/- The lexer: skip, next. -/
import Derived.Test.YtalmgeefkcebdaaGreatDoorQ06
import Derived.Deep.SlicePairs
namespace Go.Proofs.YtalmgeefkcebdaaGreatDoor
open Go.RowKit

theorem slHasPrefix_no (r t : ByteArray) (w : World) (ht : t.size = 2) (h : ((r.extract 0 2).toList == t.toList) = false) : Calls Tryz.prog 206 #[.string r, .string t] w fun e w' => e = .returned (.bool false) ∧ Below w.heap.size w w' := by
  have hb := Below.refl w.heap.size w
  have htI : (t.size : Int) = 2 := by omega
  by_cases h2 : 2 ≤ r.size
  · have h2I : (2 : Int) ≤ r.size := by omega
    go_enter Tryz.func206, Tryz.ntmps206
    go_wp2
    go_ret
    exact ⟨rfl, hb⟩
  · have h2I : ¬ (2 : Int) ≤ r.size := by omega
    go_enter Tryz.func206, Tryz.ntmps206
    go_wp2
    go_ret
    exact ⟨rfl, hb⟩
theorem HasPrefix_no (r t : ByteArray) (w : World) (ht : t.size = 2) (h : ((r.extract 0 2).toList == t.toList) = false) : Calls Tryz.prog 170 #[.string r, .string t] w fun e w' => e = .returned (.bool false) ∧ Below w.heap.size w w' := by
  have hc := fun W => slHasPrefix_no r t W ht h
  clear h ht
  go_enter Tryz.func170, Tryz.ntmps170
  go_wp2_with fail
  refine (hc _).mono ?_
  rintro ew1 w1 ⟨rfl, hb1⟩
  go_wp2
  go_ret
  exact ⟨rfl, hb1⟩

set_option maxHeartbeats 1600000 in
theorem skip_any (s : ByteArray) (pos q : Nat) (w : World) (hs : s.size ≤ 9223372036854775807) (hpq : pos ≤ q) (hq : q ≤ s.size) (hbl : ∀ j (h : j < s.size), pos ≤ j → j < q → s[j].toNat = 32)
    (hst : ∀ h : q < s.size, s[q].toNat ≠ 32 ∧ s[q].toNat ≠ 9 ∧ s[q].toNat ≠ 13 ∧ s[q].toNat ≠ 10 ∧ (((s.extract q s.size).extract 0 2).toList == (⟨#[45, 45]⟩ : ByteArray).toList) = false) :
    Calls Tryz.prog 118 #[.string s, .int .i64 pos] w fun e w' => e = .returned (.int .i64 q) ∧ Below w.heap.size w w' := by
  replace hbl := hide hbl
  have hst' := hide hst
  clear hst
  go_enter Tryz.func118, Tryz.ntmps118
  go_wp2_with fail
  go_loopw [1] (fun t1 wr => ∃ k : Nat, pos ≤ k ∧ k ≤ q ∧ t1 = .int .i64 k ∧ Below w.heap.size w wr) (fun t1 _ => q - (intOf t1).toNat)
  case atStart => exact ⟨pos, Nat.le_refl _, hpq, rfl, Below.refl _ _⟩
  case round =>
    obtain ⟨k, hk0, hk, rfl, hB⟩ := hrel
    by_cases hlt : k < q
    · have hlt2 : k < s.size := by omega
      have hc := hbl.out k hlt2 hk0 hlt
      have hcI : ((s[k].toNat : Nat) : Int) = 32 := by omega
      go_wp2
      go_roundw
      case rel => exact ⟨k + 1, by omega, by omega, by go_num, hB⟩
      case measure => simp [intOf]; omega
    · obtain rfl : k = q := by omega
      by_cases hlt2 : k < s.size
      · obtain ⟨h1, h2, h3, h4, h5⟩ := hst'.out hlt2
        have i1 : ¬ ((s[k].toNat : Nat) : Int) = 32 := by omega
        have i2 : ¬ ((s[k].toNat : Nat) : Int) = 9 := by omega
        have i3 : ¬ ((s[k].toNat : Nat) : Int) = 13 := by omega
        have i4 : ¬ ((s[k].toNat : Nat) : Int) = 10 := by omega
        have hp := fun W => HasPrefix_no (s.extract k s.size) ⟨#[45, 45]⟩ W rfl h5
        have j1 : (((s[k].toNat : Nat) : Int) == 32) = false := by rw [beq_eq_false_iff_ne]; exact i1
        have j2 : (((s[k].toNat : Nat) : Int) == 9) = false := by rw [beq_eq_false_iff_ne]; exact i2
        have j3 : (((s[k].toNat : Nat) : Int) == 13) = false := by rw [beq_eq_false_iff_ne]; exact i3
        have j4 : (((s[k].toNat : Nat) : Int) == 10) = false := by rw [beq_eq_false_iff_ne]; exact i4
        clear h1 h2 h3 h4 h5 i1 i2 i3 i4
        go_wp2_with fail
        refine (hp _).mono ?_
        rintro e w2 ⟨rfl, hb2⟩
        go_wp2
        go_ret
        exact ⟨rfl, below2 hB hb2⟩
      · obtain rfl : k = s.size := by omega
        go_wp2
        go_ret
        exact ⟨rfl, hB⟩

theorem set4_below {n b : Nat} {w W : World} (hB : Below n w W) (hb : n ≤ b) (u0 u1 u2 u3 : Value) : Below n w ((((W.setCell ⟨b, 0, none⟩ u0).setCell ⟨b, 1, none⟩ u1).setCell ⟨b, 2, none⟩ u2).setCell ⟨b, 3, none⟩ u3) := by
  refine Below.setCell ?_ hb _
  refine Below.setCell ?_ hb _
  refine Below.setCell ?_ hb _
  exact Below.setCell hB hb _
def tokV (k : Int) (t : ByteArray) (pos : Int) : Value := .agg #[.int .i64 k, .string t, .int .u64 0, .int .i64 pos]
def RetTok (w : World) (k : Int) (t : ByteArray) (pos : Int) (e : Ending) (w' : World) : Prop := e = .returned (.tuple #[tokV k t pos, .int .i64 0]) ∧ Below w.heap.size w w'
set_option maxHeartbeats 4000000 in
theorem nextWord_any (s r : ByteArray) (pos n : Nat) (c : Int) (kw : Bool) (w : World) (_ : s.size ≤ 9223372036854775807) (hpos : pos < s.size) (hr : s.extract pos s.size = r) (hr0 : 0 < r.size) (hrs : r.size ≤ 9223372036854775807) (hc : ((r[0].toNat : Nat) : Int) = c) (hL : isL c = true) (hn : spanN r.data.toList = n) (hnr : n ≤ r.size)
    (hkw : decide (0 ≤ idxS kwL (r.extract 0 n) 0) = kw) (hlen : n ≤ 24) :
    Calls Tryz.prog 119 #[.string s, .int .i64 pos] w (RetTok w (if kw then 2 else 1) (r.extract 0 n) pos) := by
  have cL := fun W => isLetter_any c W
  rw [hL] at cL
  have cS := fun W => span_any r W hrs
  rw [hn] at cS
  have hts : (r.extract 0 n).size = n := by rw [ByteArray.size_extract]; omega
  have cK := fun W b g => ContainsS_any b 17 17 kwL (r.extract 0 n) W rfl (by decide) g
  rw [hkw] at cK
  have hlenI : ¬ (24 : Int) < n := by omega
  obtain ⟨t, ht⟩ : ∃ t, r.extract 0 n = t := ⟨_, rfl⟩
  rw [ht] at hts cK
  rw [ht]
  clear hL hn hkw
  cases kw with
  | true =>
    go_enter Tryz.func119, Tryz.ntmps119
    go_wp2_with fail
    refine name_calls fun W hN => ?_
    have gT : Blk W w.heap.size #[.int .i64 0, .string ⟨#[]⟩, .int .u64 0, .int .i64 0] 149 := by rw [hN]; exact Blk.newAt rfl
    have hB : Below w.heap.size w W := by rw [hN]; exact (Below.refl _ _).alloc (Nat.le_refl _) _
    clear hN
    refine (cL W).mono ?_
    rintro e w1 ⟨rfl, hb1⟩
    replace gT := gT.mono hb1
    replace hB := below2 hB hb1
    clear hb1 cL
    go_wp2_with fail
    refine (cS w1).mono ?_
    rintro e w2 ⟨rfl, hb2⟩
    replace gT := gT.mono hb2
    replace hB := below2 hB hb2
    clear hb2 cS
    go_wp2_with fail
    refine (Keywords_any w2).mono ?_
    rintro e w3 ⟨b, rfl, gK, hb3⟩
    replace gT := gT.mono hb3
    replace hB := below2 hB hb3
    clear hb3
    go_wp2_with fail
    refine (cK w3 b gK).mono ?_
    rintro e w4 ⟨rfl, hb4⟩
    replace gT := gT.mono hb4
    replace hB := below2 hB hb4
    clear hb4 cK gK
    have k0 := gT.cell (j := 0) (v := .int .i64 0) rfl; have k1 := gT.cell (j := 1) (v := .string ⟨#[]⟩) rfl; have k2 := gT.cell (j := 2) (v := .int .u64 0) rfl; have k3 := gT.cell (j := 3) (v := .int .i64 0) rfl
    have f := gT.free
    go_wp2
    have gF := (((gT.set 0 (.int .i64 2)).set 1 (.string t)).set 2 (.int .u64 0)).set 3 (.int .i64 pos)
    have y0 := gF.cell (j := 0) (v := .int .i64 2) rfl; have y1 := gF.cell (j := 1) (v := .string t) rfl; have y2 := gF.cell (j := 2) (v := .int .u64 0) rfl; have y3 := gF.cell (j := 3) (v := .int .i64 pos) rfl
    have hBF := set4_below hB (Nat.le_refl w.heap.size) (.int .i64 2) (.string t) (.int .u64 0) (.int .i64 pos)
    clear k0 k1 k2 k3 f gT hB
    exact bodyPost_ret (v := .tuple #[tokV 2 t pos, .int .i64 0]) (by simp [results, Tryz.results119, go_sem, tokV, y0, y1, y2, y3]) rfl ⟨rfl, hBF⟩
  | false =>
    go_enter Tryz.func119, Tryz.ntmps119
    go_wp2_with fail
    refine name_calls fun W hN => ?_
    have gT : Blk W w.heap.size #[.int .i64 0, .string ⟨#[]⟩, .int .u64 0, .int .i64 0] 149 := by rw [hN]; exact Blk.newAt rfl
    have hB : Below w.heap.size w W := by rw [hN]; exact (Below.refl _ _).alloc (Nat.le_refl _) _
    clear hN
    refine (cL W).mono ?_
    rintro e w1 ⟨rfl, hb1⟩
    replace gT := gT.mono hb1
    replace hB := below2 hB hb1
    clear hb1 cL
    go_wp2_with fail
    refine (cS w1).mono ?_
    rintro e w2 ⟨rfl, hb2⟩
    replace gT := gT.mono hb2
    replace hB := below2 hB hb2
    clear hb2 cS
    go_wp2_with fail
    refine (Keywords_any w2).mono ?_
    rintro e w3 ⟨b, rfl, gK, hb3⟩
    replace gT := gT.mono hb3
    replace hB := below2 hB hb3
    clear hb3
    go_wp2_with fail
    refine (cK w3 b gK).mono ?_
    rintro e w4 ⟨rfl, hb4⟩
    replace gT := gT.mono hb4
    replace hB := below2 hB hb4
    clear hb4 cK gK
    have k0 := gT.cell (j := 0) (v := .int .i64 0) rfl; have k1 := gT.cell (j := 1) (v := .string ⟨#[]⟩) rfl; have k2 := gT.cell (j := 2) (v := .int .u64 0) rfl; have k3 := gT.cell (j := 3) (v := .int .i64 0) rfl
    have f := gT.free
    go_wp2
    have gF := (((gT.set 0 (.int .i64 1)).set 1 (.string t)).set 2 (.int .u64 0)).set 3 (.int .i64 pos)
    have y0 := gF.cell (j := 0) (v := .int .i64 1) rfl; have y1 := gF.cell (j := 1) (v := .string t) rfl; have y2 := gF.cell (j := 2) (v := .int .u64 0) rfl; have y3 := gF.cell (j := 3) (v := .int .i64 pos) rfl
    have hBF := set4_below hB (Nat.le_refl w.heap.size) (.int .i64 1) (.string t) (.int .u64 0) (.int .i64 pos)
    clear k0 k1 k2 k3 f gT hB
    exact bodyPost_ret (v := .tuple #[tokV 1 t pos, .int .i64 0]) (by simp [results, Tryz.results119, go_sem, tokV, y0, y1, y2, y3]) rfl ⟨rfl, hBF⟩

/-- Pairs of signs, single signs. -/
def prS : ByteArray := ⟨#[32, 46, 46, 32, 61, 61, 32, 33, 61, 32, 60, 61, 32]⟩
def sgS : ByteArray := ⟨#[40, 41, 123, 125, 91, 93, 44, 59, 58, 63, 61, 60, 43, 45, 42]⟩
theorem IndexByte_any (s : ByteArray) (c : Int) (w : World) : Calls Tryz.prog 179 #[.string s, .int .u8 c] w fun e w' => e = .returned (.int .i64 (Lib.indexByte s.data.toList c.toNat.toUInt8)) ∧ w' = w := Tryz.strings_IndexByte s c w
theorem SContains_any (s sub : ByteArray) (m : Int) (w : World) (hs : s.size < 4294967281) (hm : w.cell? ⟨5, 0, none⟩ = some (.int .i64 m)) : Calls Tryz.prog 178 #[.string s, .string sub] w fun e w' => e = .returned (.bool (Lib.contains s.data.toList sub.data.toList)) ∧ w' = w := Tryz.strings_Contains s sub m w hs hm
set_option maxHeartbeats 4000000 in
theorem nextSym2_any (s r : ByteArray) (pos : Nat) (c : Int) (m : Int) (w : World) (_ : s.size ≤ 9223372036854775807) (hpos : pos < s.size) (hr : s.extract pos s.size = r) (hr0 : 1 < r.size) (hrs : r.size ≤ 9223372036854775807) (hc : ((r[0].toNat : Nat) : Int) = c) (hL : isL c = false) (hD : isD c = false)
    (hP : Lib.contains prS.data.toList ((⟨#[32]⟩ ++ r.extract 0 2 ++ ⟨#[32]⟩ : ByteArray).data.toList) = true) (hm : w.cell? ⟨5, 0, none⟩ = some (.int .i64 m)) :
    Calls Tryz.prog 119 #[.string s, .int .i64 pos] w (RetTok w 4 (r.extract 0 2) pos) := by
  have cL := fun W => isLetter_any c W
  rw [hL] at cL
  have cD := fun W => isDigit_any c W
  rw [hD] at cD
  have hts : (r.extract 0 2).size = 2 := by rw [ByteArray.size_extract]; omega
  have cP := fun W h => SContains_any ⟨#[32, 46, 46, 32, 61, 61, 32, 33, 61, 32, 60, 61, 32]⟩ (⟨#[32]⟩ ++ r.extract 0 2 ++ ⟨#[32]⟩) m W (by decide) h
  rw [show Lib.contains (⟨#[32, 46, 46, 32, 61, 61, 32, 33, 61, 32, 60, 61, 32]⟩ : ByteArray).data.toList ((⟨#[32]⟩ ++ r.extract 0 2 ++ ⟨#[32]⟩ : ByteArray).data.toList) = true from hP] at cP
  obtain ⟨t, ht⟩ : ∃ t, r.extract 0 2 = t := ⟨_, rfl⟩
  rw [ht] at cP hts
  rw [ht]
  have hr1 : (1 : Int) < r.size := by omega
  clear hP
  clear hL hD
  go_enter Tryz.func119, Tryz.ntmps119
  go_wp2_with fail
  refine name_calls fun W hN => ?_
  have gT : Blk W w.heap.size #[.int .i64 0, .string ⟨#[]⟩, .int .u64 0, .int .i64 0] 149 := by rw [hN]; exact Blk.newAt rfl
  have hB : Below w.heap.size w W := by rw [hN]; exact (Below.refl _ _).alloc (Nat.le_refl _) _
  clear hN
  refine (cL W).mono ?_
  rintro e w1 ⟨rfl, hb1⟩
  replace gT := gT.mono hb1
  replace hB := below2 hB hb1
  clear hb1 cL
  go_wp2_with fail
  refine (cD w1).mono ?_
  rintro e w2 ⟨rfl, hb2⟩
  replace gT := gT.mono hb2
  replace hB := below2 hB hb2
  clear hb2 cD
  go_wp2_with fail
  refine (cP w2 (cell_below hB hm)).mono ?_
  rintro e w3 ⟨rfl, rfl⟩
  have k0 := gT.cell (j := 0) (v := .int .i64 0) rfl; have k1 := gT.cell (j := 1) (v := .string ⟨#[]⟩) rfl; have k2 := gT.cell (j := 2) (v := .int .u64 0) rfl; have k3 := gT.cell (j := 3) (v := .int .i64 0) rfl
  have f := gT.free
  go_wp2
  have gF := (((gT.set 0 (.int .i64 4)).set 1 (.string t)).set 2 (.int .u64 0)).set 3 (.int .i64 pos)
  have y0 := gF.cell (j := 0) (v := .int .i64 4) rfl; have y1 := gF.cell (j := 1) (v := .string t) rfl; have y2 := gF.cell (j := 2) (v := .int .u64 0) rfl; have y3 := gF.cell (j := 3) (v := .int .i64 pos) rfl
  have hBF := set4_below hB (Nat.le_refl w.heap.size) (.int .i64 4) (.string t) (.int .u64 0) (.int .i64 pos)
  clear k0 k1 k2 k3 f gT hB
  exact bodyPost_ret (v := .tuple #[tokV 4 t pos, .int .i64 0]) (by simp [results, Tryz.results119, go_sem, tokV, y0, y1, y2, y3]) rfl ⟨rfl, hBF⟩
set_option maxHeartbeats 4000000 in
theorem nextSym1_any (s r : ByteArray) (pos : Nat) (c : Int) (m : Int) (w : World) (_ : s.size ≤ 9223372036854775807) (hpos : pos < s.size) (hr : s.extract pos s.size = r) (hr0 : 1 < r.size) (hrs : r.size ≤ 9223372036854775807) (hc : ((r[0].toNat : Nat) : Int) = c) (hL : isL c = false) (hD : isD c = false)
    (hP : Lib.contains prS.data.toList ((⟨#[32]⟩ ++ r.extract 0 2 ++ ⟨#[32]⟩ : ByteArray).data.toList) = false) (hI : 0 ≤ Lib.indexByte sgS.data.toList c.toNat.toUInt8) (hm : w.cell? ⟨5, 0, none⟩ = some (.int .i64 m)) :
    Calls Tryz.prog 119 #[.string s, .int .i64 pos] w (RetTok w 4 (r.extract 0 1) pos) := by
  have cL := fun W => isLetter_any c W
  rw [hL] at cL
  have cD := fun W => isDigit_any c W
  rw [hD] at cD
  have hts : (r.extract 0 2).size = 2 := by rw [ByteArray.size_extract]; omega
  have hts1 : (r.extract 0 1).size = 1 := by rw [ByteArray.size_extract]; omega
  have cP := fun W h => SContains_any ⟨#[32, 46, 46, 32, 61, 61, 32, 33, 61, 32, 60, 61, 32]⟩ (⟨#[32]⟩ ++ r.extract 0 2 ++ ⟨#[32]⟩) m W (by decide) h
  rw [show Lib.contains (⟨#[32, 46, 46, 32, 61, 61, 32, 33, 61, 32, 60, 61, 32]⟩ : ByteArray).data.toList ((⟨#[32]⟩ ++ r.extract 0 2 ++ ⟨#[32]⟩ : ByteArray).data.toList) = false from hP] at cP
  have cI := fun W => IndexByte_any ⟨#[40, 41, 123, 125, 91, 93, 44, 59, 58, 63, 61, 60, 43, 45, 42]⟩ c W
  change 0 ≤ Lib.indexByte (⟨#[40, 41, 123, 125, 91, 93, 44, 59, 58, 63, 61, 60, 43, 45, 42]⟩ : ByteArray).data.toList c.toNat.toUInt8 at hI
  generalize Lib.indexByte (⟨#[40, 41, 123, 125, 91, 93, 44, 59, 58, 63, 61, 60, 43, 45, 42]⟩ : ByteArray).data.toList c.toNat.toUInt8 = z at *
  obtain ⟨u, hu⟩ : ∃ u, r.extract 0 2 = u := ⟨_, rfl⟩
  obtain ⟨t, ht⟩ : ∃ t, r.extract 0 1 = t := ⟨_, rfl⟩
  rw [hu] at cP hts
  rw [ht] at hts1
  rw [ht]
  have hr1 : (1 : Int) < r.size := by omega
  clear hP
  clear hL hD
  go_enter Tryz.func119, Tryz.ntmps119
  go_wp2_with fail
  refine name_calls fun W hN => ?_
  have gT : Blk W w.heap.size #[.int .i64 0, .string ⟨#[]⟩, .int .u64 0, .int .i64 0] 149 := by rw [hN]; exact Blk.newAt rfl
  have hB : Below w.heap.size w W := by rw [hN]; exact (Below.refl _ _).alloc (Nat.le_refl _) _
  clear hN
  refine (cL W).mono ?_
  rintro e w1 ⟨rfl, hb1⟩
  replace gT := gT.mono hb1
  replace hB := below2 hB hb1
  clear hb1 cL
  go_wp2_with fail
  refine (cD w1).mono ?_
  rintro e w2 ⟨rfl, hb2⟩
  replace gT := gT.mono hb2
  replace hB := below2 hB hb2
  clear hb2 cD
  go_wp2_with fail
  refine (cP w2 (cell_below hB hm)).mono ?_
  rintro e w3 ⟨rfl, rfl⟩
  clear cP
  go_wp2_with fail
  refine (cI w3).mono ?_
  rintro e w4 ⟨rfl, rfl⟩
  have k0 := gT.cell (j := 0) (v := .int .i64 0) rfl; have k1 := gT.cell (j := 1) (v := .string ⟨#[]⟩) rfl; have k2 := gT.cell (j := 2) (v := .int .u64 0) rfl; have k3 := gT.cell (j := 3) (v := .int .i64 0) rfl
  have f := gT.free
  go_wp2
  have gF := (((gT.set 0 (.int .i64 4)).set 1 (.string t)).set 2 (.int .u64 0)).set 3 (.int .i64 pos)
  have y0 := gF.cell (j := 0) (v := .int .i64 4) rfl; have y1 := gF.cell (j := 1) (v := .string t) rfl; have y2 := gF.cell (j := 2) (v := .int .u64 0) rfl; have y3 := gF.cell (j := 3) (v := .int .i64 pos) rfl
  have hBF := set4_below hB (Nat.le_refl w.heap.size) (.int .i64 4) (.string t) (.int .u64 0) (.int .i64 pos)
  clear k0 k1 k2 k3 f gT hB
  exact bodyPost_ret (v := .tuple #[tokV 4 t pos, .int .i64 0]) (by simp [results, Tryz.results119, go_sem, tokV, y0, y1, y2, y3]) rfl ⟨rfl, hBF⟩
set_option maxHeartbeats 4000000 in
theorem nextSym0_any (s r : ByteArray) (pos : Nat) (c : Int) (w : World) (_ : s.size ≤ 9223372036854775807) (hpos : pos < s.size) (hr : s.extract pos s.size = r) (hr0 : 0 < r.size) (hr2 : r.size = 1) (hc : ((r[0].toNat : Nat) : Int) = c) (hL : isL c = false) (hD : isD c = false)
    (hI : 0 ≤ Lib.indexByte sgS.data.toList c.toNat.toUInt8) :
    Calls Tryz.prog 119 #[.string s, .int .i64 pos] w (RetTok w 4 (r.extract 0 1) pos) := by
  have cL := fun W => isLetter_any c W
  rw [hL] at cL
  have cD := fun W => isDigit_any c W
  rw [hD] at cD
  have hts1 : (r.extract 0 1).size = 1 := by rw [ByteArray.size_extract]; omega
  have cI := fun W => IndexByte_any ⟨#[40, 41, 123, 125, 91, 93, 44, 59, 58, 63, 61, 60, 43, 45, 42]⟩ c W
  change 0 ≤ Lib.indexByte (⟨#[40, 41, 123, 125, 91, 93, 44, 59, 58, 63, 61, 60, 43, 45, 42]⟩ : ByteArray).data.toList c.toNat.toUInt8 at hI
  generalize Lib.indexByte (⟨#[40, 41, 123, 125, 91, 93, 44, 59, 58, 63, 61, 60, 43, 45, 42]⟩ : ByteArray).data.toList c.toNat.toUInt8 = z at *
  obtain ⟨t, ht⟩ : ∃ t, r.extract 0 1 = t := ⟨_, rfl⟩
  rw [ht] at hts1
  rw [ht]
  have hr1 : ¬ (1 : Int) < r.size := by omega
  clear hL hD
  go_enter Tryz.func119, Tryz.ntmps119
  go_wp2_with fail
  refine name_calls fun W hN => ?_
  have gT : Blk W w.heap.size #[.int .i64 0, .string ⟨#[]⟩, .int .u64 0, .int .i64 0] 149 := by rw [hN]; exact Blk.newAt rfl
  have hB : Below w.heap.size w W := by rw [hN]; exact (Below.refl _ _).alloc (Nat.le_refl _) _
  clear hN
  refine (cL W).mono ?_
  rintro e w1 ⟨rfl, hb1⟩
  replace gT := gT.mono hb1
  replace hB := below2 hB hb1
  clear hb1 cL
  go_wp2_with fail
  refine (cD w1).mono ?_
  rintro e w2 ⟨rfl, hb2⟩
  replace gT := gT.mono hb2
  replace hB := below2 hB hb2
  clear hb2 cD
  go_wp2_with fail
  refine (cI w2).mono ?_
  rintro e w4 ⟨rfl, rfl⟩
  have k0 := gT.cell (j := 0) (v := .int .i64 0) rfl; have k1 := gT.cell (j := 1) (v := .string ⟨#[]⟩) rfl; have k2 := gT.cell (j := 2) (v := .int .u64 0) rfl; have k3 := gT.cell (j := 3) (v := .int .i64 0) rfl
  have f := gT.free
  go_wp2
  have gF := (((gT.set 0 (.int .i64 4)).set 1 (.string t)).set 2 (.int .u64 0)).set 3 (.int .i64 pos)
  have y0 := gF.cell (j := 0) (v := .int .i64 4) rfl; have y1 := gF.cell (j := 1) (v := .string t) rfl; have y2 := gF.cell (j := 2) (v := .int .u64 0) rfl; have y3 := gF.cell (j := 3) (v := .int .i64 pos) rfl
  have hBF := set4_below hB (Nat.le_refl w.heap.size) (.int .i64 4) (.string t) (.int .u64 0) (.int .i64 pos)
  clear k0 k1 k2 k3 f gT hB
  exact bodyPost_ret (v := .tuple #[tokV 4 t pos, .int .i64 0]) (by simp [results, Tryz.results119, go_sem, tokV, y0, y1, y2, y3]) rfl ⟨rfl, hBF⟩
end Go.Proofs.YtalmgeefkcebdaaGreatDoor


/- Circuits in memory: linear combinations, rows, hints. -/
namespace Go.Proofs.YtalmgeefkcebdaaGreatDoor
open Go.ChangeShapes Go.WideShapes Go.ChangeAt Go.RowKit

/-- A linear combination: a slice of terms, each a variable and a coefficient. -/
def LinS (w : World) (a : Option Addr) (L : List (Int × Int)) : Prop :=
  0 < L.length → ∃ b off, a = some ⟨b, off, none⟩ ∧ b < w.heap.size ∧ ∀ i, i < L.length → w.cell? ⟨b, off + i * 2, none⟩ = some (.int .i64 (L.getD i (0, 0)).1) ∧ w.cell? ⟨b, off + i * 2 + 1, none⟩ = some (.int .u64 (L.getD i (0, 0)).2)
theorem LinS.mono {w w' : World} {a : Option Addr} {L : List (Int × Int)} (h : LinS w a L) (hb : Below w.heap.size w w') : LinS w' a L := fun h0 => by
  obtain ⟨b, off, e, hl, hc⟩ := h h0
  exact ⟨b, off, e, Nat.lt_of_lt_of_le hl hb.size, fun i hi => ⟨cell_below hb (hc i hi).1, cell_below hb (hc i hi).2⟩⟩
def LinW (L : List (Int × Int)) : Prop := ∀ t ∈ L, (Lit.int .i64 t.1).wf = true ∧ (Lit.int .u64 t.2).wf = true

section
variable {H : Type} {enc : TypeId × Value → H} {P : Program} {w : World}

end

/-- A slice of terms: its address, its capacity, its terms. -/
structure Lc where
  ad : Option Addr
  cap : Nat
  l : List (Int × Int)
instance : Inhabited Lc := ⟨⟨none, 0, []⟩⟩
structure LcOk (w : World) (s : Lc) : Prop where
  sl : LinS w s.ad s.l
  wl : LinW s.l
  le : s.l.length ≤ s.cap
  mx : s.cap ≤ maxLen
theorem LcOk.mono {w w' : World} {s : Lc} (h : LcOk w s) (hb : Below w.heap.size w w') : LcOk w' s := ⟨h.sl.mono hb, h.wl, h.le, h.mx⟩

/-- A row. -/
structure Rw where
  a : Lc
  b : Lc
  c : Lc
instance : Inhabited Rw := ⟨⟨default, default, default⟩⟩
/-- A hint. -/
structure Hn where
  k : Int
  a : Lc
  b : Lc
  bit : Int
instance : Inhabited Hn := ⟨⟨0, default, default, 0⟩⟩

/-- A slice of rows. -/
structure RowsP (w : World) (a : Option Addr) (cap : Nat) (R : List Rw) : Prop where
  s : 0 < R.length → ∃ b off, a = some ⟨b, off, none⟩ ∧ b < w.heap.size ∧ ∀ i, i < R.length → w.cell? ⟨b, off + i * 3, none⟩ = some (.slice (R.getD i default).a.ad (R.getD i default).a.l.length (R.getD i default).a.cap) ∧
    w.cell? ⟨b, off + i * 3 + 1, none⟩ = some (.slice (R.getD i default).b.ad (R.getD i default).b.l.length (R.getD i default).b.cap) ∧ w.cell? ⟨b, off + i * 3 + 2, none⟩ = some (.slice (R.getD i default).c.ad (R.getD i default).c.l.length (R.getD i default).c.cap)
  ok : ∀ r ∈ R, LcOk w r.a ∧ LcOk w r.b ∧ LcOk w r.c
  le : R.length ≤ cap
  mx : cap ≤ maxLen
  nil : a = none → cap = 0
theorem RowsP.mono {w w' : World} {a : Option Addr} {cap : Nat} {R : List Rw} (h : RowsP w a cap R) (hb : Below w.heap.size w w') : RowsP w' a cap R :=
  ⟨fun h0 => by
    obtain ⟨b, off, e, hl, hc⟩ := h.s h0
    exact ⟨b, off, e, Nat.lt_of_lt_of_le hl hb.size, fun i hi => ⟨cell_below hb (hc i hi).1, cell_below hb (hc i hi).2.1, cell_below hb (hc i hi).2.2⟩⟩,
  fun r hr => ⟨(h.ok r hr).1.mono hb, (h.ok r hr).2.1.mono hb, (h.ok r hr).2.2.mono hb⟩, h.le, h.mx, h.nil⟩
/-- A slice of hints. -/
structure HintsP (w : World) (a : Option Addr) (cap : Nat) (R : List Hn) : Prop where
  s : 0 < R.length → ∃ b off, a = some ⟨b, off, none⟩ ∧ b < w.heap.size ∧ ∀ i, i < R.length → w.cell? ⟨b, off + i * 4, none⟩ = some (.int .i64 (R.getD i default).k) ∧ w.cell? ⟨b, off + i * 4 + 1, none⟩ = some (.slice (R.getD i default).a.ad (R.getD i default).a.l.length (R.getD i default).a.cap) ∧
    w.cell? ⟨b, off + i * 4 + 2, none⟩ = some (.slice (R.getD i default).b.ad (R.getD i default).b.l.length (R.getD i default).b.cap) ∧ w.cell? ⟨b, off + i * 4 + 3, none⟩ = some (.int .i64 (R.getD i default).bit)
  ok : ∀ r ∈ R, LcOk w r.a ∧ LcOk w r.b ∧ (Lit.int .i64 r.k).wf = true ∧ (Lit.int .i64 r.bit).wf = true
  le : R.length ≤ cap
  mx : cap ≤ maxLen
  nil : a = none → cap = 0
theorem HintsP.mono {w w' : World} {a : Option Addr} {cap : Nat} {R : List Hn} (h : HintsP w a cap R) (hb : Below w.heap.size w w') : HintsP w' a cap R :=
  ⟨fun h0 => by
    obtain ⟨b, off, e, hl, hc⟩ := h.s h0
    exact ⟨b, off, e, Nat.lt_of_lt_of_le hl hb.size, fun i hi => ⟨cell_below hb (hc i hi).1, cell_below hb (hc i hi).2.1, cell_below hb (hc i hi).2.2.1, cell_below hb (hc i hi).2.2.2⟩⟩,
  fun r hr => ⟨(h.ok r hr).1.mono hb, (h.ok r hr).2.1.mono hb, (h.ok r hr).2.2⟩, h.le, h.mx, h.nil⟩
theorem getD_mem' {α : Type} {xs : List α} {i : Nat} (h : i < xs.length) (d : α) : xs.getD i d ∈ xs := by
  rw [List.getD_eq_getElem?_getD, List.getElem?_eq_getElem h]
  exact List.getElem_mem h

section
variable {H : Type} {enc : TypeId × Value → H} {w : World}

end

end Go.Proofs.YtalmgeefkcebdaaGreatDoor


/- Circuits: what the functions compute, in plain Lean. -/
namespace Go.Proofs.YtalmgeefkcebdaaGreatDoor
open Go.RowKit

/-- Term number i of a linear combination of n variables. -/
def linAt (p n : Int) (L : List (Int × Int)) (i : Nat) : Prop := (0 ≤ (L.getD i (0, 0)).1 ∧ (L.getD i (0, 0)).1 < n) ∧ (0 < i → (L.getD (i - 1) (0, 0)).1 < (L.getD i (0, 0)).1) ∧ (L.getD i (0, 0)).2 ≠ 0 ∧ (L.getD i (0, 0)).2 < p
instance (p n : Int) (L : List (Int × Int)) (i : Nat) : Decidable (linAt p n L i) := by unfold linAt; infer_instance
def linOk (p n : Int) (L : List (Int × Int)) : Bool := decide (∀ i, i < L.length → linAt p n L i)
def rowOk (p n : Int) (r : Rw) : Bool := linOk p n r.a.l && linOk p n r.b.l && linOk p n r.c.l
def tblOk (p pub vars : Int) (R : List Rw) : Bool := decide ((vld p = true ∧ 0 ≤ pub ∧ pub < vars ∧ vars ≤ 65536) ∧ R.length ≤ 16384 ∧ ∀ i, i < R.length → rowOk p vars (R.getD i default) = true)
def hintOk (p v : Int) (h : Hn) : Bool := linOk p v h.a.l && (if h.k = 1 then linOk p v h.b.l && decide (h.bit = 0) else if h.k = 2 then decide (h.b.l.length = 0) && decide (h.bit = 0) else if h.k = 3 then decide (h.b.l.length = 0) && decide (0 ≤ h.bit ∧ h.bit ≤ 63) else false)
def cirOk (p pub vars : Int) (R : List Rw) (sec : Int) (H : List Hn) : Bool :=
  decide (tblOk p pub vars R = true ∧ 0 ≤ sec ∧ vars = 1 + pub + sec + H.length ∧ ∀ i, i < H.length → hintOk p (1 + pub + sec + i) (H.getD i default) = true)

/-- The value of a linear combination. -/
def lstep (p : Int) (W : List Int) (s : Int) (t : Int × Int) : Int := if 0 ≤ t.1 ∧ t.1 < (W.length : Int) then fadd p s (fmul p t.2 (W.getD t.1.toNat 0)) else s
def lval (p : Int) (W : List Int) (L : List (Int × Int)) : Int := L.foldl (lstep p W) 0
theorem lstep_bd {p : Int} {W : List Int} {s : Int} {t : Int × Int} (h : 0 ≤ s ∧ s < 18446744073709551616) : 0 ≤ lstep p W s t ∧ lstep p W s t < 18446744073709551616 := by
  unfold lstep
  split
  · exact fadd_bd _ _ _
  · exact h
theorem lval_snoc (p : Int) (W : List Int) (L : List (Int × Int)) (t : Int × Int) : lval p W (L ++ [t]) = lstep p W (lval p W L) t := by
  simp [lval]
theorem lval_step (p : Int) (W : List Int) (L : List (Int × Int)) {k : Nat} (hk : k < L.length) : lval p W (L.take (k + 1)) = lstep p W (lval p W (L.take k)) (L.getD k (0, 0)) := by
  rw [take_succ_getD L (0, 0) hk, lval_snoc]
theorem lval_bd (p : Int) (W : List Int) (L : List (Int × Int)) : 0 ≤ lval p W L ∧ lval p W L < 18446744073709551616 := by
  unfold lval
  have : ∀ (l : List (Int × Int)) (s : Int), 0 ≤ s ∧ s < 18446744073709551616 → 0 ≤ l.foldl (lstep p W) s ∧ l.foldl (lstep p W) s < 18446744073709551616 := by
    intro l
    induction l with
    | nil => exact fun s h => h
    | cons x l ih => exact fun s h => ih _ (lstep_bd h)
  exact this _ _ (by decide)
/-- The value that a hint determines. -/
def hval (p : Int) (W : List Int) (h : Hn) : Int := if h.k = 1 then fmul p (lval p W h.a.l) (lval p W h.b.l) else if h.k = 2 then finv p (lval p W h.a.l) else lval p W h.a.l / 2 ^ h.bit.toNat % 2
theorem hval_bd (p : Int) (W : List Int) (h : Hn) : 0 ≤ hval p W h ∧ hval p W h < 18446744073709551616 := by
  unfold hval
  split
  · exact fmul_bd _ _ _
  · split
    · exact finv_bd _ _
    · omega
/-- The completion of an assignment by hints. -/
def runH (p : Int) (W : List Int) (H : List Hn) : List Int := H.foldl (fun W h => W ++ [hval p W h]) W
theorem runH_snoc (p : Int) (W : List Int) (H : List Hn) (h : Hn) : runH p W (H ++ [h]) = runH p W H ++ [hval p (runH p W H) h] := by simp [runH]
theorem runH_step (p : Int) (W : List Int) (H : List Hn) {k : Nat} (hk : k < H.length) : runH p W (H.take (k + 1)) = runH p W (H.take k) ++ [hval p (runH p W (H.take k)) (H.getD k default)] := by
  rw [take_succ_getD H default hk, runH_snoc]
theorem runH_len (p : Int) (W : List Int) (H : List Hn) : (runH p W H).length = W.length + H.length := by
  unfold runH
  induction H generalizing W with
  | nil => rfl
  | cons h H ih => rw [List.foldl_cons, ih]; simp; omega
theorem runH_mem {p : Int} {Q : Int → Prop} (hq : ∀ W h, Q (hval p W h)) {W : List Int} (hW : ∀ x ∈ W, Q x) (H : List Hn) : ∀ x ∈ runH p W H, Q x := by
  unfold runH
  induction H generalizing W with
  | nil => exact hW
  | cons h H ih =>
    rw [List.foldl_cons]
    refine ih fun x hx => ?_
    rcases List.mem_append.1 hx with h1 | h1
    · exact hW x h1
    · rw [List.mem_singleton] at h1; subst h1; exact hq _ _

/-- Whether a list is an assignment; whether it satisfies a row; the first row that it does not satisfy. -/
def asnOk (p vars : Int) (W : List Int) : Bool := decide ((W.length : Int) = vars ∧ W.getD 0 0 = 1 ∧ ∀ i, i < W.length → W.getD i 0 < p)
def rowSat (p : Int) (W : List Int) (r : Rw) : Bool := fmul p (lval p W r.a.l) (lval p W r.b.l) == lval p W r.c.l
def rowsSat (p : Int) (W : List Int) (R : List Rw) : Bool := decide (∀ i, i < R.length → rowSat p W (R.getD i default) = true)
def satOk (p pub vars : Int) (R : List Rw) (W : List Int) : Bool := tblOk p pub vars R && asnOk p vars W && rowsSat p W R

/-- What Run returns. -/
def inpOk (p pub sec : Int) (u s : List Int) : Bool := decide ((u.length : Int) = pub ∧ (s.length : Int) = sec ∧ (∀ i, i < u.length → u.getD i 0 < p) ∧ ∀ i, i < s.length → s.getD i 0 < p)
def runOk (p pub vars : Int) (R : List Rw) (sec : Int) (H : List Hn) (u s : List Int) : Bool := cirOk p pub vars R sec H && inpOk p pub sec u s
def runL (p pub vars : Int) (R : List Rw) (sec : Int) (H : List Hn) (u s : List Int) : List Int := if runOk p pub vars R sec H u s then runH p (1 :: (u ++ s)) H else []
def runE (p pub vars : Int) (R : List Rw) (sec : Int) (H : List Hn) (u s : List Int) : Int := if runOk p pub vars R sec H u s then 0 else 1
/-- What Satisfy returns. -/
def satL (p pub vars : Int) (R : List Rw) (sec : Int) (H : List Hn) (u s : List Int) : List Int := if runOk p pub vars R sec H u s && satOk p pub vars R (runL p pub vars R sec H u s) then runL p pub vars R sec H u s else []
def satE (p pub vars : Int) (R : List Rw) (sec : Int) (H : List Hn) (u s : List Int) : Int := if runOk p pub vars R sec H u s then (if satOk p pub vars R (runL p pub vars R sec H u s) then 0 else 9) else 1

def hsum (H : List Hn) : Nat := (H.map fun h => h.a.l.length + h.b.l.length).sum
end Go.Proofs.YtalmgeefkcebdaaGreatDoor


/- Circuits: rows, hints, terms as elements of several cells. -/
namespace Go.Proofs.YtalmgeefkcebdaaGreatDoor
open Go.RowKit

def lcV (s : Lc) : Value := .slice s.ad s.l.length s.cap
def rwL : Lay Rw := ⟨fun r => [lcV r.a, lcV r.b, lcV r.c], 3, fun _ => rfl, by decide, fun x u hu => by
  simp only [List.mem_cons, List.not_mem_nil, or_false] at hu
  rcases hu with rfl | rfl | rfl <;> rfl⟩
def hnL : Lay Hn := ⟨fun h => [.int .i64 h.k, lcV h.a, lcV h.b, .int .i64 h.bit], 4, fun _ => rfl, by decide, fun x u hu => by
  simp only [List.mem_cons, List.not_mem_nil, or_false] at hu
  rcases hu with rfl | rfl | rfl | rfl <;> rfl⟩
def tmL : Lay (Int × Int) := ⟨fun t => [.int .i64 t.1, .int .u64 t.2], 2, fun _ => rfl, by decide, fun x u hu => by
  simp only [List.mem_cons, List.not_mem_nil, or_false] at hu
  rcases hu with rfl | rfl <;> rfl⟩
theorem Tryz.infoRw : (Tryz.prog.info? 97).map (fun i => (i.zero, i.size, i.bytes)) = some (some (.agg #[.slice none 0 0, .slice none 0 0, .slice none 0 0]), 3, 72) := by kernel_rfl

theorem Tryz.infoHn : (Tryz.prog.info? 134).map (fun i => (i.zero, i.size, i.bytes)) = some (some (.agg #[.int .i64 0, .slice none 0 0, .slice none 0 0, .int .i64 0]), 4, 64) := by kernel_rfl

theorem Tryz.infoTm : (Tryz.prog.info? 131).map (fun i => (i.zero, i.size, i.bytes)) = some (some (.agg #[.int .i64 0, .int .u64 0]), 2, 16) := by kernel_rfl

theorem flat_inv {α : Type} {L : Lay α} {xs : List α} {k : Nat} {u : Value} (d : α) (h : (xs.flatMap L.f)[k]? = some u) : ∃ i j, k = i * L.m + j ∧ i < xs.length ∧ j < L.m ∧ (L.f (xs.getD i d))[j]? = some u := by
  have hk : k < xs.length * L.m := by
    rcases Nat.lt_or_ge k (xs.length * L.m) with h1 | h1
    · exact h1
    · rw [List.getElem?_eq_none (by rw [L.flat_len]; exact h1)] at h; cases h
  have hj : k % L.m < L.m := Nat.mod_lt _ L.pos
  have hi : k / L.m < xs.length := Nat.div_lt_of_lt_mul (by rw [Nat.mul_comm]; exact hk)
  have e : k = k / L.m * L.m + k % L.m := by rw [Nat.mul_comm]; exact (Nat.div_add_mod k L.m).symm
  rw [e, L.flat_get xs d hi hj] at h
  exact ⟨_, _, e, hi, hj, h⟩

section
variable {w : World} {a : Option Addr} {cap : Nat}

theorem SlG.at_ {α : Type} {L : Lay α} {b off : Nat} {xs : List α} (d : α) (hc : ∀ k u, (xs.flatMap L.f)[k]? = some u → w.cell? ⟨b, off + k, none⟩ = some u) {i j : Nat} (hi : i < xs.length) (hj : j < L.m) {u : Value} (hu : (L.f (xs.getD i d))[j]? = some u) : w.cell? ⟨b, off + i * L.m + j, none⟩ = some u := by
  rw [Nat.add_assoc]
  exact hc _ _ (by rw [L.flat_get xs d hi hj]; exact hu)

theorem RowsP.of_slg {R : List Rw} (h : SlG rwL w a R) (hok : ∀ r ∈ R, LcOk w r.a ∧ LcOk w r.b ∧ LcOk w r.c) (h1 : R.length ≤ cap) (h2 : cap ≤ maxLen) (h3 : a = none → cap = 0) : RowsP w a cap R :=
  ⟨fun h0 => by
    obtain ⟨b, off, e, hl, hc⟩ := h h0
    exact ⟨b, off, e, hl, fun i hi => ⟨SlG.at_ (j := 0) default hc hi (by decide) rfl, SlG.at_ (j := 1) default hc hi (by decide) rfl, SlG.at_ (j := 2) default hc hi (by decide) rfl⟩⟩, hok, h1, h2, h3⟩
theorem HintsP.of_slg {R : List Hn} (h : SlG hnL w a R) (hok : ∀ r ∈ R, LcOk w r.a ∧ LcOk w r.b ∧ (Lit.int .i64 r.k).wf = true ∧ (Lit.int .i64 r.bit).wf = true) (h1 : R.length ≤ cap) (h2 : cap ≤ maxLen) (h3 : a = none → cap = 0) : HintsP w a cap R :=
  ⟨fun h0 => by
    obtain ⟨b, off, e, hl, hc⟩ := h h0
    exact ⟨b, off, e, hl, fun i hi => ⟨SlG.at_ (j := 0) default hc hi (by decide) rfl, SlG.at_ (j := 1) default hc hi (by decide) rfl, SlG.at_ (j := 2) default hc hi (by decide) rfl, SlG.at_ (j := 3) default hc hi (by decide) rfl⟩⟩, hok, h1, h2, h3⟩
theorem LinS.of_slg {R : List (Int × Int)} (h : SlG tmL w a R) : LinS w a R := fun h0 => by
  obtain ⟨b, off, e, hl, hc⟩ := h h0
  exact ⟨b, off, e, hl, fun i hi => ⟨SlG.at_ (j := 0) (0, 0) hc hi (by decide) rfl, SlG.at_ (j := 1) (0, 0) hc hi (by decide) rfl⟩⟩
theorem LinS.slg {R : List (Int × Int)} (h : LinS w a R) : SlG tmL w a R := fun h0 => by
  obtain ⟨b, off, e, hl, hc⟩ := h h0
  refine ⟨b, off, e, hl, fun k u hu => ?_⟩
  obtain ⟨i, j, rfl, hi, hj, hu⟩ := flat_inv (0, 0) hu
  obtain ⟨h1, h2⟩ := hc i hi
  have hj : j < 2 := hj
  rw [← Nat.add_assoc]
  match j, hj, hu with
  | 0, _, hu => cases hu; exact h1
  | 1, _, hu => cases hu; exact h2
end
end Go.Proofs.YtalmgeefkcebdaaGreatDoor

