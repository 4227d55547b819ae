/- The sponge: Squeeze, in the program and in the reference. -/
import Derived.Test.YtaklpdhhcnnclaaHash
namespace Go.Proofs.Ytaklpdhhcnnclaa
open Go.RowKit

def sqS (p : Int) (s : T3) : Nat → T3
  | 0 => s
  | n + 1 => permute p (sqS p s n)
theorem sqS_W3 (p : Int) (s : T3) (h : W3 s) : ∀ n, W3 (sqS p s n)
  | 0 => h
  | n + 1 => permute_W3 _ _ (sqS_W3 p s h n)
def sqE (p : Int) (s : T3) (i : Nat) : Int := if i % 2 = 0 then (sqS p s (i / 2)).a else (sqS p s (i / 2)).b
/-- The first i elements, and zeros. -/
def sqL (p : Int) (s : T3) (n i : Nat) : List Int := (List.range n).map fun j => if j < i then sqE p s j else 0
def sqT (p : Int) (s : T3) (n : Nat) : List Int := (List.range n).map (sqE p s)
def squeeze (p lb : Int) (xs : List Int) (n : Int) : List Int := if vld p = true ∧ 0 ≤ n ∧ n ≤ 65536 then sqT p (absorb p lb xs) n.toNat else []

theorem sqT_succ (p : Int) (s : T3) (n : Nat) : sqT p s (n + 1) = sqT p s n ++ [sqE p s n] := by
  simp [sqT, List.range_succ]
theorem sqL_len (p : Int) (s : T3) (n i : Nat) : (sqL p s n i).length = n := by simp [sqL]
theorem sqL_zero (p : Int) (s : T3) (n : Nat) : sqL p s n 0 = List.replicate n 0 := by
  refine List.ext_getElem (by simp [sqL]) fun i h1 h2 => ?_
  simp [sqL]
theorem sqL_full (p : Int) (s : T3) (n : Nat) : sqL p s n n = sqT p s n := by
  refine List.ext_getElem (by simp [sqL, sqT]) fun i h1 h2 => ?_
  have : i < n := by simpa [sqL] using h1
  simp [sqL, sqT, this]
theorem sqL_set (p : Int) (s : T3) (n i : Nat) : (sqL p s n i).set i (sqE p s i) = sqL p s n (i + 1) := by
  refine List.ext_getElem (by simp [sqL]) fun j h1 h2 => ?_
  rw [List.getElem_set]
  simp only [sqL, List.getElem_map, List.getElem_range]
  by_cases h : i = j
  · subst h
    rw [if_pos rfl, if_pos (by omega)]
  · rw [if_neg h]
    by_cases h3 : j < i
    · rw [if_pos h3, if_pos (by omega)]
    · rw [if_neg h3, if_neg (by omega)]

/-- The state's block and the slice of a round. -/
structure SqR (p : Int) (w wr : World) (bs : Nat) (s0 : T3) (h i : Nat) (v : Value) (l : List Int) : Prop where
  b : Below w.heap.size w wr
  st : Blk wr bs (A3 (sqS p s0 h)) 26
  own : Own wr w.heap.size 22 .u64 v l
  ne : v.ownBlock ≠ some bs
  n : w.heap.size ≤ bs

theorem SqR.mono {p : Int} {w wr w2 : World} {bs : Nat} {s0 : T3} {h i : Nat} {v : Value} {l : List Int} (H : SqR p w wr bs s0 h i v l) (hb : Below wr.heap.size wr w2) : SqR p w w2 bs s0 h i v l :=
  ⟨below2 H.b hb, H.st.mono hb, H.own.mono hb, H.ne, H.n⟩

theorem SqR.app {p : Int} {w wr w2 : World} {bs : Nat} {s0 : T3} {h i : Nat} {v v' : Value} {l l' : List Int} (H : SqR p w wr bs s0 h i v l) (hown : Own w2 w.heap.size 22 .u64 v' l') (hg : Grew wr w2 v v') : SqR p w w2 bs s0 h i v' l' :=
  ⟨hg.below H.b H.own (Nat.le_refl _) H.b.size, hg.blk H.st H.ne, hown, hg.ne _ H.st.lt H.ne, H.n⟩

theorem SqR.perm {p : Int} {w wr : World} {bs : Nat} {s0 : T3} {h i : Nat} {v : Value} {l : List Int} (H : SqR p w wr bs s0 h i v l) (y : T3) (hy : y = sqS p s0 (h + 1)) :
    SqR p w (((wr.setCell ⟨bs, 0, none⟩ (.int .u64 y.a)).setCell ⟨bs, 1, none⟩ (.int .u64 y.b)).setCell ⟨bs, 2, none⟩ (.int .u64 y.c)) bs s0 (h + 1) i v l := by
  subst hy
  exact ⟨below_set3 H.b H.n _ _ _, H.st.set3, ((H.own.other H.ne _).other H.ne _).other H.ne _, H.ne, H.n⟩

set_option maxHeartbeats 4000000 in
theorem rSqueeze_any (p lb n : Int) (ad : Option Addr) (c : Nat) (xs : List Int) (w : World) (l0 : 0 ≤ lb) (l1 : lb < 18446744073709551616) (n0 : -9223372036854775808 ≤ n) (n1 : n < 9223372036854775808) (hs : Sl w .u64 ad xs) (hw : AllW xs) (hl : xs.length < 1099511627776) :
    Calls Try.prog 48 #[.int .u64 p, .int .u64 lb, .slice ad xs.length c, .int .i64 n] w (RetSl w 22 .u64 (squeeze p lb xs n)) := by
  obtain ⟨R, hR⟩ : ∃ R, R = squeeze p lb xs n := ⟨_, rfl⟩
  rw [← hR]
  go_enter Try.func48, Try.ntmps48
  by_cases hv : vld p = true
  · by_cases hn : 0 ≤ n ∧ n ≤ 65536
    · clear n0 n1
      obtain ⟨m, rfl⟩ := Int.eq_ofNat_of_zero_le hn.1
      replace hR := hide (show sqT p (absorb p lb xs) m = R by rw [hR, squeeze, if_pos ⟨hv, hn⟩]; simp)
      obtain ⟨hn0, hn1⟩ := hn
      go_wp2_with fail
      refine (rValid_any p _).mono ?_
      rintro ew1 w1 ⟨rfl, hb1⟩
      rw [hv]
      go_wp2_with fail
      refine (rAbsorb_any p lb ad c xs _ l0 l1 (hs.mono hb1) hw hl).mono ?_
      rintro e w2 ⟨rfl, hb2⟩
      have hW := absorb_W3 p lb xs
      obtain ⟨s0, hs0⟩ : ∃ s0, s0 = absorb p lb xs := ⟨_, rfl⟩
      rw [← hs0] at hR hW ⊢
      replace hb2 := below2 hb1 hb2
      have H0 : SqR p w (w2.alloc (.cells #[.int .u64 s0.a, .int .u64 s0.b, .int .u64 s0.c] 26)) w2.heap.size s0 0 0 (.slice none 0 0) [] :=
        ⟨hb2.alloc hb2.size _, Blk.newAt rfl, Own.nil _ _ _ _, by simp [Value.ownBlock], hb2.size⟩
      clear hs0 hb1
      go_wp2_with fail
      clear hb2
      generalize w2.heap.size = bs at *
      go_loopw [10, 11] (fun t10 t11 wr => ∃ i : Nat, i ≤ m ∧ t11 = .int .i64 i ∧ SqR p w wr bs s0 (i / 2) i t10 (sqT p s0 i)) (fun _ t11 _ => m - (intOf t11).toNat)
      case atStart => exact ⟨0, by omega, rfl, H0⟩
      case round =>
        obtain ⟨i, hi, rfl, G⟩ := hrel
        clear H0
        by_cases hlt : i < m
        · have hst := sqT_succ p s0 i
          have sW := sqS_W3 p s0 hW (i / 2)
          have hlen : Hid ((sqT p s0 i).length = i) := hide (by simp [sqT])
          obtain hz | hz : i % 2 = 0 ∨ i % 2 = 1 := by omega
          · have hm2 : (i : Int) % 2 = 0 := by omega
            have he : sqE p s0 i = (sqS p s0 (i / 2)).a := by unfold sqE; rw [if_pos hz]
            rw [he] at hst
            replace hst := hide hst
            replace hz := hide hz
            clear he
            obtain ⟨x, hx⟩ : ∃ x, x = sqS p s0 (i / 2) := ⟨_, rfl⟩
            have c0 := G.st.cell (j := 0) (v := .int .u64 x.a) (by rw [hx]; rfl); have c1 := G.st.cell (j := 1) (v := .int .u64 x.b) (by rw [hx]; rfl)
            rw [← hx] at hst sW
            replace hx := hide hx
            go_wp2_with (at_builtin; refine wpList_app1 _ 22 .u64 _ rfl _ _ 31 rfl w.heap.size 8 Try.underlying31 Try.infoU64 (by decide) _ (sqT p s0 i) rfl rfl G.own (by have := hlen.out; omega) G.b.size ?_; intro v' w' hown hg; refine Hold.mk ?_)
            refine Hold.go ?_
            have G2 := SqR.app G hown hg
            rw [← hst.out] at G2
            clear G hown hg c0 c1
            go_wp2_with fail
            have hh : sqS p s0 (i / 2) = sqS p s0 ((i + 1) / 2) := by have := hz.out; rw [show (i + 1) / 2 = i / 2 by omega]
            have G3 : SqR p w w' bs s0 ((i + 1) / 2) (i + 1) v' (sqT p s0 (i + 1)) := ⟨G2.b, by rw [← hh]; exact G2.st, G2.own, G2.ne, G2.n⟩
            clear G2 hh hm2 hst hlen
            go_wp2
            go_roundw
            case rel => exact ⟨i + 1, by omega, by go_num, G3⟩
            case measure => simp [intOf]; omega
          · have hm2 : (i : Int) % 2 = 1 := by omega
            have he : sqE p s0 i = (sqS p s0 (i / 2)).b := by unfold sqE; rw [if_neg (by omega)]
            rw [he] at hst
            replace hst := hide hst
            replace hz := hide hz
            clear he
            obtain ⟨x, hx⟩ : ∃ x, x = sqS p s0 (i / 2) := ⟨_, rfl⟩
            have c0 := G.st.cell (j := 0) (v := .int .u64 x.a) (by rw [hx]; rfl); have c1 := G.st.cell (j := 1) (v := .int .u64 x.b) (by rw [hx]; rfl)
            rw [← hx] at hst sW
            replace hx := hide hx
            go_wp2_with (at_builtin; refine wpList_app1 _ 22 .u64 _ rfl _ _ 31 rfl w.heap.size 8 Try.underlying31 Try.infoU64 (by decide) _ (sqT p s0 i) rfl rfl G.own (by have := hlen.out; omega) G.b.size ?_; intro v' w' hown hg; refine Hold.mk ?_)
            refine Hold.go ?_
            have G2 := SqR.app G hown hg
            rw [← hst.out] at G2
            clear G hown hg c0 c1
            have c0 := G2.st.cell (j := 0) (v := .int .u64 x.a) (by rw [hx.out]; rfl); have c1 := G2.st.cell (j := 1) (v := .int .u64 x.b) (by rw [hx.out]; rfl); have c2 := G2.st.cell (j := 2) (v := .int .u64 x.c) (by rw [hx.out]; rfl)
            go_wp2_with fail
            have hP : ∀ W : World, Calls Try.prog 34 #[.int .u64 p, .agg #[.int .u64 x.a, .int .u64 x.b, .int .u64 x.c]] W fun e w' => e = .returned (.agg #[.int .u64 (permute p x).a, .int .u64 (permute p x).b, .int .u64 (permute p x).c]) ∧ Below W.heap.size W w' := fun W => rPermute_any p x W sW
            have hy : permute p x = sqS p s0 (i / 2 + 1) := by rw [hx.out]; rfl
            obtain ⟨y, hy'⟩ : ∃ y, y = permute p x := ⟨_, rfl⟩
            rw [← hy'] at hP hy
            replace hy := hide hy
            clear hy' hst hlen
            refine (hP _).mono ?_
            clear c0 c1 c2
            rintro e w5 ⟨rfl, hb5⟩
            have G3 := G2.mono hb5
            have c0 := G3.st.cell (j := 0) (v := .int .u64 x.a) (by rw [hx.out]; rfl); have c1 := G3.st.cell (j := 1) (v := .int .u64 x.b) (by rw [hx.out]; rfl); have c2 := G3.st.cell (j := 2) (v := .int .u64 x.c) (by rw [hx.out]; rfl)
            have f5 := G3.st.free
            have G4 := SqR.perm G3 y hy.out
            have h4 : i / 2 + 1 = (i + 1) / 2 := by have := hz.out; omega
            rw [h4] at G4
            replace G4 := Hid.out (show Hid (SqR p w _ bs s0 ((i + 1) / 2) (i + 1) v' (sqT p s0 (i + 1))) from ⟨G4.b, G4.st, G4.own, G4.ne, G4.n⟩)
            clear G2 G3 hb5 h4 hP hm2
            go_wp2
            go_roundw
            case rel => exact ⟨i + 1, by omega, by go_num, G4⟩
            case measure => simp [intOf]; omega
        · obtain rfl : i = m := by omega
          go_wp2
          go_ret
          exact ⟨_, rfl, by rw [← hR.out]; exact G.own, G.b⟩
    · have hn' : (decide (n < 0) || decide (65536 < n)) = true := by simp; omega
      replace hR := hide (show [] = R by rw [hR, squeeze, if_neg (fun h => hn h.2)])
      go_wp2_with fail
      refine (rValid_any p _).mono ?_
      rintro ew1 w1 ⟨rfl, hb1⟩
      rw [hv]
      by_cases hn0 : n < 0
      · go_wp2
        go_ret
        exact ⟨_, rfl, by rw [← hR.out]; exact Own.nil _ _ _ _, hb1⟩
      · have hn2 : 65536 < n := by omega
        go_wp2
        go_ret
        exact ⟨_, rfl, by rw [← hR.out]; exact Own.nil _ _ _ _, hb1⟩
  · have hv := vld_no hv
    replace hR := hide (show [] = R by rw [hR, squeeze, hv]; rfl)
    go_wp2_with fail
    refine (rValid_any p _).mono ?_
    rintro ew1 w1 ⟨rfl, hb1⟩
    rw [hv]
    go_wp2
    go_ret
    exact ⟨_, rfl, by rw [← hR.out]; exact Own.nil _ _ _ _, hb1⟩


theorem SqR.set {p : Int} {w wr : World} {bs rb m : Nat} {s0 : T3} {h i : Nat} {l : List Int} (H : SqR p w wr bs s0 h i (.slice (some ⟨rb, 0, none⟩) m m) l) (x : Int) : SqR p w (wr.setCell ⟨rb, i, none⟩ (.int .u64 x)) bs s0 h (i + 1) (.slice (some ⟨rb, 0, none⟩) m m) (l.set i x) :=
  have hne : rb ≠ bs := fun e => H.ne (by rw [e]; rfl)
  ⟨H.b.setCell (H.own.lt (b := rb) rfl).1 _, H.st.other hne _ _, H.own.set i x, H.ne, H.n⟩

set_option maxHeartbeats 4000000 in
theorem Squeeze_any (p lb n : Int) (ad : Option Addr) (c : Nat) (xs : List Int) (w : World) (l0 : 0 ≤ lb) (l1 : lb < 18446744073709551616) (n0 : -9223372036854775808 ≤ n) (n1 : n < 9223372036854775808) (hs : Sl w .u64 ad xs) (hw : AllW xs) (hl : xs.length < 1099511627776) :
    Calls Try.prog 47 #[.int .u64 p, .int .u64 lb, .slice ad xs.length c, .int .i64 n] w (RetSl w 22 .u64 (squeeze p lb xs n)) := by
  obtain ⟨R, hR⟩ : ∃ R, R = squeeze p lb xs n := ⟨_, rfl⟩
  rw [← hR]
  go_enter Try.func47, Try.ntmps47
  by_cases hv : vld p = true
  · by_cases hn : 0 ≤ n ∧ n ≤ 65536
    · clear n0 n1
      obtain ⟨m, rfl⟩ := Int.eq_ofNat_of_zero_le hn.1
      replace hR := hide (show sqT p (absorb p lb xs) m = R by rw [hR, squeeze, if_pos ⟨hv, hn⟩]; simp)
      obtain ⟨hn0, hn1⟩ := hn
      go_wp2_with fail
      refine (valid_any p _).mono ?_
      rintro ew1 w1 ⟨rfl, hb1⟩
      rw [hv]
      go_wp2_with fail
      refine (absorb_any p lb ad c xs _ l0 l1 (hs.mono hb1) hw hl).mono ?_
      rintro e w2 ⟨rfl, hb2⟩
      have hW := absorb_W3 p lb xs
      obtain ⟨s0, hs0⟩ : ∃ s0, s0 = absorb p lb xs := ⟨_, rfl⟩
      rw [← hs0] at hR hW ⊢
      replace hb2 := below2 hb1 hb2
      have hmk := fun W => run_mk (P := Try.prog) (t := 31) (e := 22) (k := .u64) (bytes := 8) Try.underlying31 Try.infoU64 (by decide) m m (Nat.le_refl _) (by omega) W
      clear hs0 hb1
      go_wp2_with fail
      refine name_world fun W hW' => ?_
      have H0 : SqR p w W w2.heap.size s0 0 0 (.slice (some ⟨w2.heap.size + 1, 0, none⟩) m m) (sqL p s0 m 0) := by
        rw [hW']
        have := Own.made (w := w2.alloc (.cells #[.int .u64 s0.a, .int .u64 s0.b, .int .u64 s0.c] 26)) (base := w.heap.size) (E := 22) (k := .u64) (cap := m) 0 (by have := hb2.size; simp; omega) (by simp only [maxLen]; omega)
        refine ⟨(hb2.alloc hb2.size _).alloc (by have := hb2.size; simp; omega) _, (Blk.newAt rfl).alloc _, ?_, by simp [Value.ownBlock], hb2.size⟩
        rw [sqL_zero]
        simpa using this
      clear hb2 hW' hmk
      generalize w2.heap.size = bs at *
      go_loopw [32] (fun t32 wr => ∃ i : Nat, i ≤ m ∧ t32 = .int .i64 i ∧ SqR p w wr bs s0 ((i - 1) / 2) i (.slice (some ⟨bs + 1, 0, none⟩) m m) (sqL p s0 m i)) (fun t32 _ => m - (intOf t32).toNat)
      case atStart => exact ⟨0, by omega, rfl, H0⟩
      case round =>
        obtain ⟨i, hi, rfl, G⟩ := hrel
        clear H0
        by_cases hlt : i < m
        · have hst := sqL_set p s0 m i
          have sW := sqS_W3 p s0 hW ((i - 1) / 2)
          obtain hz | hz | hz : i = 0 ∨ (0 < i ∧ i % 2 = 0) ∨ i % 2 = 1 := by omega
          · subst hz
            obtain ⟨x, hx⟩ : ∃ x, x = sqS p s0 0 := ⟨_, rfl⟩
            have he : sqE p s0 0 = x.a := by rw [hx]; rfl
            rw [he] at hst
            have c0 := G.st.cell (j := 0) (v := .int .u64 x.a) (by rw [hx]; rfl)
            have d0 := G.own.cell (j := 0) hlt
            have f := G.own.free 0
            have G2 := SqR.set G x.a
            rw [hst] at G2
            clear hst he hx
            go_wp2
            go_roundw
            case rel => exact ⟨1, by omega, by go_num, G2⟩
            case measure => simp [intOf]; omega
          · obtain ⟨hz0, hz1⟩ := hz
            have hi0 : decide (0 < (i : Int)) = true := by simpa using hz0
            have hm2 : (i : Int) % 2 = 0 := by omega
            obtain ⟨x, hx⟩ : ∃ x, x = sqS p s0 ((i - 1) / 2) := ⟨_, rfl⟩
            rw [← hx] at sW
            have hP : ∀ W : World, Calls Try.prog 33 #[.int .u64 p, .agg #[.int .u64 x.a, .int .u64 x.b, .int .u64 x.c]] W fun e w' => e = .returned (.agg #[.int .u64 (permute p x).a, .int .u64 (permute p x).b, .int .u64 (permute p x).c]) ∧ Below W.heap.size W w' := fun W => Permute_any p x W sW
            have hy : permute p x = sqS p s0 ((i - 1) / 2 + 1) := by rw [hx]; rfl
            obtain ⟨y, hy'⟩ : ∃ y, y = permute p x := ⟨_, rfl⟩
            rw [← hy'] at hP hy
            have hd : (i - 1) / 2 + 1 = i / 2 := by omega
            have he : sqE p s0 i = y.a := by unfold sqE; rw [if_pos hz1, hy, hd]
            rw [he] at hst
            replace hy := hide hy
            replace hst := hide hst
            replace hd := hide hd
            have c0 := G.st.cell (j := 0) (v := .int .u64 x.a) (by rw [hx]; rfl); have c1 := G.st.cell (j := 1) (v := .int .u64 x.b) (by rw [hx]; rfl); have c2 := G.st.cell (j := 2) (v := .int .u64 x.c) (by rw [hx]; rfl)
            replace hx := hide hx
            replace hz1 := hide hz1
            clear hy' he
            go_wp2_with fail
            refine (hP _).mono ?_
            clear c0 c1 c2
            rintro e w5 ⟨rfl, hb5⟩
            replace G := G.mono hb5
            have c0 := G.st.cell (j := 0) (v := .int .u64 x.a) (by rw [hx.out]; rfl); have c1 := G.st.cell (j := 1) (v := .int .u64 x.b) (by rw [hx.out]; rfl); have c2 := G.st.cell (j := 2) (v := .int .u64 x.c) (by rw [hx.out]; rfl)
            have f5 := G.st.free
            have d0 := G.own.cell (j := i) hlt
            have f := G.own.free i
            have G4 := SqR.perm G y hy.out
            rw [hd.out] at G4
            have G2 := SqR.set G4 y.a
            rw [hst.out] at G2
            replace G2 := Hid.out (show Hid (SqR p w _ bs s0 ((i + 1 - 1) / 2) (i + 1) _ _) from G2)
            clear G4 G hb5 hP
            go_wp2
            go_roundw
            case rel => exact ⟨i + 1, by omega, by go_num, G2⟩
            case measure => simp [intOf]; omega
          · have hi0 : decide (0 < (i : Int)) = true := by simp; omega
            have hm2 : (i : Int) % 2 = 1 := by omega
            obtain ⟨x, hx⟩ : ∃ x, x = sqS p s0 ((i - 1) / 2) := ⟨_, rfl⟩
            have hd : (i - 1) / 2 = i / 2 := by omega
            have he : sqE p s0 i = x.b := by unfold sqE; rw [if_neg (by omega), hx, hd]
            rw [he] at hst
            have c0 := G.st.cell (j := 1) (v := .int .u64 x.b) (by rw [hx]; rfl)
            have d0 := G.own.cell (j := i) hlt
            have f := G.own.free i
            have G2 := SqR.set G x.b
            rw [hst, hd] at G2
            replace G2 := Hid.out (show Hid (SqR p w _ bs s0 ((i + 1 - 1) / 2) (i + 1) _ _) from G2)
            replace hz := hide hz
            clear hst he hx hd G
            go_wp2
            go_roundw
            case rel => exact ⟨i + 1, by omega, by go_num, G2⟩
            case measure => simp [intOf]; omega
        · obtain rfl : i = m := by omega
          rw [sqL_full, hR.out] at G
          go_wp2
          go_ret
          exact ⟨_, rfl, G.own, G.b⟩
    · replace hR := hide (show [] = R by rw [hR, squeeze, if_neg (fun h => hn h.2)])
      go_wp2_with fail
      refine (valid_any p _).mono ?_
      rintro ew1 w1 ⟨rfl, hb1⟩
      rw [hv]
      by_cases hn0 : n < 0
      · go_wp2
        go_ret
        exact ⟨_, rfl, by rw [← hR.out]; exact Own.nil _ _ _ _, hb1⟩
      · have hn2 : 65536 < n := by omega
        go_wp2
        go_ret
        exact ⟨_, rfl, by rw [← hR.out]; exact Own.nil _ _ _ _, hb1⟩
  · have hv := vld_no hv
    replace hR := hide (show [] = R by rw [hR, squeeze, hv]; rfl)
    go_wp2_with fail
    refine (valid_any p _).mono ?_
    rintro ew1 w1 ⟨rfl, hb1⟩
    rw [hv]
    go_wp2
    go_ret
    exact ⟨_, rfl, by rw [← hR.out]; exact Own.nil _ _ _ _, hb1⟩

end Go.Proofs.Ytaklpdhhcnnclaa
