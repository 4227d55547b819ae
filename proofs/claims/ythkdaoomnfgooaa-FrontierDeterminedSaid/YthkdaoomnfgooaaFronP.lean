/- Trees of all their places: Path. -/
import Derived.Test.YthkdaoomnfgooaaFronO
namespace Go.Proofs.Ythkdaoomnfgooaa
open Go.RowKit

theorem path_W : ∀ (d : Nat) (l : List Int) (p : Nat), AllW l → AllW (pathL d l p)
  | 0, _, _, _, x, h => by cases h
  | d + 1, l, p, hw, x, h => by
    simp only [pathL, List.mem_cons] at h
    rcases h with rfl | h
    · rcases Nat.lt_or_ge (if p % 2 = 1 then p - 1 else p + 1) l.length with h1 | h1
      · exact hw.get h1
      · rw [List.getD_eq_getElem?_getD, List.getElem?_eq_none h1]; exact ⟨Int.le_refl 0, by decide⟩
    · exact path_W d (pairs l) (p / 2) (pairs_W l) x h
theorem path_len : ∀ (d : Nat) (l : List Int) (p : Nat), (pathL d l p).length = d
  | 0, _, _ => rfl
  | d + 1, l, p => by simp [pathL, path_len d]

set_option maxRecDepth 10000 in
set_option maxHeartbeats 4000000 in
theorem Path_any (n p : Nat) (ad : Option Addr) (cap : Nat) (l : List Int) (w : World) (hs : Sl w .u64 ad l) (hw : AllW l) (hn : n ≤ 12) (hl : l.length ≤ 2 ^ n) (hp : p < 2 ^ n) :
    Calls Try.prog 40 #[.int .i64 n, .slice ad l.length cap, .int .i64 p] w (RetSl w 30 .u64 (pathL n (placesL n l) p)) := by
  have cP := fun (W : World) (hs : Sl W .u64 ad l) => Places_any n ad cap l W hs hn hl
  have hPl := places_len hl
  have hPw := places_W (n := n) hw
  have hpn := (pow_le12 hn).2
  obtain ⟨R, hR⟩ : ∃ R, R = pathL n (placesL n l) p := ⟨_, rfl⟩
  generalize placesL n l = X at *
  rw [← hR]
  replace hR := hide hR
  clear hw hl
  go_enter Try.func40, Try.ntmps40
  go_wp2_with fail
  refine (cP w hs).mono ?_
  rintro e w1 ⟨v, rfl, o1, hb1⟩
  replace hPl := hide hPl
  clear cP
  go_wp2_with fail
  go_loopw [2, 7, 8] (fun t2 t7 t8 wr => Below w.heap.size w wr ∧ ∃ (Y O : List Int) (k q : Nat), k ≤ n ∧ q < 2 ^ k ∧ t2 = .int .i64 q ∧ Hid (Y.length = 2 ^ k) ∧ AllW Y ∧ Hid (R = O ++ pathL k Y q) ∧ Hid (O.length + k = n) ∧ Own wr w.heap.size 30 .u64 t7 Y ∧ Own wr w.heap.size 30 .u64 t8 O ∧ (t7 = .slice none 0 0 ∨ t8.ownBlock ≠ t7.ownBlock)) (fun _ t7 _ _ => sLen t7)
  case atStart => exact ⟨hb1, X, [], n, p, Nat.le_refl _, hp, rfl, hPl, hPw, hR, hide (by simp), o1, Own.nil _ _ _ _, by
    rcases o1.form with ⟨rfl, _⟩ | ⟨g, _, _, rfl, _⟩
    · exact .inl rfl
    · exact .inr (fun e => by cases e)⟩
  case round =>
    clear hb1 o1 hPl hPw hR hp
    obtain ⟨hB, Y, O, k, q, hk, hq, rfl, hY, hYw, hR, hO, ho, hu, hne⟩ := hrel
    obtain ⟨a, c, rfl, sY, _, _⟩ := Own.sl ho
    have hkn : 2 ^ k ≤ 2 ^ n := Nat.pow_le_pow_right (by decide) hk
    have hYn : Y.length ≤ 4096 := by rw [hY.out]; omega
    have hqn : q < 4096 := by omega
    clear hkn
    cases k with
    | zero =>
      have h1 : Hid (O = R) := hide (by rw [hR.out]; simp [pathL])
      have hY1 : Y.length = 1 := hY.out
      rw [hY1]
      go_wp2
      go_ret
      exact ⟨_, rfl, by rw [← h1.out]; exact hu, hB⟩
    | succ k =>
      have hlt : (1 : Int) < Y.length := by
        have := hY.out
        have := pow_succ' k
        have := Nat.one_le_two_pow (n := k)
        omega
      have cL := fun (W : World) (hs : Sl W .u64 a Y) => Level_any a c Y W hs hYw (by omega)
      have hl2 : Hid ((pairs Y).length = 2 ^ k) := hide (by rw [pairs_len, hY.out, pow_succ']; omega)
      have hqk : q / 2 < 2 ^ k := by have := pow_succ' k; omega
      have hqY : q < Y.length := by rw [hY.out]; exact hq
      have hYe : Y.length % 2 = 0 := by rw [hY.out, pow_succ']; omega
      have hO2 : O.length < 1099511627775 := by have := hO.out; omega
      have hdiv : (q : Int).tdiv 2 = ((q / 2 : Nat) : Int) := by rw [Int.tdiv_eq_ediv_of_nonneg (by omega)]; rfl
      obtain ⟨q2, hq2⟩ : ∃ q2, q2 = q / 2 := ⟨_, rfl⟩
      have hq2n : q2 < 4096 := by omega
      by_cases hm : q % 2 = 1
      · have hmt : (q : Int).tmod 2 = 1 := by rw [Int.tmod_eq_emod_of_nonneg (by omega)]; omega
        have hst : Hid (R = O ++ [Y.getD (q - 1) 0] ++ pathL k (pairs Y) (q / 2)) := hide (by rw [hR.out]; simp only [pathL]; rw [if_pos hm, List.append_assoc]; rfl)
        obtain ⟨j, hj⟩ : ∃ j, j = q - 1 := ⟨_, rfl⟩
        have hjY : j < Y.length := by omega
        have hij : (q : Int) - 1 = (j : Int) := by omega
        have hwj : IntKind.i64.wrap (j : Int) = j := by rw [IntKind.wrap_i64]; omega
        obtain ⟨b, off, rfl, _, hc⟩ := sY.get hjY
        rw [← hj, ← hq2] at hst
        rw [← hq2] at hdiv hqk
        have hw2 := pairs_W Y
        have hmm : (pairs Y).length < Y.length := by rw [pairs_len]; omega
        obtain ⟨y, hy⟩ : ∃ y, y = Y.getD j 0 := ⟨_, rfl⟩
        rw [← hy] at hst hc
        replace hm := hide hm
        replace hj := hide hj
        replace hq2 := hide hq2
        clear hy hR hYe hqY hpn
        generalize pairs Y = Z at *
        go_wp2_with (at_builtin; refine wpList_app1 _ 30 .u64 _ rfl _ _ 22 rfl w.heap.size 8 Try.underlying22 Try.infoU64 (by decide) _ O rfl rfl hu hO2 hB.size ?_; intro v' w' hown hg; refine Hold.mk ?_)
        refine Hold.go ?_
        have hB2 := hg.below hB hu (Nat.le_refl _) hB.size
        have ho2 := hg.own ho hne
        obtain ⟨a3, c3, he, sY2, _, _⟩ := Own.sl ho2
        injection he with he1 he2 he3
        subst he1
        clear he2 he3 hg hB hu ho hne hc sY
        go_wp2_with fail
        refine (cL w' sY2).mono ?_
        rintro e w2 ⟨v2, rfl, o2, hb2⟩
        have hne2 : v2 = .slice none 0 0 ∨ v'.ownBlock ≠ v2.ownBlock := by
          rcases o2.form with ⟨rfl, _⟩ | ⟨g, cc, _, rfl, hg1, _⟩
          · exact .inl rfl
          · refine .inr fun e => ?_
            have : g < w'.heap.size := (hown.lt e).2
            omega
        obtain ⟨a2, c2, rfl, _, _, _⟩ := Own.sl o2
        replace o2 := o2.low hB2.size
        have hB3 := below2 hB2 hb2
        have hu2 := hown.mono hb2
        clear cL hb2 hB2 hown sY2 ho2
        go_wp2
        go_roundw
        case rel => exact ⟨hB3, Z, O ++ [y], k, q2, by omega, hqk, by go_num, hl2, hw2, hide hst.out, hide (by have := hO.out; simp; omega), o2, hu2, hne2⟩
        case measure => simp [sLen]; omega
      · have hmt : (q : Int).tmod 2 = 0 := by rw [Int.tmod_eq_emod_of_nonneg (by omega)]; omega
        have hst : Hid (R = O ++ [Y.getD (q + 1) 0] ++ pathL k (pairs Y) (q / 2)) := hide (by rw [hR.out]; simp only [pathL]; rw [if_neg hm, List.append_assoc]; rfl)
        obtain ⟨j, hj⟩ : ∃ j, j = q + 1 := ⟨_, rfl⟩
        have hjY : j < Y.length := by omega
        have hij : (q : Int) + 1 = (j : Int) := by omega
        have hwj : IntKind.i64.wrap (j : Int) = j := by rw [IntKind.wrap_i64]; omega
        obtain ⟨b, off, rfl, _, hc⟩ := sY.get hjY
        rw [← hj, ← hq2] at hst
        rw [← hq2] at hdiv hqk
        have hw2 := pairs_W Y
        have hmm : (pairs Y).length < Y.length := by rw [pairs_len]; omega
        obtain ⟨y, hy⟩ : ∃ y, y = Y.getD j 0 := ⟨_, rfl⟩
        rw [← hy] at hst hc
        replace hm := hide hm
        replace hj := hide hj
        replace hq2 := hide hq2
        clear hy hR hYe hqY hpn
        generalize pairs Y = Z at *
        go_wp2_with (at_builtin; refine wpList_app1 _ 30 .u64 _ rfl _ _ 22 rfl w.heap.size 8 Try.underlying22 Try.infoU64 (by decide) _ O rfl rfl hu hO2 hB.size ?_; intro v' w' hown hg; refine Hold.mk ?_)
        refine Hold.go ?_
        have hB2 := hg.below hB hu (Nat.le_refl _) hB.size
        have ho2 := hg.own ho hne
        obtain ⟨a3, c3, he, sY2, _, _⟩ := Own.sl ho2
        injection he with he1 he2 he3
        subst he1
        clear he2 he3 hg hB hu ho hne hc sY
        go_wp2_with fail
        refine (cL w' sY2).mono ?_
        rintro e w2 ⟨v2, rfl, o2, hb2⟩
        have hne2 : v2 = .slice none 0 0 ∨ v'.ownBlock ≠ v2.ownBlock := by
          rcases o2.form with ⟨rfl, _⟩ | ⟨g, cc, _, rfl, hg1, _⟩
          · exact .inl rfl
          · refine .inr fun e => ?_
            have : g < w'.heap.size := (hown.lt e).2
            omega
        obtain ⟨a2, c2, rfl, _, _, _⟩ := Own.sl o2
        replace o2 := o2.low hB2.size
        have hB3 := below2 hB2 hb2
        have hu2 := hown.mono hb2
        clear cL hb2 hB2 hown sY2 ho2
        go_wp2
        go_roundw
        case rel => exact ⟨hB3, Z, O ++ [y], k, q2, by omega, hqk, by go_num, hl2, hw2, hide hst.out, hide (by have := hO.out; simp; omega), o2, hu2, hne2⟩
        case measure => simp [sLen]; omega

end Go.Proofs.Ythkdaoomnfgooaa
