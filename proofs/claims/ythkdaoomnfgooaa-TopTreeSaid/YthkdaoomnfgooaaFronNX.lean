/- Trees of all their places: Places and Naive. -/
import Derived.Test.YthkdaoomnfgooaaFronL
import Derived.Test.YthkdaoomnfgooaaFronB
import Derived.Test.YthkdaoomnfgooaaFronQ
namespace Go.Proofs.Ythkdaoomnfgooaa
open Go.RowKit

theorem rep_snoc (l : List Int) (i : Nat) (e : Int) : l ++ List.replicate i e ++ [e] = l ++ List.replicate (i + 1) e := by
  rw [List.replicate_succ', List.append_assoc]
theorem places_len {n : Nat} {l : List Int} (h : l.length ≤ 2 ^ n) : (placesL n l).length = 2 ^ n := by
  unfold placesL; rw [List.length_append, List.length_replicate]; omega
theorem places_W {n : Nat} {l : List Int} (h : AllW l) : AllW (placesL n l) := fun x hx => by
  unfold placesL at hx
  rcases List.mem_append.1 hx with h1 | h1
  · exact h x h1
  · rw [(List.mem_replicate.1 h1).2]; exact emp_bd 0

/-- append of one element, which lies in the block just made; its number by an equation. -/
theorem wpList_appY {P : Program} (w : World) {ops : Array Oper} {rest : List Oper} {o : Oper} {a : Act} {Q : Exit → Act → World → Prop} (E : TypeId) (k : IntKind) (y : Int) (hgd : o.guard = none) (s x : Operand) (t : TypeId)
    (ho : o.op = .call { callee := .builtin .append, args := #[s, x], argTypes := #[t, t] })
    (base : Nat) (bytes : Nat) (ht : P.underlying t = some (.slice E)) (hinfo : (P.info? E).map (fun i => (i.zero, i.size, i.bytes)) = some (some (.int k 0), 1, bytes)) (h8 : bytes ≤ 8)
    (v : Value) (xs : List Int) (z : Nat) (hs : a.eval s = v) (hx : a.eval x = .slice (some ⟨z, 0, none⟩) 1 1) (hz : z = w.heap.size) (hown : Own w base E k v xs) (hlen : xs.length < 1099511627775) (hbase : base ≤ w.heap.size)
    (h : ∀ v' w', Own w' base E k v' (xs ++ [y]) → Grew w w' v v' → wpList P ops Q rest (a.put o.dst v') w') : wpList P ops Q (o :: rest) a (w.alloc (.cells #[.int k y] E)) :=
  wpList_app1 w E k y hgd s x t ho base bytes ht hinfo h8 v xs hs (by rw [hx, hz]) hown hlen hbase h

def sLen : Value → Nat | .slice _ n _ => n | _ => 0

set_option maxRecDepth 10000 in
set_option maxHeartbeats 4000000 in
theorem Places_any (n : Nat) (ad : Option Addr) (cap : Nat) (l : List Int) (w : World) (hs : Sl w .u64 ad l) (hn : n ≤ 12) (hl : l.length ≤ 2 ^ n) :
    Calls Try.prog 38 #[.int .i64 n, .slice ad l.length cap] w (RetSl w 30 .u64 (placesL n l)) := by
  obtain ⟨p1, p2⟩ := pow_le12 hn
  have epow : ((2 : Int) ^ n) = ((2 ^ n : Nat) : Int) := (Int.natCast_pow 2 _).symm
  unfold placesL
  obtain ⟨M, hM⟩ : ∃ M : Nat, M = 2 ^ n := ⟨_, rfl⟩
  rw [← hM] at hl p1 p2 ⊢
  have hwp : IntKind.i64.wrap ((2 : Int) ^ n) = M := by rw [epow, ← hM, IntKind.wrap_i64]; omega
  replace hM := hide hM
  have hn' : (n : Int) ≤ 12 := by omega
  have cE := fun W : World => rEmpty_any 0 W
  have e0 : empI 0 = emp 0 := rfl
  rw [e0] at cE
  obtain ⟨E, hE⟩ : ∃ E, E = emp 0 := ⟨_, rfl⟩
  rw [← hE] at cE ⊢
  clear epow e0 hE
  go_enter Try.func38, Try.ntmps38
  go_wp2_with (at_builtin; refine wpList_app _ rfl _ _ 22 rfl w.heap.size 30 .u64 8 Try.underlying22 Try.infoU64 (by decide) _ [] l cap _ rfl rfl (Own.empty (Nat.le_refl _)) (hs.alloc _) (by simp; omega) (by simp) ?_; intro v' w' hown hg; refine Hold.mk ?_)
  refine Hold.go ?_
  have hB : Below w.heap.size w w' := hg.below ((Below.refl _ _).alloc (Nat.le_refl _) _) (Own.empty (base := w.heap.size) (k := .u64) (Nat.le_refl _)) (Nat.le_refl _) (by simp)
  rw [List.nil_append] at hown
  clear hg
  go_wp2_with fail
  go_loopw [5] (fun t5 wr => Below w.heap.size w wr ∧ ∃ i : Nat, l.length + i ≤ M ∧ Own wr w.heap.size 30 .u64 t5 (l ++ List.replicate i E)) (fun t5 _ => M - (sLen t5))
  case atStart => exact ⟨hB, 0, by omega, by simpa using hown⟩
  case round =>
    clear hB hown
    obtain ⟨hB, i, hi, ho⟩ := hrel
    obtain ⟨X, hX⟩ : ∃ X, X = l ++ List.replicate i E := ⟨_, rfl⟩
    have hXl : X.length = l.length + i := by rw [hX]; simp
    have hXn : X ++ [E] = l ++ List.replicate (i + 1) E := by rw [hX]; exact rep_snoc _ _ _
    rw [← hX] at ho
    obtain ⟨a, c, rfl, _, _, _⟩ := Own.sl ho
    replace hXl := hide hXl
    by_cases hlt : X.length < M
    · clear hX
      replace hXn := hide hXn
      have hlt' : (X.length : Int) < M := by omega
      go_wp2_with fail
      go_wp2_with fail
      refine (cE _).mono ?_
      rintro ew2 w2 ⟨rfl, hb2⟩
      have ho2 := ho.mono hb2
      have hB2 := below2 hB hb2
      clear cE hb2 ho hB
      go_wp2_with (at_builtin; (refine wpList_appY _ 30 .u64 _ rfl _ _ 22 rfl w.heap.size 8 Try.underlying22 Try.infoU64 (by decide) _ X _ rfl rfl (by simp) ho2 (by omega) hB2.size ?_; intro v' w' hown hg; refine Hold.mk ?_))
      refine Hold.go ?_
      have hB3 := hg.below hB2 ho2 (Nat.le_refl _) hB2.size
      obtain ⟨a3, c3, rfl, _, _, _⟩ := Own.sl hown
      clear hg ho2 hB2
      go_wp2
      go_roundw
      case rel => exact ⟨hB3, i + 1, by have := hXl.out; omega, by rw [← hXn.out]; exact hown⟩
      case measure => simp [sLen]; omega
    · have hXe : X = l ++ List.replicate (M - l.length) E := by rw [hX, show M - l.length = i by have := hXl.out; omega]
      have hlt' : (M : Int) ≤ X.length := by omega
      clear hX hXn
      replace hXe := hide hXe
      go_wp2
      go_ret
      exact ⟨_, rfl, by rw [← hXe.out]; exact ho, hB⟩

end Go.Proofs.Ythkdaoomnfgooaa

/- Trees of all their places: Naive. -/
namespace Go.Proofs.Ythkdaoomnfgooaa
open Go.RowKit

theorem pow_succ' (k : Nat) : 2 ^ (k + 1) = 2 * 2 ^ k := by rw [Nat.pow_succ]; omega

set_option maxRecDepth 10000 in
set_option maxHeartbeats 4000000 in
theorem Naive_any (n : Nat) (ad : Option Addr) (cap : Nat) (l : List Int) (w : World) (hs : Sl w .u64 ad l) (hw : AllW l) (hn : n ≤ 12) (hl : l.length ≤ 2 ^ n) :
    Calls Try.prog 36 #[.int .i64 n, .slice ad l.length cap] w fun e w' => e = .returned (.int .u64 (top n (placesL n l))) ∧ Below w.heap.size w w' := by
  have cP := fun (W : World) (hs : Sl W .u64 ad l) => Places_any n ad cap l W hs hn hl
  have hPl := places_len hl
  have hPw := places_W (n := n) hw
  have hpn := (pow_le12 hn).2
  obtain ⟨R, hR⟩ : ∃ R, R = top n (placesL n l) := ⟨_, rfl⟩
  generalize placesL n l = X at *
  rw [← hR]
  replace hR := hide hR
  clear hw hl
  go_enter Try.func36, Try.ntmps36
  go_wp2_with fail
  refine (cP w hs).mono ?_
  rintro e w1 ⟨v, rfl, o1, hb1⟩
  replace hPl := hide hPl
  clear cP
  go_wp2_with fail
  go_loopw [5] (fun t5 wr => Below w.heap.size w wr ∧ ∃ Y : List Int, ∃ k : Nat, k ≤ n ∧ Hid (Y.length = 2 ^ k) ∧ AllW Y ∧ Hid (R = top k Y) ∧ Own wr w.heap.size 30 .u64 t5 Y) (fun t5 _ => sLen t5)
  case atStart => exact ⟨hb1, X, n, Nat.le_refl _, hPl, hPw, hR, o1⟩
  case round =>
    clear hb1 o1 hPl hPw hR
    obtain ⟨hB, Y, k, hk, hY, hYw, hR, ho⟩ := hrel
    obtain ⟨a, c, rfl, sY, _, _⟩ := Own.sl ho
    have hkn : 2 ^ k ≤ 2 ^ n := Nat.pow_le_pow_right (by decide) hk
    have hYn : Y.length ≤ 4096 := by rw [hY.out]; omega
    clear hkn
    cases k with
    | zero =>
      have h1 : Hid (Y.getD 0 0 = R) := hide hR.out.symm
      have hY1 : Y.length = 1 := hY.out
      obtain ⟨b, off, rfl, _, hc⟩ := sY.get (show 0 < Y.length by omega)
      rw [h1.out, Nat.add_zero] at hc
      rw [hY1]
      go_wp2
      go_ret
      exact ⟨rfl, hB⟩
    | succ k =>
      have hlt : (1 : Int) < Y.length := by
        have := hY.out
        have := pow_succ' k
        have := Nat.one_le_two_pow (n := k)
        omega
      have cL := fun (W : World) (hs : Sl W .u64 a Y) => Level_any a c Y W hs hYw (by omega)
      have hl2 : Hid ((pairs Y).length = 2 ^ k) := hide (by rw [pairs_len, hY.out, pow_succ']; omega)
      have hR2 : Hid (R = top k (pairs Y)) := hide hR.out
      have hw2 := pairs_W Y
      have hm : (pairs Y).length < Y.length := by rw [pairs_len]; omega
      generalize pairs Y = Z at *
      clear hR hYw hpn
      go_wp2_with fail
      refine (cL wr sY).mono ?_
      rintro e w2 ⟨v2, rfl, o2, hb2⟩
      obtain ⟨a2, c2, rfl, _, _, _⟩ := Own.sl o2
      replace o2 := o2.low hB.size
      have hB2 := below2 hB hb2
      clear cL hb2 hB ho sY hYn
      go_wp2
      go_roundw
      case rel => exact ⟨hB2, Z, k, by omega, hl2, hw2, hR2, o2⟩
      case measure => simp [sLen]; omega

end Go.Proofs.Ythkdaoomnfgooaa

/- Trees of all their places: Path. -/
namespace Go.Proofs.Ythkdaoomnfgooaa
open Go.RowKit

theorem path_W : ∀ (d : Nat) (l : List Int) (p : Nat), AllW l → AllW (pathL d l p)
  | 0, _, _, _, x, h => by cases h
  | d + 1, l, p, hw, x, h => by
    simp only [pathL, List.mem_cons] at h
    rcases h with rfl | h
    · rcases Nat.lt_or_ge (if p % 2 = 1 then p - 1 else p + 1) l.length with h1 | h1
      · exact hw.get h1
      · rw [List.getD_eq_getElem?_getD, List.getElem?_eq_none h1]; exact ⟨Int.le_refl 0, by decide⟩
    · exact path_W d (pairs l) (p / 2) (pairs_W l) x h
theorem path_len : ∀ (d : Nat) (l : List Int) (p : Nat), (pathL d l p).length = d
  | 0, _, _ => rfl
  | d + 1, l, p => by simp [pathL, path_len d]

set_option maxRecDepth 10000 in
set_option maxHeartbeats 4000000 in
theorem Path_any (n p : Nat) (ad : Option Addr) (cap : Nat) (l : List Int) (w : World) (hs : Sl w .u64 ad l) (hw : AllW l) (hn : n ≤ 12) (hl : l.length ≤ 2 ^ n) (hp : p < 2 ^ n) :
    Calls Try.prog 40 #[.int .i64 n, .slice ad l.length cap, .int .i64 p] w (RetSl w 30 .u64 (pathL n (placesL n l) p)) := by
  have cP := fun (W : World) (hs : Sl W .u64 ad l) => Places_any n ad cap l W hs hn hl
  have hPl := places_len hl
  have hPw := places_W (n := n) hw
  have hpn := (pow_le12 hn).2
  obtain ⟨R, hR⟩ : ∃ R, R = pathL n (placesL n l) p := ⟨_, rfl⟩
  generalize placesL n l = X at *
  rw [← hR]
  replace hR := hide hR
  clear hw hl
  go_enter Try.func40, Try.ntmps40
  go_wp2_with fail
  refine (cP w hs).mono ?_
  rintro e w1 ⟨v, rfl, o1, hb1⟩
  replace hPl := hide hPl
  clear cP
  go_wp2_with fail
  go_loopw [2, 7, 8] (fun t2 t7 t8 wr => Below w.heap.size w wr ∧ ∃ (Y O : List Int) (k q : Nat), k ≤ n ∧ q < 2 ^ k ∧ t2 = .int .i64 q ∧ Hid (Y.length = 2 ^ k) ∧ AllW Y ∧ Hid (R = O ++ pathL k Y q) ∧ Hid (O.length + k = n) ∧ Own wr w.heap.size 30 .u64 t7 Y ∧ Own wr w.heap.size 30 .u64 t8 O ∧ (t7 = .slice none 0 0 ∨ t8.ownBlock ≠ t7.ownBlock)) (fun _ t7 _ _ => sLen t7)
  case atStart => exact ⟨hb1, X, [], n, p, Nat.le_refl _, hp, rfl, hPl, hPw, hR, hide (by simp), o1, Own.nil _ _ _ _, by
    rcases o1.form with ⟨rfl, _⟩ | ⟨g, _, _, rfl, _⟩
    · exact .inl rfl
    · exact .inr (fun e => by cases e)⟩
  case round =>
    clear hb1 o1 hPl hPw hR hp
    obtain ⟨hB, Y, O, k, q, hk, hq, rfl, hY, hYw, hR, hO, ho, hu, hne⟩ := hrel
    obtain ⟨a, c, rfl, sY, _, _⟩ := Own.sl ho
    have hkn : 2 ^ k ≤ 2 ^ n := Nat.pow_le_pow_right (by decide) hk
    have hYn : Y.length ≤ 4096 := by rw [hY.out]; omega
    have hqn : q < 4096 := by omega
    clear hkn
    cases k with
    | zero =>
      have h1 : Hid (O = R) := hide (by rw [hR.out]; simp [pathL])
      have hY1 : Y.length = 1 := hY.out
      rw [hY1]
      go_wp2
      go_ret
      exact ⟨_, rfl, by rw [← h1.out]; exact hu, hB⟩
    | succ k =>
      have hlt : (1 : Int) < Y.length := by
        have := hY.out
        have := pow_succ' k
        have := Nat.one_le_two_pow (n := k)
        omega
      have cL := fun (W : World) (hs : Sl W .u64 a Y) => Level_any a c Y W hs hYw (by omega)
      have hl2 : Hid ((pairs Y).length = 2 ^ k) := hide (by rw [pairs_len, hY.out, pow_succ']; omega)
      have hqk : q / 2 < 2 ^ k := by have := pow_succ' k; omega
      have hqY : q < Y.length := by rw [hY.out]; exact hq
      have hYe : Y.length % 2 = 0 := by rw [hY.out, pow_succ']; omega
      have hO2 : O.length < 1099511627775 := by have := hO.out; omega
      have hdiv : (q : Int).tdiv 2 = ((q / 2 : Nat) : Int) := by rw [Int.tdiv_eq_ediv_of_nonneg (by omega)]; rfl
      obtain ⟨q2, hq2⟩ : ∃ q2, q2 = q / 2 := ⟨_, rfl⟩
      have hq2n : q2 < 4096 := by omega
      by_cases hm : q % 2 = 1
      · have hmt : (q : Int).tmod 2 = 1 := by rw [Int.tmod_eq_emod_of_nonneg (by omega)]; omega
        have hst : Hid (R = O ++ [Y.getD (q - 1) 0] ++ pathL k (pairs Y) (q / 2)) := hide (by rw [hR.out]; simp only [pathL]; rw [if_pos hm, List.append_assoc]; rfl)
        obtain ⟨j, hj⟩ : ∃ j, j = q - 1 := ⟨_, rfl⟩
        have hjY : j < Y.length := by omega
        have hij : (q : Int) - 1 = (j : Int) := by omega
        have hwj : IntKind.i64.wrap (j : Int) = j := by rw [IntKind.wrap_i64]; omega
        obtain ⟨b, off, rfl, _, hc⟩ := sY.get hjY
        rw [← hj, ← hq2] at hst
        rw [← hq2] at hdiv hqk
        have hw2 := pairs_W Y
        have hmm : (pairs Y).length < Y.length := by rw [pairs_len]; omega
        obtain ⟨y, hy⟩ : ∃ y, y = Y.getD j 0 := ⟨_, rfl⟩
        rw [← hy] at hst hc
        replace hm := hide hm
        replace hj := hide hj
        replace hq2 := hide hq2
        clear hy hR hYe hqY hpn
        generalize pairs Y = Z at *
        go_wp2_with (at_builtin; refine wpList_app1 _ 30 .u64 _ rfl _ _ 22 rfl w.heap.size 8 Try.underlying22 Try.infoU64 (by decide) _ O rfl rfl hu hO2 hB.size ?_; intro v' w' hown hg; refine Hold.mk ?_)
        refine Hold.go ?_
        have hB2 := hg.below hB hu (Nat.le_refl _) hB.size
        have ho2 := hg.own ho hne
        obtain ⟨a3, c3, he, sY2, _, _⟩ := Own.sl ho2
        injection he with he1 he2 he3
        subst he1
        clear he2 he3 hg hB hu ho hne hc sY
        go_wp2_with fail
        refine (cL w' sY2).mono ?_
        rintro e w2 ⟨v2, rfl, o2, hb2⟩
        have hne2 : v2 = .slice none 0 0 ∨ v'.ownBlock ≠ v2.ownBlock := by
          rcases o2.form with ⟨rfl, _⟩ | ⟨g, cc, _, rfl, hg1, _⟩
          · exact .inl rfl
          · refine .inr fun e => ?_
            have : g < w'.heap.size := (hown.lt e).2
            omega
        obtain ⟨a2, c2, rfl, _, _, _⟩ := Own.sl o2
        replace o2 := o2.low hB2.size
        have hB3 := below2 hB2 hb2
        have hu2 := hown.mono hb2
        clear cL hb2 hB2 hown sY2 ho2
        go_wp2
        go_roundw
        case rel => exact ⟨hB3, Z, O ++ [y], k, q2, by omega, hqk, by go_num, hl2, hw2, hide hst.out, hide (by have := hO.out; simp; omega), o2, hu2, hne2⟩
        case measure => simp [sLen]; omega
      · have hmt : (q : Int).tmod 2 = 0 := by rw [Int.tmod_eq_emod_of_nonneg (by omega)]; omega
        have hst : Hid (R = O ++ [Y.getD (q + 1) 0] ++ pathL k (pairs Y) (q / 2)) := hide (by rw [hR.out]; simp only [pathL]; rw [if_neg hm, List.append_assoc]; rfl)
        obtain ⟨j, hj⟩ : ∃ j, j = q + 1 := ⟨_, rfl⟩
        have hjY : j < Y.length := by omega
        have hij : (q : Int) + 1 = (j : Int) := by omega
        have hwj : IntKind.i64.wrap (j : Int) = j := by rw [IntKind.wrap_i64]; omega
        obtain ⟨b, off, rfl, _, hc⟩ := sY.get hjY
        rw [← hj, ← hq2] at hst
        rw [← hq2] at hdiv hqk
        have hw2 := pairs_W Y
        have hmm : (pairs Y).length < Y.length := by rw [pairs_len]; omega
        obtain ⟨y, hy⟩ : ∃ y, y = Y.getD j 0 := ⟨_, rfl⟩
        rw [← hy] at hst hc
        replace hm := hide hm
        replace hj := hide hj
        replace hq2 := hide hq2
        clear hy hR hYe hqY hpn
        generalize pairs Y = Z at *
        go_wp2_with (at_builtin; refine wpList_app1 _ 30 .u64 _ rfl _ _ 22 rfl w.heap.size 8 Try.underlying22 Try.infoU64 (by decide) _ O rfl rfl hu hO2 hB.size ?_; intro v' w' hown hg; refine Hold.mk ?_)
        refine Hold.go ?_
        have hB2 := hg.below hB hu (Nat.le_refl _) hB.size
        have ho2 := hg.own ho hne
        obtain ⟨a3, c3, he, sY2, _, _⟩ := Own.sl ho2
        injection he with he1 he2 he3
        subst he1
        clear he2 he3 hg hB hu ho hne hc sY
        go_wp2_with fail
        refine (cL w' sY2).mono ?_
        rintro e w2 ⟨v2, rfl, o2, hb2⟩
        have hne2 : v2 = .slice none 0 0 ∨ v'.ownBlock ≠ v2.ownBlock := by
          rcases o2.form with ⟨rfl, _⟩ | ⟨g, cc, _, rfl, hg1, _⟩
          · exact .inl rfl
          · refine .inr fun e => ?_
            have : g < w'.heap.size := (hown.lt e).2
            omega
        obtain ⟨a2, c2, rfl, _, _, _⟩ := Own.sl o2
        replace o2 := o2.low hB2.size
        have hB3 := below2 hB2 hb2
        have hu2 := hown.mono hb2
        clear cL hb2 hB2 hown sY2 ho2
        go_wp2
        go_roundw
        case rel => exact ⟨hB3, Z, O ++ [y], k, q2, by omega, hqk, by go_num, hl2, hw2, hide hst.out, hide (by have := hO.out; simp; omega), o2, hu2, hne2⟩
        case measure => simp [sLen]; omega

end Go.Proofs.Ythkdaoomnfgooaa

/- The root of the frontier of leaves; the path of a place. -/
namespace Go.Proofs.Ythkdaoomnfgooaa
open Go.RowKit

theorem froot_fro' {n : Nat} {l : List Int} (h1 : 1 ≤ n) (h2 : n ≤ 12) (hl : l.length ≤ 2 ^ n) (hb : ∀ x ∈ l, x < big) : froot n l.length (fro n l) = top n (placesL n l) := by
  have e : ((2 : Int) ^ n) = ((2 ^ n : Nat) : Int) := (Int.natCast_pow 2 n).symm
  unfold froot
  rw [if_pos (fro_fvld h1 h2 hl hb), Int.toNat_natCast, Int.toNat_natCast]
  by_cases hf : l.length = 2 ^ n
  · rw [if_pos (by omega), fro_full n l hf]
    unfold placesL
    rw [hf, Nat.sub_self]
    simp
  · rw [if_neg (by omega), root_naive n l (by omega)]

theorem places_big {n : Nat} {l : List Int} (h : ∀ x ∈ l, x < big) : ∀ x ∈ placesL n l, x < big := fun x hx => by
  unfold placesL at hx
  rcases List.mem_append.1 hx with h1 | h1
  · exact h x h1
  · rw [(List.mem_replicate.1 h1).2]; exact emp_lt 0
theorem path_big : ∀ (d : Nat) (l : List Int) (p : Nat), (∀ x ∈ l, x < big) → ∀ x ∈ pathL d l p, x < big
  | 0, _, _, _, x, h => by cases h
  | d + 1, l, p, hw, x, h => by
    simp only [pathL, List.mem_cons] at h
    rcases h with rfl | h
    · rcases Nat.lt_or_ge (if p % 2 = 1 then p - 1 else p + 1) l.length with h1 | h1
      · exact hw _ (getD_mem h1)
      · rw [List.getD_eq_getElem?_getD, List.getElem?_eq_none h1]; decide
    · exact path_big d (pairs l) (p / 2) (lt_of_mem_pairs l) x h
theorem fclimb_path {n p : Nat} {l : List Int} (h2 : n ≤ 12) (hl : l.length ≤ 2 ^ n) (hb : ∀ x ∈ l, x < big) (hp : p < 2 ^ n) :
    fclimb ((placesL n l).getD p 0) p (pathL n (placesL n l) p) = top n (placesL n l) := by
  have hpl := places_len hl
  have e : ((2 : Int) ^ n) = ((2 ^ n : Nat) : Int) := (Int.natCast_pow 2 n).symm
  unfold fclimb
  rw [path_len, if_pos ⟨h2, by omega, by omega, places_big hb _ (getD_mem (by omega)), path_big _ _ _ (places_big hb)⟩, Int.toNat_natCast]
  exact climb_path n (placesL n l) p hpl hp

end Go.Proofs.Ythkdaoomnfgooaa

/- Two frontiers beside each other: what stays when an entry of one is changed. -/
namespace Go.Proofs.Ythkdaoomnfgooaa
open Go.RowKit

def w64 (x : Int) : Int := IntKind.u64.wrap x
def incL (i : Nat) (F : List Int) : List Int := (F.take i).map (fun x => w64 (x + 1)) ++ F.drop i
def decL (i : Nat) (F : List Int) : List Int := F.take i ++ (F.drop i).map (fun x => w64 (x + 1))
theorem w64_bd (x : Int) : 0 ≤ w64 x ∧ w64 x < 18446744073709551616 := by
  unfold w64; rw [IntKind.wrap_u64]; omega
theorem w64_back {x : Int} (h : 0 ≤ x ∧ x < 18446744073709551616) : w64 (w64 (x + 1) - 1) = x := by
  unfold w64; rw [IntKind.wrap_u64, IntKind.wrap_u64]; omega
theorem incL_len (i : Nat) (F : List Int) : (incL i F).length = F.length := by
  unfold incL; rw [List.length_append, List.length_map, ← List.length_append, List.take_append_drop]
theorem decL_len (i : Nat) (F : List Int) : (decL i F).length = F.length := by
  unfold decL; rw [List.length_append, List.length_map, ← List.length_append, List.take_append_drop]
theorem incL_get {i : Nat} {F : List Int} (h : i < F.length) : (incL i F).getD i 0 = F.getD i 0 := by
  unfold incL
  have hl : ((F.take i).map (fun x => w64 (x + 1))).length = i := by rw [List.length_map, List.length_take]; omega
  simp only [List.getD_eq_getElem?_getD]
  rw [List.getElem?_append_right (by omega), hl, Nat.sub_self]
  simp
theorem incL_set {i : Nat} {F : List Int} (h : i < F.length) : (incL i F).set i (w64 (F.getD i 0 + 1)) = incL (i + 1) F := by
  unfold incL
  have hl : ((F.take i).map (fun x => w64 (x + 1))).length = i := by rw [List.length_map, List.length_take]; omega
  rw [List.set_append_right _ _ (by omega), hl, Nat.sub_self, drop_getD h, List.set_cons_zero, take_succ_getD F 0 h]
  simp
theorem decL_get {i : Nat} {F : List Int} (h : i < F.length) : (decL i F).getD i 0 = w64 (F.getD i 0 + 1) := by
  unfold decL
  have hl : (F.take i).length = i := by rw [List.length_take]; omega
  simp only [List.getD_eq_getElem?_getD]
  rw [List.getElem?_append_right (by omega), hl, Nat.sub_self, drop_getD h]
  simp [List.getD_eq_getElem?_getD]
theorem decL_set {i : Nat} {F : List Int} (h : i < F.length) : (decL i F).set i (F.getD i 0) = decL (i + 1) F := by
  unfold decL
  have hl : (F.take i).length = i := by rw [List.length_take]; omega
  rw [List.set_append_right _ _ (by omega), hl, Nat.sub_self, drop_getD h, List.map_cons, List.set_cons_zero, take_succ_getD F 0 h]
  simp
theorem inc_dec (F : List Int) : incL F.length F = decL 0 F := by
  unfold incL decL
  rw [List.take_length, List.drop_length, List.append_nil]
  simp
theorem decL_all (F : List Int) : decL F.length F = F := by
  unfold decL
  rw [List.take_length, List.drop_length]
  simp

/-- The law's four frontiers; K stands in the slice of the second. -/
structure St36 (w wr : World) (b5 b6 b8 : Nat) (d c D C : Int) (vL vX vG vH : Value) (L K F : List Int) : Prop where
  B : Below w.heap.size w wr
  k0 : Blk wr w.heap.size #[.int .i64 d, .int .i64 c, vL] 24
  k5 : Blk wr b5 #[.int .i64 d, .int .i64 c, vX] 28
  k6 : Blk wr b6 #[.int .i64 D, .int .i64 C, vG] 28
  k8 : Blk wr b8 #[.int .i64 D, .int .i64 C, vH] 24
  oX : Own wr w.heap.size 30 .u64 vX L
  oG : Own wr w.heap.size 30 .u64 vG K
  oH : Own wr w.heap.size 30 .u64 vH F
  nX : ∀ g, vG.ownBlock = some g → vX.ownBlock ≠ some g
  nH : ∀ g, vG.ownBlock = some g → vH.ownBlock ≠ some g

theorem Own.ne_blk {w : World} {base g : Nat} {E : TypeId} {k : IntKind} {v : Value} {xs : List Int} {b : Nat} {cs : Array Value} {T : TypeId} (h : Own w base E k v xs) (e : v.ownBlock = some g) (k : Blk w b cs T) (hT : ¬ E = T) : g ≠ b := fun e2 => own_ne_blk h k hT (by rw [e, e2])

theorem St36.set {w wr : World} {b5 b6 b8 : Nat} {d c D C : Int} {vL vX vH : Value} {L K F : List Int} {g n cap : Nat} (h : St36 w wr b5 b6 b8 d c D C vL vX (.slice (some ⟨g, 0, none⟩) n cap) vH L K F) (j : Nat) (y : Int) :
    St36 w (wr.setCell ⟨g, j, none⟩ (.int .u64 y)) b5 b6 b8 d c D C vL vX (.slice (some ⟨g, 0, none⟩) n cap) vH L (K.set j y) F :=
  ⟨h.B.setCell (p := ⟨g, j, none⟩) (show w.heap.size ≤ g from (h.oG.lt rfl).1) _, h.k0.other (h.oG.ne_blk rfl h.k0 (by decide)) _ _, h.k5.other (h.oG.ne_blk rfl h.k5 (by decide)) _ _,
    h.k6.other (h.oG.ne_blk rfl h.k6 (by decide)) _ _, h.k8.other (h.oG.ne_blk rfl h.k8 (by decide)) _ _, h.oX.other (h.nX g rfl) _, h.oG.set j y, h.oH.other (h.nH g rfl) _, h.nX, h.nH⟩
theorem St36.mono {w wr w' : World} {b5 b6 b8 : Nat} {d c D C : Int} {vL vX vG vH : Value} {L K F : List Int} (h : St36 w wr b5 b6 b8 d c D C vL vX vG vH L K F) (hb : Below wr.heap.size wr w') : St36 w w' b5 b6 b8 d c D C vL vX vG vH L K F :=
  ⟨below2 h.B hb, h.k0.mono hb, h.k5.mono hb, h.k6.mono hb, h.k8.mono hb, h.oX.mono hb, h.oG.mono hb, h.oH.mono hb, h.nX, h.nH⟩

end Go.Proofs.Ythkdaoomnfgooaa
