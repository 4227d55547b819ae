/- The reference of trees of leaves: Empty, Node, Root. -/
import Derived.Test.YthkdaoomnfgooaaTreeA
import Derived.Test.YthkdaoomnfgooaaTreeB
namespace Go.Proofs.Ythkdaoomnfgooaa
open Go.RowKit

set_option maxHeartbeats 1000000 in
theorem rTEmpty_any (n : Nat) (w : World) (hn : n ≤ 12) :
    Calls Try.prog 80 #[.int .i64 n] w fun e w' => e = .returned (.int .u64 (emp n)) ∧ Below w.heap.size w w' := by
  have c0 := fun W : World => rHash_any big 6 none 0 [] W (by decide) (by decide) (Sl.nil _ _ _) (fun x hx => by cases hx) (by decide)
  have e0 : hash big 6 [] = emp 0 := rfl
  rw [e0] at c0
  go_enter Try.func80, Try.ntmps80
  go_wp2_with fail
  refine (c0 w).mono ?_
  rintro e w1 ⟨rfl, hb1⟩
  clear c0
  go_wp2_with fail
  go_loopw [3, 4] (fun t3 t4 wr => ∃ k : Nat, k ≤ n ∧ t4 = .int .i64 k ∧ t3 = .int .u64 (emp k) ∧ Below w.heap.size w wr) (fun _ t4 _ => n - (intOf t4).toNat)
  case atStart => exact ⟨0, by omega, rfl, rfl, hb1⟩
  case round =>
    clear hb1
    obtain ⟨k, hk, rfl, rfl, hB⟩ := hrel
    by_cases hlt : k < n
    · have hlt' : (k : Int) < n := by omega
      have hx := emp_bd k
      have hs : nd (emp k) (emp k) = emp (k + 1) := rfl
      obtain ⟨x, hxe⟩ : ∃ x, x = emp k := ⟨_, rfl⟩
      obtain ⟨y, hye⟩ : ∃ y, y = emp (k + 1) := ⟨_, rfl⟩
      rw [← hxe] at hx hs ⊢
      rw [← hye] at hs
      have c1 := fun (ad : Option Addr) (W : World) h => rHash_any big 6 ad 2 [x, x] W (by decide) (by decide) h (pair_W hx hx) (by simp)
      have e1 : hash big 6 [x, x] = y := hs
      rw [e1] at c1
      replace hye := hide hye
      clear e1 hs hx hxe
      go_wp2_with fail
      refine name_calls fun W hW => ?_
      replace hB : Below w.heap.size w W := by rw [hW]; exact hB.alloc hB.size _
      have g0 : Blk W wr.heap.size #[.int .u64 x, .int .u64 x] 30 := by rw [hW]; exact Blk.newAt rfl
      have s0 := Sl.blk (k := .u64) [x, x] g0 rfl
      clear hW g0
      refine (c1 _ W s0).mono ?_
      rintro e w2 ⟨rfl, hb2⟩
      replace hB := below2 hB hb2
      clear c1 hb2 s0
      go_wp2
      go_roundw
      case rel => exact ⟨k + 1, by omega, by go_num, by rw [hye.out], hB⟩
      case measure => simp [intOf]; omega
    · obtain rfl : k = n := by omega
      go_wp2
      go_ret
      exact ⟨rfl, hB⟩

set_option maxRecDepth 10000 in
set_option maxHeartbeats 2000000 in
theorem TNode_any (l : List Int) (ad : Option Addr) (cap : Nat) (hw : AllW l) (hl : l.length ≤ 4096) : ∀ (k j : Nat) (W : World), k ≤ 12 → (j + 1) * 2 ^ k ≤ 1048576 → Sl W .u64 ad l →
    Calls Try.prog 72 #[.slice ad l.length cap, .int .i64 k, .int .i64 j] W fun e w' => e = .returned (.int .u64 (dig k j l)) ∧ Below W.heap.size W w' := by
    intro k
    induction k using Nat.strongRecOn with
    | _ k ih =>
    intro j W hk hj hs
    have hp : 1 ≤ 2 ^ k := Nat.one_le_two_pow
    have hJ : j * 2 ^ k ≤ 1048576 := Nat.le_trans (Nat.mul_le_mul_right _ (Nat.le_succ j)) hj
    have hjb : j ≤ 1048576 := Nat.le_trans (Nat.le_mul_of_pos_right j hp) hJ
    obtain ⟨J, hJe⟩ : ∃ J, J = j * 2 ^ k := ⟨_, rfl⟩
    rw [← hJe] at hJ
    have hsh : IntKind.i64.wrap ((j : Int) * 2 ^ k) = J := by
      have e : ((j : Int) * 2 ^ k) = ((j * 2 ^ k : Nat) : Int) := by rw [Int.natCast_mul, Int.natCast_pow]; rfl
      rw [e, ← hJe, IntKind.wrap_i64]; omega
    have hk0 : (0 : Int) ≤ k := by omega
    have hk12 : (k : Int) ≤ 12 := by omega
    by_cases hfar : l.length ≤ J
    · have hfar' : (l.length : Int) ≤ J := by omega
      rw [dig_far k j l (by rw [← hJe]; exact hfar)]
      have cE := fun W : World => rTEmpty_any k W hk
      replace hJe := hide hJe
      clear hj hp
      go_enter Try.func72, Try.ntmps72
      go_wp2_with fail
      refine (cE W).mono ?_
      rintro e w2 ⟨rfl, hb⟩
      clear cE
      go_wp2
      go_ret
      exact ⟨rfl, hb⟩
    · have hfar' : (J : Int) < l.length := by omega
      rcases Nat.eq_zero_or_pos k with hk00 | hkp
      · subst hk00
        have hjl : j < l.length := by rw [hJe] at hfar; simpa using hfar
        have hjJ : Hid (J = j) := hide (by rw [hJe]; simp)
        have hd : dig 0 j l = l.getD j 0 := by rw [dig, if_pos hjl]
        rw [hd]
        obtain ⟨b, off, rfl, _, hc⟩ := hs.get hjl
        obtain ⟨x, hx⟩ : ∃ x, x = l.getD j 0 := ⟨_, rfl⟩
        rw [← hx] at hc ⊢
        have hwj : IntKind.i64.wrap (j : Int) = j := by rw [IntKind.wrap_i64]; omega
        have hjl' : (j : Int) < l.length := by omega
        clear hx hd hsh hjJ hJe hJ hfar hfar' hp hj ih
        go_enter Try.func72, Try.ntmps72
        go_wp2
        go_ret
        exact ⟨rfl, Below.refl _ _⟩
      · obtain ⟨m, hm⟩ : ∃ m, m = k - 1 := ⟨_, rfl⟩
        have hkm : k = m + 1 := by omega
        have e2 : (j + 1) * 2 ^ k = (2 * j + 1 + 1) * 2 ^ m := by rw [hkm, Nat.pow_succ, Nat.mul_comm (2 ^ m) 2, ← Nat.mul_assoc]; congr 1; omega
        have e3 : (2 * j + 1) * 2 ^ m ≤ (2 * j + 1 + 1) * 2 ^ m := Nat.mul_le_mul_right _ (by omega)
        have i0 := fun (W : World) h => ih m (by omega) (2 * j) W (by omega) (Nat.le_trans e3 (by rw [← e2]; exact hj)) h
        have i1 := fun (W : World) h => ih m (by omega) (2 * j + 1) W (by omega) (by rw [← e2]; exact hj) h
        have hdg : dig k j l = nd (dig m (2 * j) l) (dig m (2 * j + 1) l) := by rw [hkm]; rfl
        have b0 := dig_bd m (2 * j) l hw
        have b1 := dig_bd m (2 * j + 1) l hw
        obtain ⟨j0, hj0⟩ : ∃ j0, j0 = 2 * j := ⟨_, rfl⟩
        obtain ⟨j1, hj1⟩ : ∃ j1, j1 = 2 * j + 1 := ⟨_, rfl⟩
        have m0 : 2 * (j : Int) = (j0 : Int) := by omega
        have m1 : (j0 : Int) + 1 = (j1 : Int) := by omega
        have n0 : IntKind.i64.wrap (j0 : Int) = j0 := by rw [IntKind.wrap_i64]; omega
        have n1 : IntKind.i64.wrap (j1 : Int) = j1 := by rw [IntKind.wrap_i64]; omega
        have hkm1 : (k : Int) - 1 = (m : Int) := by omega
        have hwm : IntKind.i64.wrap (m : Int) = m := by rw [IntKind.wrap_i64]; omega
        have hkz : ((k : Int) == 0) = false := by simp; omega
        have hkz2 : ¬ k = 0 := by omega
        rw [← hj1] at i1 b1 hdg
        rw [← hj0] at i0 b0 hdg
        obtain ⟨x, hx⟩ : ∃ x, x = dig m j0 l := ⟨_, rfl⟩
        obtain ⟨y, hy⟩ : ∃ y, y = dig m j1 l := ⟨_, rfl⟩
        rw [← hx] at i0 b0 hdg
        rw [← hy] at i1 b1 hdg
        rw [hdg]
        have cH := fun (ad : Option Addr) (W : World) hs => rHash_any big 6 ad 2 [x, y] W (by decide) (by decide) hs (pair_W b0 b1) (by simp)
        have eH : hash big 6 [x, y] = nd x y := rfl
        rw [eH] at cH
        generalize nd x y = z at *
        clear hx hy hdg eH ih hm hkm e2 e3 b0 b1 hj0 hj1 hj hp hJe hJ hfar
        go_enter Try.func72, Try.ntmps72
        go_wp2_with fail
        refine (i0 W hs).mono ?_
        rintro e w2 ⟨rfl, hb2⟩
        clear i0
        go_wp2_with fail
        refine (i1 w2 (hs.mono hb2)).mono ?_
        rintro e w3 ⟨rfl, hb3⟩
        replace hb3 := below2 hb2 hb3
        clear i1 hb2
        go_wp2_with fail
        refine name_calls fun W4 hW => ?_
        have hB : Below W.heap.size W W4 := by rw [hW]; exact hb3.alloc hb3.size _
        have g0 : Blk W4 w3.heap.size #[.int .u64 x, .int .u64 y] 30 := by rw [hW]; exact Blk.newAt rfl
        have s0 := Sl.blk (k := .u64) [x, y] g0 rfl
        clear hW g0 hb3
        refine (cH _ W4 s0).mono ?_
        rintro e w5 ⟨rfl, hb5⟩
        replace hB := below2 hB hb5
        clear cH s0 hb5
        go_wp2
        go_ret
        exact ⟨rfl, hB⟩

set_option maxHeartbeats 1000000 in
theorem rTRoot_any (n : Nat) (l : List Int) (ad : Option Addr) (cap : Nat) (w : World) (hs : Sl w .u64 ad l) (hw : AllW l) (hl : l.length ≤ 4096) (hn : n ≤ 12) :
    Calls Try.prog 66 #[.int .i64 n, .slice ad l.length cap] w fun e w' => e = .returned (.int .u64 (dig n 0 l)) ∧ Below w.heap.size w w' := by
  have cN := TNode_any l ad cap hw hl n 0 w hn (by have := (pow_le12 hn).2; omega) hs
  go_enter Try.func66, Try.ntmps66
  go_wp2_with fail
  refine cN.mono ?_
  rintro e w2 ⟨rfl, hb⟩
  clear cN
  go_wp2
  go_ret
  exact ⟨rfl, hb⟩

end Go.Proofs.Ythkdaoomnfgooaa

/- The reference of trees of leaves: Path, Append, Truncate. -/
namespace Go.Proofs.Ythkdaoomnfgooaa
open Go.RowKit

theorem tpath_step (l : List Int) (q k : Nat) : (List.range k).map (fun k => dig k (sib (q / 2 ^ k)) l) ++ [dig k (sib (q / 2 ^ k)) l] = (List.range (k + 1)).map fun k => dig k (sib (q / 2 ^ k)) l := by
  rw [List.range_succ, List.map_append]; rfl

theorem Sl.take {w : World} {k : IntKind} {a : Option Addr} {xs : List Int} (h : Sl w k a xs) (n : Nat) : Sl w k a (xs.take n) := fun h0 => by
  rw [List.length_take] at h0
  obtain ⟨b, off, e, hl, hc⟩ := h (by omega)
  refine ⟨b, off, e, hl, fun i hi => ?_⟩
  rw [List.length_take] at hi
  rw [hc i (by omega)]
  congr 2
  simp only [List.getD_eq_getElem?_getD]
  rw [List.getElem?_take_of_lt (by omega)]

set_option maxRecDepth 10000 in
set_option maxHeartbeats 4000000 in
theorem rTPath_any (n q : Nat) (l : List Int) (ad : Option Addr) (cap : Nat) (w : World) (hs : Sl w .u64 ad l) (hw : AllW l) (hl : l.length ≤ 4096) (hn : n ≤ 12) (hq : q < 4096) :
    Calls Try.prog 67 #[.int .i64 n, .slice ad l.length cap, .int .i64 q] w (RetSl w 30 .u64 (tpath n l q)) := by
  go_enter Try.func67, Try.ntmps67
  go_wp2_with fail
  have hB0 := (Below.refl w.heap.size w).alloc (Nat.le_refl _) (.cells #[] 30)
  have ho0 : Own (w.alloc (.cells #[] 30)) w.heap.size 30 .u64 (.slice (some ⟨w.heap.size, 0, none⟩) 0 0) ((List.range 0).map fun k => dig k (sib (q / 2 ^ k)) l) := Own.empty (Nat.le_refl _)
  go_loopw [7, 8] (fun t7 t8 wr => ∃ k : Nat, k ≤ n ∧ t8 = .int .i64 k ∧ Below w.heap.size w wr ∧ Own wr w.heap.size 30 .u64 t7 ((List.range k).map fun k => dig k (sib (q / 2 ^ k)) l)) (fun _ t8 _ => n - (intOf t8).toNat)
  case atStart => exact ⟨0, by omega, rfl, hB0, ho0⟩
  case round =>
    clear hB0 ho0
    obtain ⟨k, hk, rfl, hB, ho⟩ := hrel
    by_cases hlt : k < n
    · have hlt' : (k : Int) < n := by omega
      have hk0 : (0 : Int) ≤ k := by omega
      have hk12 : (k : Int) ≤ 12 := by omega
      have hst := tpath_step l q k
      obtain ⟨m, hm⟩ : ∃ m, m = q / 2 ^ k := ⟨_, rfl⟩
      have hp2 := (pow_le12 (show k ≤ 12 by omega)).2
      have hmq : m * 2 ^ k ≤ q := by rw [hm]; exact Nat.div_mul_le_self _ _
      have hmm : m ≤ 4096 := by rw [hm]; exact Nat.le_trans (Nat.div_le_self _ _) (by omega)
      have hdv : (q : Int) / 2 ^ k = (m : Int) := by
        have e : ((2 : Int) ^ k) = ((2 ^ k : Nat) : Int) := (Int.natCast_pow 2 k).symm
        rw [e, ← Int.natCast_ediv, hm]
      have hb2 : (m + 2) * 2 ^ k ≤ 1048576 := by rw [Nat.add_mul]; omega
      have hll : ((List.range k).map fun k => dig k (sib (q / 2 ^ k)) l).length < 1099511627775 := by simp; omega
      rw [← hm] at hst
      by_cases ho2 : m % 2 = 1
      · have hmt : (m : Int).tmod 2 = 1 := by rw [Int.tmod_eq_emod_of_nonneg (by omega)]; omega
        have hsb : sib m = m - 1 := by unfold sib; rw [if_pos ho2]
        rw [hsb] at hst
        obtain ⟨j, hj⟩ : ∃ j, j = m - 1 := ⟨_, rfl⟩
        have hij : (m : Int) - 1 = (j : Int) := by omega
        have hwj : IntKind.i64.wrap (j : Int) = j := by rw [IntKind.wrap_i64]; omega
        have cN := TNode_any l ad cap hw hl k j
        rw [← hj] at hst
        have hjb : (j + 1) * 2 ^ k ≤ 1048576 := Nat.le_trans (Nat.mul_le_mul_right _ (by omega)) hb2
        obtain ⟨x, hx⟩ : ∃ x, x = dig k j l := ⟨_, rfl⟩
        rw [← hx] at hst cN
        generalize (List.range k).map (fun k => dig k (sib (q / 2 ^ k)) l) = O at *
        replace hst := hide hst
        replace hx := hide hx
        replace hj := hide hj
        replace hsb := hide hsb
        clear hm hmq hb2
        go_wp2_with fail
        refine (cN wr (by omega) hjb (hs.mono hB)).mono ?_
        rintro e w3 ⟨rfl, hb3⟩
        replace ho := ho.mono hb3
        replace hB := below2 hB hb3
        clear cN hb3
        go_wp2_with (at_builtin; refine wpList_appY _ 30 .u64 _ rfl _ _ 22 rfl w.heap.size 8 Try.underlying22 Try.infoU64 (by decide) _ O _ rfl rfl (by simp) ho hll hB.size ?_; intro v' w' hown hg; refine Hold.mk ?_)
        refine Hold.go ?_
        have hB3 := hg.below hB ho (Nat.le_refl _) hB.size
        rw [hst.out] at hown
        clear hg ho hB hst
        go_wp2
        go_roundw
        case rel => exact ⟨k + 1, by omega, by go_num, hB3, hown⟩
        case measure => simp [intOf]; omega
      · have hmt : (m : Int).tmod 2 = 0 := by rw [Int.tmod_eq_emod_of_nonneg (by omega)]; omega
        have hsb : sib m = m + 1 := by unfold sib; rw [if_neg ho2]
        rw [hsb] at hst
        obtain ⟨j, hj⟩ : ∃ j, j = m + 1 := ⟨_, rfl⟩
        have hij : (m : Int) + 1 = (j : Int) := by omega
        have hwj : IntKind.i64.wrap (j : Int) = j := by rw [IntKind.wrap_i64]; omega
        have cN := TNode_any l ad cap hw hl k j
        rw [← hj] at hst
        have hjb : (j + 1) * 2 ^ k ≤ 1048576 := Nat.le_trans (Nat.mul_le_mul_right _ (by omega)) hb2
        obtain ⟨x, hx⟩ : ∃ x, x = dig k j l := ⟨_, rfl⟩
        rw [← hx] at hst cN
        generalize (List.range k).map (fun k => dig k (sib (q / 2 ^ k)) l) = O at *
        replace hst := hide hst
        replace hx := hide hx
        replace hj := hide hj
        replace hsb := hide hsb
        clear hm hmq hb2
        go_wp2_with fail
        refine (cN wr (by omega) hjb (hs.mono hB)).mono ?_
        rintro e w3 ⟨rfl, hb3⟩
        replace ho := ho.mono hb3
        replace hB := below2 hB hb3
        clear cN hb3
        go_wp2_with (at_builtin; refine wpList_appY _ 30 .u64 _ rfl _ _ 22 rfl w.heap.size 8 Try.underlying22 Try.infoU64 (by decide) _ O _ rfl rfl (by simp) ho hll hB.size ?_; intro v' w' hown hg; refine Hold.mk ?_)
        refine Hold.go ?_
        have hB3 := hg.below hB ho (Nat.le_refl _) hB.size
        rw [hst.out] at hown
        clear hg ho hB hst
        go_wp2
        go_roundw
        case rel => exact ⟨k + 1, by omega, by go_num, hB3, hown⟩
        case measure => simp [intOf]; omega
    · obtain rfl : k = n := by omega
      go_wp2
      go_ret
      exact ⟨_, rfl, ho, hB⟩

/-- What the reference's Append returns. -/
def RetRA (w : World) (ad : Option Addr) (cap : Nat) (l : List Int) (ok : Bool) (L : List Int) (n : Int) (e : Ending) (w' : World) : Prop :=
  ∃ v, e = .returned (.tuple #[v, .int .i64 n]) ∧ Below w.heap.size w w' ∧ (if ok then Own w' w.heap.size 30 .u64 v L else v = .slice ad l.length cap ∧ L = l)

set_option maxRecDepth 10000 in
set_option maxHeartbeats 2000000 in
theorem rTAppend_any (d : Nat) (l : List Int) (x : Int) (ad : Option Addr) (cap : Nat) (w : World) (hs : Sl w .u64 ad l) (hl : l.length ≤ 4096) (hd : d ≤ 12) (_ : 0 ≤ x ∧ x < 18446744073709551616) :
    Calls Try.prog 63 #[.int .i64 d, .slice ad l.length cap, .int .u64 x] w (RetRA w ad cap l (decide (tappE d l x = 0)) (tappL d l x) (tappE d l x)) := by
  have hbig : big = 18446744069414584321 := rfl
  by_cases hxb : x < big
  · obtain ⟨p1, p2⟩ := pow_le12 hd
    have epow : ((2 : Int) ^ d) = ((2 ^ d : Nat) : Int) := (Int.natCast_pow 2 _).symm
    obtain ⟨M, hM⟩ : ∃ M : Nat, M = 2 ^ d := ⟨_, rfl⟩
    have hwp : IntKind.i64.wrap ((2 : Int) ^ d) = M := by rw [epow, ← hM, IntKind.wrap_i64]; omega
    have hx' : x < 18446744069414584321 := by rw [hbig] at hxb; exact hxb
    have hd0 : (0 : Int) ≤ d := by omega
    have hd12 : (d : Int) ≤ 12 := by omega
    by_cases hf : l.length = 2 ^ d
    · have e1 : tappE d l x = 16 := by unfold tappE; rw [if_pos hxb, if_pos hf]
      have e2 : tappL d l x = l := by unfold tappL; rw [if_pos hxb, if_pos hf]
      have hfe : ((l.length : Int) == (M : Int)) = true := by rw [hf, ← hM]; simp
      rw [e1, e2]
      clear e1 e2 hf epow hM p1 p2 hbig hxb
      go_enter Try.func63, Try.ntmps63
      go_wp2
      exact bodyPost_ret (v := .tuple #[.slice ad l.length cap, .int .i64 16]) (by simp [results, Try.results63, go_sem]) rfl ⟨_, rfl, Below.refl _ _, by simp⟩
    · have e1 : tappE d l x = 0 := by unfold tappE; rw [if_pos hxb, if_neg hf]
      have e2 : tappL d l x = l ++ [x] := by unfold tappL; rw [if_pos hxb, if_neg hf]
      have hfe : ((l.length : Int) == (M : Int)) = false := by simp; omega
      rw [e1, e2]
      clear e1 e2 hf epow hM p1 p2 hbig hxb
      go_enter Try.func63, Try.ntmps63
      go_wp2_with (at_builtin; refine wpList_app _ rfl _ _ 22 rfl w.heap.size 30 .u64 8 Try.underlying22 Try.infoU64 (by decide) _ [] l cap _ rfl rfl (Own.empty (Nat.le_refl _)) (hs.alloc _) (by simp; omega) (by simp) ?_; intro v' w' hown hg; refine Hold.mk ?_)
      refine Hold.go ?_
      have hB : Below w.heap.size w w' := hg.below ((Below.refl _ _).alloc (Nat.le_refl _) _) (Own.empty (base := w.heap.size) (k := .u64) (Nat.le_refl _)) (Nat.le_refl _) (by simp)
      rw [List.nil_append] at hown
      clear hg
      go_wp2_with (at_builtin; refine wpList_appY _ 30 .u64 _ rfl _ _ 22 rfl w.heap.size 8 Try.underlying22 Try.infoU64 (by decide) _ l _ rfl rfl (by simp) hown (by omega) hB.size ?_; intro v2 w2 hown2 hg2; refine Hold.mk ?_)
      refine Hold.go ?_
      have hB3 := hg2.below hB hown (Nat.le_refl _) hB.size
      clear hg2 hown hB
      go_wp2
      exact bodyPost_ret (v := .tuple #[v2, .int .i64 0]) (by simp [results, Try.results63, go_sem]) rfl ⟨_, rfl, hB3, by simpa using hown2⟩
  · have e1 : tappE d l x = 1 := by unfold tappE; rw [if_neg hxb]
    have e2 : tappL d l x = l := by unfold tappL; rw [if_neg hxb]
    have hx' : 18446744069414584321 ≤ x := by omega
    rw [e1, e2]
    clear e1 e2 hbig hxb
    go_enter Try.func63, Try.ntmps63
    go_wp2
    exact bodyPost_ret (v := .tuple #[.slice ad l.length cap, .int .i64 1]) (by simp [results, Try.results63, go_sem]) rfl ⟨_, rfl, Below.refl _ _, by simp⟩

set_option maxRecDepth 10000 in
set_option maxHeartbeats 2000000 in
theorem rTTruncate_any (l : List Int) (p : Int) (ad : Option Addr) (cap : Nat) (w : World) (hs : Sl w .u64 ad l) (hl : l.length ≤ 4096) (hlc : l.length ≤ cap) :
    Calls Try.prog 62 #[.slice ad l.length cap, .int .i64 p] w (RetRA w ad cap l (decide (tcutE l p = 0)) (tcutL l p) (tcutE l p)) := by
  by_cases h0 : p < 0
  · have e1 : tcutE l p = 8 := by unfold tcutE; rw [if_neg (by omega)]
    have e2 : tcutL l p = l := by unfold tcutL; rw [if_neg (by omega)]
    rw [e1, e2]
    clear e1 e2
    go_enter Try.func62, Try.ntmps62
    go_wp2
    exact bodyPost_ret (v := .tuple #[.slice ad l.length cap, .int .i64 8]) (by simp [results, Try.results62, go_sem]) rfl ⟨_, rfl, Below.refl _ _, by simp⟩
  by_cases h1 : (l.length : Int) < p
  · have e1 : tcutE l p = 8 := by unfold tcutE; rw [if_neg (by omega)]
    have e2 : tcutL l p = l := by unfold tcutL; rw [if_neg (by omega)]
    have h0' : 0 ≤ p := by omega
    rw [e1, e2]
    clear e1 e2
    go_enter Try.func62, Try.ntmps62
    go_wp2
    exact bodyPost_ret (v := .tuple #[.slice ad l.length cap, .int .i64 8]) (by simp [results, Try.results62, go_sem]) rfl ⟨_, rfl, Below.refl _ _, by simp⟩
  · obtain ⟨n, rfl⟩ := Int.eq_ofNat_of_zero_le (show 0 ≤ p by omega)
    have hn : n ≤ l.length := by omega
    have e1 : tcutE l n = 0 := by unfold tcutE; rw [if_pos (by omega)]
    have e2 : tcutL l n = l.take n := by unfold tcutL; rw [if_pos (by omega), Int.toNat_natCast]
    have hn1 : ¬ l.length < n := by omega
    have hnc : n ≤ cap := by omega
    have htl : (l.take n).length = n := by rw [List.length_take]; omega
    have hst := Sl.take hs n
    rw [e1, e2]
    obtain ⟨m, hm⟩ : ∃ m, m = l.take n := ⟨_, rfl⟩
    rw [← hm] at htl hst ⊢
    subst htl
    clear e1 e2 h0 h1 hm
    go_enter Try.func62, Try.ntmps62
    go_wp2_with (at_builtin; refine wpList_app _ rfl _ _ 22 rfl w.heap.size 30 .u64 8 Try.underlying22 Try.infoU64 (by decide) _ [] m cap _ rfl rfl (Own.empty (Nat.le_refl _)) (hst.alloc _) (by simp; omega) (by simp) ?_; intro v' w' hown hg; refine Hold.mk ?_)
    refine Hold.go ?_
    have hB : Below w.heap.size w w' := hg.below ((Below.refl _ _).alloc (Nat.le_refl _) _) (Own.empty (base := w.heap.size) (k := .u64) (Nat.le_refl _)) (Nat.le_refl _) (by simp)
    rw [List.nil_append] at hown
    clear hg
    go_wp2
    exact bodyPost_ret (v := .tuple #[v', .int .i64 0]) (by simp [results, Try.results62, go_sem]) rfl ⟨_, rfl, hB, by simpa using hown⟩

end Go.Proofs.Ythkdaoomnfgooaa

/- Trees of leaves: operations, and play. -/
namespace Go.Proofs.Ythkdaoomnfgooaa
open Go.RowKit

/-- A slice of operations. -/
def OpS (w : World) (ad : Option Addr) (ops : List (Bool × Int)) : Prop :=
  0 < ops.length → ∃ b off, ad = some ⟨b, off, none⟩ ∧ b < w.heap.size ∧ ∀ i, i < ops.length → w.cell? ⟨b, off + i * 2, none⟩ = some (.bool (ops.getD i (false, 0)).1) ∧ w.cell? ⟨b, off + i * 2 + 1, none⟩ = some (.int .u64 (ops.getD i (false, 0)).2)
theorem OpS.mono {w w' : World} {ad : Option Addr} {ops : List (Bool × Int)} (h : OpS w ad ops) (hb : Below w.heap.size w w') : OpS w' ad ops := fun h0 => by
  obtain ⟨b, off, e, hl, hc⟩ := h h0
  exact ⟨b, off, e, Nat.lt_of_lt_of_le hl hb.size, fun i hi => ⟨cell_below hb (hc i hi).1, cell_below hb (hc i hi).2⟩⟩
def OpsW (ops : List (Bool × Int)) : Prop := ∀ o ∈ ops, 0 ≤ o.2 ∧ o.2 < 18446744073709551616

def cutN (x : Int) : Int := if 9223372036854775808 ≤ x then -1 else x % 64
def stepL (d : Nat) (m : List Int) (o : Bool × Int) : List Int := if o.1 then tcutL m (cutN o.2) else tappL d m o.2
def playL (d : Nat) (ops : List (Bool × Int)) : List Int := ops.foldl (stepL d) []
def okL (d : Nat) (m : List Int) : Prop := m.length ≤ 2 ^ d ∧ ∀ x ∈ m, 0 ≤ x ∧ x < big
theorem okL_W {d : Nat} {m : List Int} (h : okL d m) : AllW m := fun x hx => by
  have := h.2 x hx
  have hb : big = 18446744069414584321 := rfl
  omega
theorem cut_ok {d : Nat} {m : List Int} (h : okL d m) (p : Int) : okL d (tcutL m p) := by
  unfold tcutL; split
  · exact ⟨Nat.le_trans (by rw [List.length_take]; omega) h.1, fun x hx => h.2 x (List.mem_of_mem_take hx)⟩
  · exact h
theorem app_ok {d : Nat} {m : List Int} (h : okL d m) {x : Int} (hx : 0 ≤ x) : okL d (tappL d m x) := by
  unfold tappL
  by_cases h1 : x < big
  · rw [if_pos h1]
    by_cases h2 : m.length = 2 ^ d
    · rw [if_pos h2]; exact h
    · rw [if_neg h2]
      refine ⟨by have := h.1; rw [List.length_append]; simp; omega, fun y hy => ?_⟩
      rcases List.mem_append.1 hy with h3 | h3
      · exact h.2 y h3
      · rw [List.mem_singleton.1 h3]; exact ⟨hx, h1⟩
  · rw [if_neg h1]; exact h
theorem step_ok {d : Nat} {m : List Int} (h : okL d m) {o : Bool × Int} (ho : 0 ≤ o.2) : okL d (stepL d m o) := by
  unfold stepL; split
  · exact cut_ok h _
  · exact app_ok h ho
theorem foldl_ok {d : Nat} : ∀ (ops : List (Bool × Int)) (m : List Int), OpsW ops → okL d m → okL d (ops.foldl (stepL d) m)
  | [], _, _, h => h
  | o :: r, _, ho, h => foldl_ok r _ (fun x hx => ho x (List.mem_cons_of_mem _ hx)) (step_ok h (ho o List.mem_cons_self).1)
theorem nil_ok (d : Nat) : okL d [] := ⟨Nat.zero_le _, fun x hx => by cases hx⟩
theorem play_ok {d : Nat} {ops : List (Bool × Int)} (h : OpsW ops) : okL d (playL d ops) := foldl_ok ops [] h (nil_ok d)
theorem play_step {d : Nat} {ops : List (Bool × Int)} {i : Nat} (h : i < ops.length) : playL d (ops.take (i + 1)) = stepL d (playL d (ops.take i)) (ops.getD i (false, 0)) := by
  unfold playL
  rw [take_succ_getD ops (false, 0) h, List.foldl_append]; rfl

theorem LogS.lt {w : World} {base bL bV d : Nat} {vs : Nat → Value} {Ls : Nat → List Int} (h : LogS w base bL bV d vs Ls) : ∀ i, inLog bV d vs i → i < w.heap.size := fun i hi => by
  rcases hi with rfl | ⟨k, hk, e⟩
  · exact h.kV.lt
  · exact ((h.own k hk).lt e).2

/-- The tree and the reference's list beside each other. -/
structure Both (w wr : World) (bL bV d : Nat) (vs : Nat → Value) (v : Value) (m : List Int) : Prop where
  B : Below w.heap.size w wr
  T : LogS wr w.heap.size bL bV d vs fun k => lev k m
  O : Own wr w.heap.size 30 .u64 v m
  n : ∀ g, v.ownBlock = some g → ¬ inLog bV d vs g
theorem Both.mono {w wr w' : World} {bL bV d : Nat} {vs : Nat → Value} {v : Value} {m : List Int} (h : Both w wr bL bV d vs v m) (hb : Below wr.heap.size wr w') : Both w w' bL bV d vs v m :=
  ⟨below2 h.B hb, h.T.mono hb, h.O.mono hb, h.n⟩
/-- Both have been changed: first the list, then the tree. -/
theorem Both.step {w wr w1 w2 : World} {bL bV d : Nat} {vs : Nat → Value} {a : Option Addr} {c : Nat} {v' : Value} {m m' : List Int} {ok : Bool} (h : Both w wr bL bV d vs (.slice a m.length c) m) (hb : Below wr.heap.size wr w1)
    (hr : if ok then Own w1 wr.heap.size 30 .u64 v' m' else v' = .slice a m.length c ∧ m' = m) (hR : LogR w1 w2 w.heap.size bL bV d vs fun k => lev k m') : ∃ vs', Both w w2 bL bV d vs' v' m' := by
  obtain ⟨vs', T', i', k'⟩ := hR
  have h1 := h.mono hb
  have ho : Own w1 w.heap.size 30 .u64 v' m' ∧ ∀ g, v'.ownBlock = some g → ¬ inLog bV d vs g := by
    cases ok with
    | true =>
      rw [if_pos rfl] at hr
      exact ⟨hr.low h.B.size, fun g e hi => by have := (hr.lt e).1; have := h.T.lt g hi; omega⟩
    | false =>
      rw [if_neg (by simp)] at hr
      obtain ⟨rfl, rfl⟩ := hr
      exact ⟨h1.O, h1.n⟩
  refine ⟨vs', k'.below h1.B (fun i hi => h.T.low i hi) h1.B.size, T', k'.own ho.1 ho.2, fun g e hi => ?_⟩
  rcases i' g hi with h2 | h2
  · exact ho.2 g e h2
  · have := (ho.1.lt e).2; omega

/-- What play returns. -/
def RetPl (w : World) (d : Nat) (m : List Int) (e : Ending) (w' : World) : Prop := ∃ bL bV vs v, e = .returned (.tuple #[.pointer (some ⟨bL, 0, none⟩), v, .bool true]) ∧ Both w w' bL bV d vs v m

set_option maxRecDepth 10000 in
set_option maxHeartbeats 4000000 in
theorem play_any (d : Nat) (ad : Option Addr) (cap : Nat) (ops : List (Bool × Int)) (w : World) (hs : OpS w ad ops) (hw : OpsW ops) (h1 : 1 ≤ d) (h2 : d ≤ 12) (hl : ops.length ≤ 4096) :
    Calls Try.prog 43 #[.int .i64 d, .slice ad ops.length cap] w (RetPl w d (playL d ops)) := by
  have h1' : (1 : Int) ≤ d := by omega
  have h2' : (d : Int) ≤ 12 := by omega
  go_enter Try.func43, Try.ntmps43
  go_wp2_with fail
  refine (TNew_any d w h1 h2).mono ?_
  rintro e w1 ⟨bL, bV, vs, rfl, hT, hB⟩
  go_wp2_with fail
  have I0 : Both w w1 bL bV d vs (.slice none 0 0) (playL d (ops.take 0)) := ⟨hB, hT, Own.nil _ _ _ _, fun g e => (by cases e)⟩
  clear hT hB
  go_loopw [9, 40] (fun t9 t40 wr => ∃ (i : Nat) (vs : Nat → Value), i ≤ ops.length ∧ t40 = .int .i64 i ∧ Both w wr bL bV d vs t9 (playL d (ops.take i))) (fun _ t40 _ => ops.length - (intOf t40).toNat)
  case atStart => exact ⟨0, vs, by omega, rfl, I0⟩
  case round =>
    clear I0
    obtain ⟨i, vs, hi, rfl, I⟩ := hrel
    by_cases hlt : i < ops.length
    · have hlt' : (i : Int) < ops.length := by omega
      obtain ⟨b, off, rfl, _, hc⟩ := (hs.mono I.B) (by omega)
      obtain ⟨hc0, hc1⟩ := hc i hlt
      clear hc
      have hst := play_step (d := d) hlt
      have hok := play_ok (d := d) (fun o ho => hw o (List.mem_of_mem_take ho) : OpsW (ops.take i))
      have hob := hw (ops.getD i (false, 0)) (by rw [List.getD_eq_getElem?_getD, List.getElem?_eq_getElem hlt]; exact List.getElem_mem hlt)
      generalize ops.getD i (false, 0) = o at *
      obtain ⟨cut, x⟩ := o
      simp only at hc0 hc1 hob
      generalize playL d (ops.take i) = m at *
      obtain ⟨a, c, rfl, sm, hmc, _⟩ := Own.sl I.O
      have hm4 : m.length ≤ 4096 := Nat.le_trans hok.1 (pow_le12 h2).2
      have hmW := okL_W hok
      unfold stepL at hst
      simp only at hst
      cases cut with
      | true =>
        by_cases hbx : 9223372036854775808 ≤ x
        · have cR := fun (W : World) hs => rTTruncate_any m (-1) a c W hs hm4 hmc
          have cL := fun (W : World) h hz => TTruncate_any W w.heap.size bL bV d vs m (-1) h h1 h2 hm4 hmW hz
          have hcut : cutN x = (-1) := by unfold cutN; rw [if_pos hbx]
          rw [if_pos rfl, hcut] at hst
          obtain ⟨m', hm'⟩ : ∃ m', m' = tcutL m (-1) := ⟨_, rfl⟩
          obtain ⟨E, hE⟩ : ∃ E, E = tcutE m (-1) := ⟨_, rfl⟩
          rw [← hm'] at hst cR cL
          rw [← hE] at cR cL
          obtain ⟨ok, hok2⟩ : ∃ ok, ok = decide (E = 0) := ⟨_, rfl⟩
          rw [← hok2] at cR
          have hEE : (E != E) = false := by simp
          have s0 : Sl wr .u64 a m := sm
          have hcx : (wr.alloc (.cells #[.bool true, .int .u64 x] 85)).cell? ⟨wr.heap.size, 1, none⟩ = some (.int .u64 x) := (Blk.newAt rfl).cell rfl
          replace hst := hide hst
          clear hm' hE hok2 hcut sm hmW hok
          have hbW := (Below.refl wr.heap.size wr).alloc (Nat.le_refl _) (.cells #[.bool true, .int .u64 x] 85)
          go_wp2_with fail
          generalize wr.alloc (.cells #[.bool true, .int .u64 x] 85) = W at *
          refine (cR W (s0.mono hbW)).mono ?_
          rintro e w3 ⟨v3, rfl, hb3, hr3⟩
          have hb3' := below2 hbW hb3
          have hx1 : W.cell? ⟨wr.heap.size, 1, none⟩ = some (.int .u64 x) := hcx
          have hx3 := cell_below hb3 hx1
          go_wp2_with fail
          refine (cL w3 (I.T.mono hb3') (Nat.le_trans I.B.size hb3'.size)).mono ?_
          rintro e w4 ⟨rfl, R4⟩
          have hr3' : if ok then Own w3 wr.heap.size 30 .u64 v3 m' else v3 = .slice a m.length c ∧ m' = m := by
            cases ok with
            | true => rw [if_pos rfl] at hr3 ⊢; exact hr3.low hbW.size
            | false => exact hr3
          obtain ⟨vs', I'⟩ := I.step hb3' hr3' R4
          clear hr3 hr3' R4 cR cL hb3 hb3' hbW hx1 hx3 hcx I
          go_wp2
          go_roundw
          case rel => exact ⟨i + 1, vs', by omega, by go_num, by rw [hst.out]; exact I'⟩
          case measure => simp [intOf]; omega
        · have hbx' : x < 9223372036854775808 := by omega
          obtain ⟨r, hr⟩ : ∃ r, r = x % 64 := ⟨_, rfl⟩
          have hr0 : 0 ≤ r := by omega
          have hr1 : r < 64 := by omega
          have htm : x.tmod 64 = r := by rw [Int.tmod_eq_emod_of_nonneg (by omega)]; omega
          have cR := fun (W : World) hs => rTTruncate_any m r a c W hs hm4 hmc
          have cL := fun (W : World) h hz => TTruncate_any W w.heap.size bL bV d vs m r h h1 h2 hm4 hmW hz
          have hcut : cutN x = r := by unfold cutN; rw [if_neg hbx, hr]
          rw [if_pos rfl, hcut] at hst
          obtain ⟨m', hm'⟩ : ∃ m', m' = tcutL m r := ⟨_, rfl⟩
          obtain ⟨E, hE⟩ : ∃ E, E = tcutE m r := ⟨_, rfl⟩
          rw [← hm'] at hst cR cL
          rw [← hE] at cR cL
          obtain ⟨ok, hok2⟩ : ∃ ok, ok = decide (E = 0) := ⟨_, rfl⟩
          rw [← hok2] at cR
          have hEE : (E != E) = false := by simp
          have s0 : Sl wr .u64 a m := sm
          have hcx : (wr.alloc (.cells #[.bool true, .int .u64 x] 85)).cell? ⟨wr.heap.size, 1, none⟩ = some (.int .u64 x) := (Blk.newAt rfl).cell rfl
          replace hst := hide hst
          clear hm' hE hok2 hcut sm hmW hok
          clear hr
          have hbW := (Below.refl wr.heap.size wr).alloc (Nat.le_refl _) (.cells #[.bool true, .int .u64 x] 85)
          go_wp2_with fail
          generalize wr.alloc (.cells #[.bool true, .int .u64 x] 85) = W at *
          refine (cR W (s0.mono hbW)).mono ?_
          rintro e w3 ⟨v3, rfl, hb3, hr3⟩
          have hb3' := below2 hbW hb3
          have hx1 : W.cell? ⟨wr.heap.size, 1, none⟩ = some (.int .u64 x) := hcx
          have hx3 := cell_below hb3 hx1
          go_wp2_with fail
          refine (cL w3 (I.T.mono hb3') (Nat.le_trans I.B.size hb3'.size)).mono ?_
          rintro e w4 ⟨rfl, R4⟩
          have hr3' : if ok then Own w3 wr.heap.size 30 .u64 v3 m' else v3 = .slice a m.length c ∧ m' = m := by
            cases ok with
            | true => rw [if_pos rfl] at hr3 ⊢; exact hr3.low hbW.size
            | false => exact hr3
          obtain ⟨vs', I'⟩ := I.step hb3' hr3' R4
          clear hr3 hr3' R4 cR cL hb3 hb3' hbW hx1 hx3 hcx I
          go_wp2
          go_roundw
          case rel => exact ⟨i + 1, vs', by omega, by go_num, by rw [hst.out]; exact I'⟩
          case measure => simp [intOf]; omega
      | false =>
        have cR := fun (W : World) hs => rTAppend_any d m x a c W hs hm4 h2 hob
        have cL := fun (W : World) h hz => TAppend_any W w.heap.size bL bV d vs m x h h1 h2 hob hok.1 hmW hz
        rw [if_neg (by simp)] at hst
        obtain ⟨m', hm'⟩ : ∃ m', m' = tappL d m x := ⟨_, rfl⟩
        obtain ⟨E, hE⟩ : ∃ E, E = tappE d m x := ⟨_, rfl⟩
        rw [← hm'] at hst cR cL
        rw [← hE] at cR cL
        obtain ⟨ok, hok2⟩ : ∃ ok, ok = decide (E = 0) := ⟨_, rfl⟩
        rw [← hok2] at cR
        have hEE : (E != E) = false := by simp
        have s0 : Sl wr .u64 a m := sm
        have hcx : (wr.alloc (.cells #[.bool false, .int .u64 x] 85)).cell? ⟨wr.heap.size, 1, none⟩ = some (.int .u64 x) := (Blk.newAt rfl).cell rfl
        replace hst := hide hst
        clear hm' hE hok2 sm hmW hok
        have hbW := (Below.refl wr.heap.size wr).alloc (Nat.le_refl _) (.cells #[.bool false, .int .u64 x] 85)
        go_wp2_with fail
        generalize wr.alloc (.cells #[.bool false, .int .u64 x] 85) = W at *
        refine (cR W (s0.mono hbW)).mono ?_
        rintro e w3 ⟨v3, rfl, hb3, hr3⟩
        have hb3' := below2 hbW hb3
        have hx1 : W.cell? ⟨wr.heap.size, 1, none⟩ = some (.int .u64 x) := hcx
        have hx3 := cell_below hb3 hx1
        go_wp2_with fail
        refine (cL w3 (I.T.mono hb3') (Nat.le_trans I.B.size hb3'.size)).mono ?_
        rintro e w4 ⟨rfl, R4⟩
        have hr3' : if ok then Own w3 wr.heap.size 30 .u64 v3 m' else v3 = .slice a m.length c ∧ m' = m := by
          cases ok with
          | true => rw [if_pos rfl] at hr3 ⊢; exact hr3.low hbW.size
          | false => exact hr3
        obtain ⟨vs', I'⟩ := I.step hb3' hr3' R4
        clear hr3 hr3' R4 cR cL hb3 hb3' hbW hx1 hx3 hcx I
        go_wp2
        go_roundw
        case rel => exact ⟨i + 1, vs', by omega, by go_num, by rw [hst.out]; exact I'⟩
        case measure => simp [intOf]; omega
    · obtain rfl : i = ops.length := by omega
      rw [List.take_length] at I
      obtain ⟨a, c, rfl, _, _, _⟩ := Own.sl I.O
      go_wp2
      exact bodyPost_ret (v := .tuple #[.pointer (some ⟨bL, 0, none⟩), .slice a (playL d ops).length c, .bool true]) (by simp [results, Try.results43, go_sem]) rfl ⟨_, _, _, _, rfl, I⟩

end Go.Proofs.Ythkdaoomnfgooaa

/- Trees of leaves: same. -/
namespace Go.Proofs.Ythkdaoomnfgooaa
open Go.RowKit

set_option maxRecDepth 10000 in
set_option maxHeartbeats 4000000 in
theorem same37_any (w : World) (base bL bV d : Nat) (vs : Nat → Value) (m : List Int) (a : Option Addr) (c : Nat) (hT : LogS w base bL bV d vs fun k => lev k m) (hs : Sl w .u64 a m) (hok : okL d m) (h1 : 1 ≤ d) (h2 : d ≤ 12) :
    Calls Try.prog 50 #[.pointer (some ⟨bL, 0, none⟩), .int .i64 d, .slice a m.length c] w fun e w' => e = .returned (.bool true) ∧ Below w.heap.size w w' := by
  have hm4 : m.length ≤ 4096 := Nat.le_trans hok.1 (pow_le12 h2).2
  have hmW := okL_W hok
  have cC := fun (W : World) (h : LogS W base bL bV d vs fun k => lev k m) => Count_any W base bL bV d vs _ h h1
  simp only [lev_zero] at cC
  have cT := fun (W : World) h => TRoot_any W base bL bV d vs m h h1 h2
  have cR := fun (W : World) h => rTRoot_any d m a c W h hmW hm4 h2
  have cP := fun (q : Nat) (hq : q < m.length) (W : World) h => TPath_any W base bL bV d vs m q h h1 h2 hm4
  have cL := fun (q : Nat) (hq : q < m.length) (W : World) h => Leaf_any W base bL bV d vs m q h h1
  have cQ := fun (q : Nat) (hq : q < m.length) (W : World) h => rTPath_any d q m a c W h hmW hm4 h2 (by omega)
  have hk : ∀ q : Nat, q < m.length → leafOk m q = true := fun q hq => by unfold leafOk; rw [decide_eq_true]; omega
  have cP' : ∀ (q : Nat), q < m.length → ∀ (W : World), (LogS W base bL bV d vs fun k => lev k m) → Calls Try.prog 46 #[.pointer (some ⟨bL, 0, none⟩), .int .i64 q] W (RetP W (tpath d m q) 0) := fun q hq W h => by
    have := cP q hq W h
    unfold tpathV tpathE at this
    rw [hk q hq, if_pos rfl, if_pos rfl, Int.toNat_natCast] at this
    exact this
  have cL' : ∀ (q : Nat), q < m.length → ∀ (W : World), (LogS W base bL bV d vs fun k => lev k m) → Calls Try.prog 52 #[.pointer (some ⟨bL, 0, none⟩), .int .i64 q] W fun e w' => e = .returned (.tuple #[.int .u64 (m.getD q 0), .bool true]) ∧ Below W.heap.size W w' := fun q hq W h => by
    have := cL q hq W h
    unfold leafV at this
    rw [hk q hq, if_pos rfl, Int.toNat_natCast] at this
    exact this
  clear cP cL hk
  generalize dig d 0 m = R at *
  have hRR : (R != R) = false := by simp
  have hll : ((m.length : Int) != (m.length : Int)) = false := by simp
  clear hok
  go_enter Try.func50, Try.ntmps50
  go_wp2_with fail
  refine (cC w hT).mono ?_
  rintro e w1 ⟨rfl, hB⟩
  replace hT := hT.mono hB
  clear cC
  go_wp2_with fail
  refine (cT w1 hT).mono ?_
  rintro e w2 ⟨rfl, hb2⟩
  replace hB := below2 hB hb2
  replace hT := hT.mono hb2
  clear cT hb2
  go_wp2_with fail
  refine (cR w2 (hs.mono hB)).mono ?_
  rintro e w3 ⟨rfl, hb3⟩
  replace hB := below2 hB hb3
  replace hT := hT.mono hb3
  clear cR hb3
  go_wp2_with fail
  go_loopw [28] (fun t28 wr => ∃ q : Nat, q ≤ m.length ∧ t28 = .int .i64 q ∧ Below w.heap.size w wr ∧ LogS wr base bL bV d vs fun k => lev k m) (fun t28 _ => m.length - (intOf t28).toNat)
  case atStart => exact ⟨0, by omega, rfl, hB, hT⟩
  case round =>
    clear hB hT
    obtain ⟨q, hq, rfl, hB, hT⟩ := hrel
    by_cases hlt : q < m.length
    · have hlt' : (q : Int) < m.length := by omega
      obtain ⟨b, off, rfl, _, hc⟩ := (hs.mono hB).get hlt
      have cP := cP' q hlt
      have cL := cL' q hlt
      have cQ2 := cQ q hlt
      obtain ⟨x, hx⟩ : ∃ x, x = m.getD q 0 := ⟨_, rfl⟩
      rw [← hx] at hc cL
      have hPl := tpath_len d m q
      generalize tpath d m q = PL at *
      have hxx : (x != x) = false := by simp
      have hdd : decide (PL = PL) = true := by simp
      have cS := fun (ad ad' : Option Addr) (c c' : Nat) (W : World) hs ht => rSame1_any ad ad' c c' PL PL W hs ht (by omega)
      rw [hdd] at cS
      clear hPl
      clear cP' cL' cQ hx hdd
      go_wp2_with fail
      clear hc
      refine (cP wr hT).mono ?_
      rintro e w4 ⟨v4, rfl, o4, hb4⟩
      replace hB := below2 hB hb4
      replace hT := hT.mono hb4
      obtain ⟨a4, c4, rfl, s4, _, _⟩ := Own.sl o4
      clear cP hb4 o4
      go_wp2_with fail
      refine (cL w4 hT).mono ?_
      rintro e w5 ⟨rfl, hb5⟩
      replace hB := below2 hB hb5
      replace hT := hT.mono hb5
      replace s4 := s4.mono hb5
      clear cL hb5
      go_wp2_with fail
      refine (cQ2 w5 (hs.mono hB)).mono ?_
      rintro e w6 ⟨v6, rfl, o6, hb6⟩
      replace hB := below2 hB hb6
      replace hT := hT.mono hb6
      replace s4 := s4.mono hb6
      obtain ⟨a6, c6, rfl, s6, _, _⟩ := Own.sl o6
      clear cQ2 hb6 o6
      go_wp2_with fail
      refine (cS _ _ _ _ w6 s4 s6).mono ?_
      rintro e w7 ⟨rfl, hb7⟩
      replace hB := below2 hB hb7
      replace hT := hT.mono hb7
      clear cS hb7 s4 s6
      go_wp2
      go_roundw
      case rel => exact ⟨q + 1, by omega, by go_num, hB, hT⟩
      case measure => simp [intOf]; omega
    · obtain rfl : q = m.length := by omega
      go_wp2
      go_ret
      exact ⟨rfl, hB⟩

end Go.Proofs.Ythkdaoomnfgooaa
