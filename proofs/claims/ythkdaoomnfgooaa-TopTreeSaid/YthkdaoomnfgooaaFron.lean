/- Nodes, and empty trees: walks. -/
import Derived.Test.YthkdaoomnfgooaaFronM
import Derived.Test.YthkdaoomnfgooaaAwake8S
import Derived.Test.YthkdaoomnfgooaaBitw
namespace Go.Proofs.Ythkdaoomnfgooaa
open Go.RowKit

theorem pair_W {a b : Int} (ha : 0 ≤ a ∧ a < 18446744073709551616) (hb : 0 ≤ b ∧ b < 18446744073709551616) : AllW [a, b] := fun x hx => by
  simp only [List.mem_cons, List.not_mem_nil, or_false] at hx
  rcases hx with rfl | rfl
  · exact ha
  · exact hb

set_option maxHeartbeats 1000000 in
theorem node_any (a b : Int) (w : World) (ha : 0 ≤ a ∧ a < 18446744073709551616) (hb : 0 ≤ b ∧ b < 18446744073709551616) :
    Calls Try.prog 57 #[.int .u64 a, .int .u64 b] w fun e w' => e = .returned (.int .u64 (nd a b)) ∧ Below w.heap.size w w' := by
  have c1 := fun (ad : Option Addr) (W : World) hs => Hash_any big 6 ad 2 [a, b] W (by decide) (by decide) hs (pair_W ha hb) (by simp)
  have e : hash big 6 [a, b] = nd a b := rfl
  rw [e] at c1
  generalize nd a b = R at *
  go_enter Try.func57, Try.ntmps57
  go_wp2_with fail
  refine name_calls fun W hW => ?_
  have hB : Below w.heap.size w W := by rw [hW]; exact (Below.refl _ _).alloc (Nat.le_refl _) _
  have g0 : Blk W w.heap.size #[.int .u64 a, .int .u64 b] 30 := by rw [hW]; exact Blk.newAt rfl
  have s0 := Sl.blk (k := .u64) [a, b] g0 rfl
  clear hW g0
  refine (c1 _ W s0).mono ?_
  rintro e w1 ⟨rfl, hb1⟩
  clear c1
  go_wp2
  go_ret
  exact ⟨rfl, below2 hB hb1⟩

set_option maxHeartbeats 1000000 in
theorem rNode_any (a b : Int) (w : World) (ha : 0 ≤ a ∧ a < 18446744073709551616) (hb : 0 ≤ b ∧ b < 18446744073709551616) :
    Calls Try.prog 37 #[.int .u64 a, .int .u64 b] w fun e w' => e = .returned (.int .u64 (nd a b)) ∧ Below w.heap.size w w' := by
  have c1 := fun (ad : Option Addr) (W : World) hs => rHash_any big 6 ad 2 [a, b] W (by decide) (by decide) hs (pair_W ha hb) (by simp)
  have e : hash big 6 [a, b] = nd a b := rfl
  rw [e] at c1
  generalize nd a b = R at *
  go_enter Try.func37, Try.ntmps37
  go_wp2_with fail
  refine name_calls fun W hW => ?_
  have hB : Below w.heap.size w W := by rw [hW]; exact (Below.refl _ _).alloc (Nat.le_refl _) _
  have g0 : Blk W w.heap.size #[.int .u64 a, .int .u64 b] 30 := by rw [hW]; exact Blk.newAt rfl
  have s0 := Sl.blk (k := .u64) [a, b] g0 rfl
  clear hW g0
  refine (c1 _ W s0).mono ?_
  rintro e w1 ⟨rfl, hb1⟩
  clear c1
  go_wp2
  go_ret
  exact ⟨rfl, below2 hB hb1⟩

def empI (d : Int) : Int := if 0 ≤ d ∧ d ≤ 12 then emp d.toNat else 0
theorem empI_bd (d : Int) : 0 ≤ empI d ∧ empI d < 18446744073709551616 := by
  unfold empI; split
  · exact emp_bd _
  · exact ⟨Int.le_refl 0, by decide⟩

set_option maxHeartbeats 1000000 in
theorem Empty_any (d : Int) (w : World) :
    Calls Try.prog 30 #[.int .i64 d] w fun e w' => e = .returned (.int .u64 (empI d)) ∧ Below w.heap.size w w' := by
  by_cases hd : 0 ≤ d ∧ d ≤ 12
  · obtain ⟨n, rfl⟩ := Int.eq_ofNat_of_zero_le hd.1
    have hn : n ≤ 12 := by omega
    have e1 : empI n = emp n := by unfold empI; rw [if_pos hd]; simp
    rw [e1]
    have c0 := fun W : World => Hash_any big 6 none 0 [] W (by decide) (by decide) (Sl.nil _ _ _) (fun x hx => by cases hx) (by decide)
    have e0 : hash big 6 [] = emp 0 := rfl
    rw [e0] at c0
    clear hd e1
    go_enter Try.func30, Try.ntmps30
    go_wp2_with fail
    refine (c0 w).mono ?_
    rintro e w1 ⟨rfl, hb1⟩
    clear c0
    go_wp2_with fail
    go_loopw [3, 12] (fun t3 t4 wr => ∃ i : Nat, i ≤ n ∧ t4 = .int .i64 i ∧ t3 = .int .u64 (emp i) ∧ Below w.heap.size w wr) (fun _ t4 _ => n - (intOf t4).toNat)
    case atStart => exact ⟨0, by omega, rfl, rfl, hb1⟩
    case round =>
      obtain ⟨i, hi, rfl, rfl, hb⟩ := hrel
      by_cases hlt : i < n
      · have hx := emp_bd i
        have hst : emp (i + 1) = nd (emp i) (emp i) := rfl
        generalize emp i = x at *
        replace hst := hide hst
        go_wp2_with fail
        refine (node_any x x _ hx hx).mono ?_
        rintro ew2 w2 ⟨rfl, hb2⟩
        go_wp2
        go_roundw
        case rel => exact ⟨i + 1, by omega, by go_num, by rw [hst.out], below2 hb hb2⟩
        case measure => simp [intOf]; omega
      · obtain rfl : i = n := by omega
        go_wp2
        go_ret
        exact ⟨rfl, hb⟩
  · have e1 : Hid (empI d = 0) := hide (by unfold empI; rw [if_neg hd])
    by_cases h0 : d < 0
    · go_enter Try.func30, Try.ntmps30
      go_wp2
      go_ret
      exact ⟨ret_int e1.out.symm, Below.refl _ _⟩
    · have h1 : 12 < d := by omega
      go_enter Try.func30, Try.ntmps30
      go_wp2
      go_ret
      exact ⟨ret_int e1.out.symm, Below.refl _ _⟩

set_option maxHeartbeats 1000000 in
theorem rEmpty_any (d : Int) (w : World) :
    Calls Try.prog 31 #[.int .i64 d] w fun e w' => e = .returned (.int .u64 (empI d)) ∧ Below w.heap.size w w' := by
  by_cases hd : 0 ≤ d ∧ d ≤ 12
  · obtain ⟨n, rfl⟩ := Int.eq_ofNat_of_zero_le hd.1
    have hn : n ≤ 12 := by omega
    have e1 : empI n = emp n := by unfold empI; rw [if_pos hd]; simp
    rw [e1]
    have c0 := fun W : World => rHash_any big 6 none 0 [] W (by decide) (by decide) (Sl.nil _ _ _) (fun x hx => by cases hx) (by decide)
    have e0 : hash big 6 [] = emp 0 := rfl
    rw [e0] at c0
    clear hd e1
    go_enter Try.func31, Try.ntmps31
    go_wp2_with fail
    refine (c0 w).mono ?_
    rintro e w1 ⟨rfl, hb1⟩
    clear c0
    go_wp2_with fail
    go_loopw [3, 4] (fun t3 t4 wr => ∃ i : Nat, i ≤ n ∧ t4 = .int .i64 i ∧ t3 = .int .u64 (emp i) ∧ Below w.heap.size w wr) (fun _ t4 _ => n - (intOf t4).toNat)
    case atStart => exact ⟨0, by omega, rfl, rfl, hb1⟩
    case round =>
      obtain ⟨i, hi, rfl, rfl, hb⟩ := hrel
      by_cases hlt : i < n
      · have hx := emp_bd i
        have hst : emp (i + 1) = nd (emp i) (emp i) := rfl
        generalize emp i = x at *
        replace hst := hide hst
        go_wp2_with fail
        refine (rNode_any x x _ hx hx).mono ?_
        rintro ew2 w2 ⟨rfl, hb2⟩
        go_wp2
        go_roundw
        case rel => exact ⟨i + 1, by omega, by go_num, by rw [hst.out], below2 hb hb2⟩
        case measure => simp [intOf]; omega
      · obtain rfl : i = n := by omega
        go_wp2
        go_ret
        exact ⟨rfl, hb⟩
  · have e1 : Hid (empI d = 0) := hide (by unfold empI; rw [if_neg hd])
    by_cases h0 : d < 0
    · go_enter Try.func31, Try.ntmps31
      go_wp2
      go_ret
      exact ⟨ret_int e1.out.symm, Below.refl _ _⟩
    · have h1 : 12 < d := by omega
      go_enter Try.func31, Try.ntmps31
      go_wp2
      go_ret
      exact ⟨ret_int e1.out.symm, Below.refl _ _⟩

set_option maxHeartbeats 1000000 in
theorem bit_any (c i : Nat) (w : World) (hi : i ≤ 60) :
    Calls Try.prog 56 #[.int .i64 c, .int .i64 i] w fun e w' => e = .returned (.int .i64 ((c / 2 ^ i % 2 : Nat) : Int)) ∧ Below w.heap.size w w' := by
  have hm : ((c : Int) / 2 ^ i).tmod 2 = ((c / 2 ^ i % 2 : Nat) : Int) := by
    have e : ((2 : Int) ^ i) = ((2 ^ i : Nat) : Int) := (Int.natCast_pow 2 i).symm
    rw [e, ← Int.natCast_ediv, Int.tmod_eq_emod_of_nonneg (Int.natCast_nonneg _)]
    rfl
  replace hm := hide hm
  go_enter Try.func56, Try.ntmps56
  go_wp2
  go_ret
  exact ⟨ret_int hm.out, Below.refl _ _⟩

/-- What a call returns that makes a frontier. -/
def RetF (w : World) (d c : Int) (L : List Int) (e : Ending) (w' : World) : Prop := ∃ v, e = .returned (.agg #[.int .i64 d, .int .i64 c, v]) ∧ Own w' w.heap.size 30 .u64 v L ∧ Below w.heap.size w w'
def newOk (d : Int) : Bool := decide (1 ≤ d ∧ d ≤ 12)
def newD (d : Int) : Int := if newOk d then d else 0
def newL (d : Int) : List Int := if newOk d then List.replicate (d.toNat + 1) 0 else []

set_option maxHeartbeats 1000000 in
theorem New_any (d : Int) (w : World) :
    Calls Try.prog 28 #[.int .i64 d] w (RetF w (newD d) 0 (newL d)) := by
  by_cases hd : 1 ≤ d ∧ d ≤ 12
  · have e1 : newOk d = true := by unfold newOk; simpa using hd
    unfold newD newL
    rw [if_pos e1, if_pos e1]
    obtain ⟨n, rfl⟩ := Int.eq_ofNat_of_zero_le (show 0 ≤ d by omega)
    obtain ⟨hd1, hd2⟩ := hd
    rw [Int.toNat_natCast]
    have hmk := fun W => run_mkI (P := Try.prog) (t := 22) (e := 30) (k := .u64) (bytes := 8) Try.underlying22 Try.infoU64 (by decide) (L := (n : Int) + 1) (C := (n : Int) + 1) (n + 1) (n + 1) (by omega) (by omega) (by omega) (by omega) W
    clear e1
    go_enter Try.func28, Try.ntmps28
    go_wp2
    have ho := Own.made (w := w.alloc (.cells #[.int .i64 n, .int .i64 0, .slice (some ⟨w.heap.size + 1, 0, none⟩) (n + 1) (n + 1)] 28)) (base := w.heap.size) (E := 30) (k := .u64) (cap := n + 1) 0 (by simp) (by simp only [maxLen]; omega)
    have hb : Below w.heap.size w ((w.alloc (.cells #[.int .i64 n, .int .i64 0, .slice (some ⟨w.heap.size + 1, 0, none⟩) (n + 1) (n + 1)] 28)).alloc (.cells (madeCells #[.int .u64 0] (n + 1)) 30)) := ((Below.refl _ _).alloc (Nat.le_refl _) _).alloc (by simp) _
    refine bodyPost_ret (v := .agg #[.int .i64 n, .int .i64 0, .slice (some ⟨w.heap.size + 1, 0, none⟩) (n + 1) (n + 1)]) (by simp [results, Try.results28, go_sem]) rfl ⟨_, rfl, ?_, ?_⟩
    · simpa using ho
    · exact hb
  · have e1 : newOk d = false := by unfold newOk; simpa using hd
    have e2 : newD d = 0 := by unfold newD; rw [e1]; rfl
    have e3 : newL d = [] := by unfold newL; rw [e1]; rfl
    rw [e2, e3]
    clear e1 e2 e3
    by_cases h0 : d < 1
    · go_enter Try.func28, Try.ntmps28
      go_wp2
      exact bodyPost_ret (v := .agg #[.int .i64 0, .int .i64 0, .slice none 0 0]) (by simp [results, Try.results28, go_sem]) rfl ⟨_, rfl, Own.nil _ _ _ _, (Below.refl _ _).alloc (Nat.le_refl _) _⟩
    · have h1 : 12 < d := by omega
      go_enter Try.func28, Try.ntmps28
      go_wp2
      exact bodyPost_ret (v := .agg #[.int .i64 0, .int .i64 0, .slice none 0 0]) (by simp [results, Try.results28, go_sem]) rfl ⟨_, rfl, Own.nil _ _ _ _, (Below.refl _ _).alloc (Nat.le_refl _) _⟩

set_option maxHeartbeats 1000000 in
theorem rNew_any (d : Int) (w : World) :
    Calls Try.prog 29 #[.int .i64 d] w (RetF w (newD d) 0 (newL d)) := by
  by_cases hd : 1 ≤ d ∧ d ≤ 12
  · have e1 : newOk d = true := by unfold newOk; simpa using hd
    unfold newD newL
    rw [if_pos e1, if_pos e1]
    obtain ⟨n, rfl⟩ := Int.eq_ofNat_of_zero_le (show 0 ≤ d by omega)
    obtain ⟨hd1, hd2⟩ := hd
    rw [Int.toNat_natCast]
    have hmk := fun W => run_mkI (P := Try.prog) (t := 22) (e := 30) (k := .u64) (bytes := 8) Try.underlying22 Try.infoU64 (by decide) (L := (n : Int) + 1) (C := (n : Int) + 1) (n + 1) (n + 1) (by omega) (by omega) (by omega) (by omega) W
    clear e1
    go_enter Try.func29, Try.ntmps29
    go_wp2
    have ho := Own.made (w := w.alloc (.cells #[.int .i64 n, .int .i64 0, .slice (some ⟨w.heap.size + 1, 0, none⟩) (n + 1) (n + 1)] 24)) (base := w.heap.size) (E := 30) (k := .u64) (cap := n + 1) 0 (by simp) (by simp only [maxLen]; omega)
    have hb : Below w.heap.size w ((w.alloc (.cells #[.int .i64 n, .int .i64 0, .slice (some ⟨w.heap.size + 1, 0, none⟩) (n + 1) (n + 1)] 24)).alloc (.cells (madeCells #[.int .u64 0] (n + 1)) 30)) := ((Below.refl _ _).alloc (Nat.le_refl _) _).alloc (by simp) _
    refine bodyPost_ret (v := .agg #[.int .i64 n, .int .i64 0, .slice (some ⟨w.heap.size + 1, 0, none⟩) (n + 1) (n + 1)]) (by simp [results, Try.results29, go_sem]) rfl ⟨_, rfl, ?_, ?_⟩
    · simpa using ho
    · exact hb
  · have e1 : newOk d = false := by unfold newOk; simpa using hd
    have e2 : newD d = 0 := by unfold newD; rw [e1]; rfl
    have e3 : newL d = [] := by unfold newL; rw [e1]; rfl
    rw [e2, e3]
    clear e1 e2 e3
    by_cases h0 : d < 1
    · go_enter Try.func29, Try.ntmps29
      go_wp2
      exact bodyPost_ret (v := .agg #[.int .i64 0, .int .i64 0, .slice none 0 0]) (by simp [results, Try.results29, go_sem]) rfl ⟨_, rfl, Own.nil _ _ _ _, (Below.refl _ _).alloc (Nat.le_refl _) _⟩
    · have h1 : 12 < d := by omega
      go_enter Try.func29, Try.ntmps29
      go_wp2
      exact bodyPost_ret (v := .agg #[.int .i64 0, .int .i64 0, .slice none 0 0]) (by simp [results, Try.results29, go_sem]) rfl ⟨_, rfl, Own.nil _ _ _ _, (Below.refl _ _).alloc (Nat.le_refl _) _⟩

end Go.Proofs.Ythkdaoomnfgooaa
