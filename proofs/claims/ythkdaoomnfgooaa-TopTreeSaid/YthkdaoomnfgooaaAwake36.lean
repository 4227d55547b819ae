/- The example of frontiers holds. -/
import Derived.Test.YthkdaoomnfgooaaFronA
import Derived.Test.YthkdaoomnfgooaaFronQ
namespace Go.Proofs.Ythkdaoomnfgooaa
open Go.RowKit

theorem wf_int {x : Int} (h : (Lit.int .i64 x).wf = true) : -9223372036854775808 ≤ x ∧ x < 9223372036854775808 := by
  simp [Lit.wf, IntKind.min, IntKind.max, IntKind.signed, IntKind.bits] at h
  omega

theorem three_W {n : Int} (h : 0 ≤ n ∧ n < 18446744073709551616) : AllW [0, n, 0] := fun x hx => by
  simp only [List.mem_cons, List.not_mem_nil, or_false] at hx
  rcases hx with rfl | rfl | rfl
  · exact ⟨by decide, by decide⟩
  · exact h
  · exact ⟨by decide, by decide⟩

theorem vld36 {n : Int} (h : n < big) : fvld 2 2 [0, n, 0] = true := by
  unfold fvld
  rw [decide_eq_true_iff]
  refine ⟨by decide, by decide, by decide, by decide, rfl, fun i hi => ?_⟩
  have hi3 : i = 0 ∨ i = 1 ∨ i = 2 := by simp at hi; omega
  rcases hi3 with rfl | rfl | rfl
  · exact ⟨show (0 : Int) < big by decide, fun _ => rfl⟩
  · exact ⟨h, fun h => by simp at h⟩
  · exact ⟨show (0 : Int) < big by decide, fun _ => rfl⟩

set_option maxRecDepth 10000 in
set_option maxHeartbeats 4000000 in
theorem awake36 (w : World) : Calls Try.prog 19 #[] w fun e w' => e = .returned (.bool true) ∧ Below w.heap.size w w' := by
  obtain ⟨n, hn⟩ : ∃ n, n = nd 5 6 := ⟨_, rfl⟩
  have nb := nd_bd 5 6
  have nl := nd_lt 5 6
  rw [← hn] at nb nl
  have cN : ∀ W : World, Calls Try.prog 28 #[.int .i64 2] W (RetF W 2 0 [0, 0, 0]) := fun W => New_any 2 W
  have cA1 : ∀ (ad : Option Addr) (cap : Nat) (W : World), Sl W .u64 ad [0, 0, 0] → Calls Try.prog 32 #[.agg #[.int .i64 2, .int .i64 0, .slice ad 3 cap], .int .u64 5] W (RetA W 2 1 [5, 0, 0] 0) := fun ad cap W hs => by
    have h := Append_any 2 0 5 ad cap [0, 0, 0] W (by decide) hs (by unfold AllW; decide) (by decide) (by decide)
    have e0 : appOk 2 0 [0, 0, 0] 5 = true := by decide
    have e1 : appD 2 0 [0, 0, 0] 5 = 2 := by unfold appD; rw [e0]; rfl
    have e2 : appC 2 0 [0, 0, 0] 5 = 1 := by unfold appC; rw [e0]; rfl
    have e3 : appF 2 0 [0, 0, 0] 5 = [5, 0, 0] := by unfold appF; rw [e0]; rfl
    have e4 : appE 2 0 [0, 0, 0] 5 = 0 := by decide
    rw [e1, e2, e3, e4] at h
    exact h
  have cA2 : ∀ (ad : Option Addr) (cap : Nat) (W : World), Sl W .u64 ad [5, 0, 0] → Calls Try.prog 32 #[.agg #[.int .i64 2, .int .i64 1, .slice ad 3 cap], .int .u64 6] W (RetA W 2 2 [0, n, 0] 0) := fun ad cap W hs => by
    have h := Append_any 2 1 6 ad cap [5, 0, 0] W (by decide) hs (by unfold AllW; decide) (by decide) (by decide)
    have e0 : appOk 2 1 [5, 0, 0] 6 = true := by decide
    have e1 : appD 2 1 [5, 0, 0] 6 = 2 := by unfold appD; rw [e0]; rfl
    have e2 : appC 2 1 [5, 0, 0] 6 = 2 := by unfold appC; rw [e0]; rfl
    have e3 : appF 2 1 [5, 0, 0] 6 = [0, n, 0] := by unfold appF; rw [e0, hn]; rfl
    have e4 : appE 2 1 [5, 0, 0] 6 = 0 := by decide
    rw [e1, e2, e3, e4] at h
    exact h
  have cNode : ∀ W : World, Calls Try.prog 37 #[.int .u64 5, .int .u64 6] W fun e w' => e = .returned (.int .u64 n) ∧ Below W.heap.size W w' := fun W => by
    have h := rNode_any 5 6 W (by decide) (by decide)
    rw [← hn] at h
    exact h
  have hv := vld36 nl
  have cV : ∀ (ad : Option Addr) (cap : Nat) (W : World), Sl W .u64 ad [0, n, 0] → Calls Try.prog 21 #[.agg #[.int .i64 2, .int .i64 2, .slice ad 3 cap]] W fun e w' => e = .returned (.bool true) ∧ Below W.heap.size W w' := fun ad cap W hs => by
    have h := Valid_any 2 2 ad cap [0, n, 0] W hs (three_W nb) (by simp) (by decide)
    rw [hv] at h
    exact h
  obtain ⟨e1, he1⟩ : ∃ e, e = emp 1 := ⟨_, rfl⟩
  obtain ⟨R, hR⟩ : ∃ R, R = nd n e1 := ⟨_, rfl⟩
  have e1b := emp_bd 1
  rw [← he1] at e1b
  have cR : ∀ (ad : Option Addr) (cap : Nat) (W : World), Sl W .u64 ad [0, n, 0] → Calls Try.prog 24 #[.agg #[.int .i64 2, .int .i64 2, .slice ad 3 cap]] W fun e w' => e = .returned (.int .u64 R) ∧ Below W.heap.size W w' := fun ad cap W hs => by
    have h := Root_any 2 2 ad cap [0, n, 0] W hs (three_W nb) (by simp) (by decide)
    have e : froot 2 2 [0, n, 0] = R := by
      unfold froot
      rw [hv, if_pos rfl, hR, he1]
      rfl
    rw [e] at h
    exact h
  have cE : ∀ W : World, Calls Try.prog 31 #[.int .i64 1] W fun e w' => e = .returned (.int .u64 e1) ∧ Below W.heap.size W w' := fun W => by
    have h := rEmpty_any 1 W
    have e : empI 1 = e1 := he1.symm
    rw [e] at h
    exact h
  have cM : ∀ W : World, Calls Try.prog 37 #[.int .u64 n, .int .u64 e1] W fun e w' => e = .returned (.int .u64 R) ∧ Below W.heap.size W w' := fun W => by
    have h := rNode_any n e1 W nb e1b
    rw [← hR] at h
    exact h
  have cS : ∀ (ad ad' : Option Addr) (cap cap' : Nat) (W : World), Sl W .u64 ad [0, n, 0] → Sl W .u64 ad' [0, n, 0] → Calls Try.prog 26 #[.agg #[.int .i64 2, .int .i64 2, .slice ad 3 cap], .agg #[.int .i64 2, .int .i64 2, .slice ad' 3 cap']] W fun e w' => e = .returned (.bool true) ∧ Below W.heap.size W w' := fun ad ad' cap cap' W hs ht => by
    have h := Same36_any 2 2 2 2 ad ad' cap cap' [0, n, 0] [0, n, 0] W hs ht (by simp)
    have e : sameB 2 2 2 2 [0, n, 0] [0, n, 0] = true := by unfold sameB; simp
    rw [e] at h
    exact h
  clear hv hR he1 hn nl e1b nb
  go_enter Try.func19, Try.ntmps19
  go_wp2_with fail
  refine (cN _).mono ?_
  rintro e w1 ⟨v, rfl, o1, hb1⟩
  obtain ⟨a1, c1, rfl, s1, _, _⟩ := Own.sl o1
  clear cN o1
  go_wp2_with fail
  refine name_calls fun W1 hW => ?_
  have hB : Below w.heap.size w W1 := by rw [hW]; exact hb1.alloc hb1.size _
  have s1' : Sl W1 .u64 a1 [0, 0, 0] := by rw [hW]; exact s1.alloc _
  clear hW s1 hb1
  refine (cA1 _ _ _ s1').mono ?_
  rintro e w2 ⟨v, rfl, o2, hb2⟩
  obtain ⟨a2, c2, rfl, s2, _, _⟩ := Own.sl o2
  replace hB := below2 hB hb2
  clear cA1 o2 s1' hb2
  go_wp2_with fail
  refine name_calls fun W2 hW => ?_
  replace hB : Below w.heap.size w W2 := by rw [hW]; exact hB.alloc hB.size _
  have s2' : Sl W2 .u64 a2 [5, 0, 0] := by rw [hW]; exact s2.alloc _
  clear hW s2
  refine (cA2 _ _ _ s2').mono ?_
  rintro e w3 ⟨v, rfl, o3, hb3⟩
  obtain ⟨a3, c3, rfl, s3, _, _⟩ := Own.sl o3
  replace hB := below2 hB hb3
  clear cA2 o3 s2' hb3
  go_wp2_with fail
  refine name_calls fun W3 hW => ?_
  have g : Blk W3 w3.heap.size #[.int .i64 2, .int .i64 2, .slice a3 3 c3] 28 := by rw [hW]; exact Blk.newAt rfl
  replace hB : Below w.heap.size w W3 := by rw [hW]; exact hB.alloc hB.size _
  replace s3 : Sl W3 .u64 a3 [0, n, 0] := by rw [hW]; exact s3.alloc _
  clear hW
  generalize w3.heap.size = b3 at *
  refine (cNode _).mono ?_
  rintro e w4 ⟨rfl, hb4⟩
  replace hB := below2 hB hb4
  replace g := g.mono hb4
  replace s3 := s3.mono hb4
  clear cNode hb4
  have k0 := g.cell (j := 0) (v := .int .i64 2) rfl; have k1 := g.cell (j := 1) (v := .int .i64 2) rfl; have k2 := g.cell (j := 2) (v := .slice a3 3 c3) rfl
  go_wp2_with fail
  refine (back36_any 2 2 a3 3 c3 _).mono ?_
  rintro e w5 ⟨rfl, hb5⟩
  replace hB := below2 hB hb5
  replace g := g.mono hb5
  replace s3 := s3.mono hb5
  clear hb5 k0 k1 k2
  go_wp2_with fail
  refine name_calls fun W5 hW => ?_
  have gn : Blk W5 w5.heap.size #[.int .u64 0, .int .u64 n, .int .u64 0] 30 := by rw [hW]; exact Blk.newAt rfl
  replace hB : Below w.heap.size w W5 := by rw [hW]; exact hB.alloc hB.size _
  replace s3 : Sl W5 .u64 a3 [0, n, 0] := by rw [hW]; exact s3.alloc _
  replace g : Blk W5 b3 #[.int .i64 2, .int .i64 2, .slice a3 3 c3] 28 := by rw [hW]; exact g.alloc _
  clear hW
  have s5 := Sl.blk (k := .u64) [0, n, 0] gn rfl
  refine (cS _ _ _ _ _ s3 s5).mono ?_
  rintro e w6 ⟨rfl, hb6⟩
  replace hB := below2 hB hb6
  replace g := g.mono hb6
  replace s3 := s3.mono hb6
  clear hb6 cS s5 gn
  have k0 := g.cell (j := 0) (v := .int .i64 2) rfl; have k1 := g.cell (j := 1) (v := .int .i64 2) rfl; have k2 := g.cell (j := 2) (v := .slice a3 3 c3) rfl
  go_wp2_with fail
  refine (cR _ _ _ s3).mono ?_
  rintro e w7 ⟨rfl, hb7⟩
  replace hB := below2 hB hb7
  replace g := g.mono hb7
  replace s3 := s3.mono hb7
  clear hb7 cR k0 k1 k2
  go_wp2_with fail
  refine (cE _).mono ?_
  rintro e w8 ⟨rfl, hb8⟩
  replace hB := below2 hB hb8
  replace g := g.mono hb8
  replace s3 := s3.mono hb8
  clear hb8 cE
  go_wp2_with fail
  refine (cM _).mono ?_
  rintro e w9 ⟨rfl, hb9⟩
  replace hB := below2 hB hb9
  replace g := g.mono hb9
  replace s3 := s3.mono hb9
  clear hb9 cM
  have k0 := g.cell (j := 0) (v := .int .i64 2) rfl; have k1 := g.cell (j := 1) (v := .int .i64 2) rfl; have k2 := g.cell (j := 2) (v := .slice a3 3 c3) rfl
  have hRR : (R == R) = true := by simp
  go_wp2_with fail
  refine (cV _ _ _ s3).mono ?_
  rintro e w10 ⟨rfl, hb10⟩
  replace hB := below2 hB hb10
  clear hb10 cV k0 k1 k2
  go_wp2
  go_ret
  exact ⟨rfl, hB⟩

end Go.Proofs.Ythkdaoomnfgooaa
