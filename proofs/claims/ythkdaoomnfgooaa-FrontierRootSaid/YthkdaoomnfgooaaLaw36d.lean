/- FrontierRoot: After leaves were appended, the frontier is valid, and its root is that of the tree with these leaves. -/
import Derived.Test.YthkdaoomnfgooaaFronO
import Derived.Test.YthkdaoomnfgooaaOpen
namespace Go.Proofs.Ythkdaoomnfgooaa
open Go.ChangeShapes Go.WideShapes Go.ChangeAt Go.RowKit
namespace frontierRoot

theorem froot_fro {n : Nat} {l : List Int} (h1 : 1 ≤ n) (h2 : n ≤ 12) (hl : l.length ≤ 2 ^ n) (hb : ∀ x ∈ l, x < big) : froot n l.length (fro n l) = top n (placesL n l) := by
  have e : ((2 : Int) ^ n) = ((2 ^ n : Nat) : Int) := (Int.natCast_pow 2 n).symm
  unfold froot
  rw [if_pos (fro_fvld h1 h2 hl hb), Int.toNat_natCast, Int.toNat_natCast]
  by_cases hf : l.length = 2 ^ n
  · rw [if_pos (by omega), fro_full n l hf]
    unfold placesL
    rw [hf, Nat.sub_self]
    simp
  · rw [if_neg (by omega), root_naive n l (by omega)]

set_option maxRecDepth 10000 in
set_option maxHeartbeats 4000000 in
theorem walk (d : Int) (ad : Option Addr) (cap : Nat) (l : List Int) (w : World) (_ : (Lit.int .i64 d).wf = true) (S : SlP w .u64 ad cap l) :
    Calls Try.prog 6 #[.int .i64 d, .slice ad l.length cap] w fun e w' => e = .returned (.bool true) ∧ Below w.heap.size w w' := by
  have hs := S.sl
  have hw := wfs_u64 S.wf
  have cR := fun (W : World) (hs : Sl W .u64 ad l) => right_any d ad cap l W hs hw
  clear S
  by_cases hr : rightB d l = true
  · rw [hr] at cR
    obtain ⟨d1, d2, hl, hb⟩ := of_decide_eq_true hr
    obtain ⟨n, rfl⟩ := Int.eq_ofNat_of_zero_le (show 0 ≤ d by omega)
    rw [Int.toNat_natCast] at hl
    have h1 : 1 ≤ n := by omega
    have h2 : n ≤ 12 := by omega
    have hp := (pow_le12 h2).2
    have cG := fun (W : World) (hs : Sl W .u64 ad l) => grown_any n ad cap l W hs hw h1 h2 hl hb
    have cV := fun (ad : Option Addr) (cap : Nat) (W : World) hs => Valid_any n l.length ad cap (fro n l) W hs (fro_W n l hw) (by rw [fro_len]; omega) (by omega)
    have cT := fun (ad : Option Addr) (cap : Nat) (W : World) hs => Root_any n l.length ad cap (fro n l) W hs (fro_W n l hw) (by rw [fro_len]; omega) (by omega)
    have cN := fun (W : World) (hs : Sl W .u64 ad l) => Naive_any n ad cap l W hs hw h2 hl
    rw [fro_fvld h1 h2 hl hb] at cV
    rw [froot_fro h1 h2 hl hb] at cT
    have hll : l.length < 9223372036854775808 := by omega
    generalize top n (placesL n l) = R at *
    have hRR : (R == R) = true := by simp
    have hnn : ((l.length : Int) == (l.length : Int)) = true := by simp
    generalize fro n l = F at *
    clear hr d1 d2 h1 h2 hp hl hb
    go_enter Try.func6, Try.ntmps6
    go_wp2_with fail
    refine (awake36 _).mono ?_
    rintro ew1 w1 ⟨rfl, hb1⟩
    go_wp2_with fail
    refine (cR w1 (hs.mono hb1)).mono ?_
    rintro e w2 ⟨rfl, hb2⟩
    replace hb2 := below2 hb1 hb2
    clear hb1 cR
    go_wp2_with fail
    refine (cG w2 (hs.mono hb2)).mono ?_
    rintro e w3 ⟨v, rfl, o3, hb3⟩
    replace o3 := o3.low hb2.size
    replace hb3 := below2 hb2 hb3
    obtain ⟨a, c, rfl, _, _, _⟩ := Own.sl o3
    clear cG hb2
    go_wp2_with fail
    refine name_calls fun W hW => ?_
    have g0 : Blk W w3.heap.size #[.int .i64 n, .int .i64 l.length, .slice a F.length c] 28 := by rw [hW]; exact Blk.newAt rfl
    have hB : Below w.heap.size w W := by rw [hW]; exact hb3.alloc hb3.size _
    replace o3 : Own W w.heap.size 30 .u64 (.slice a F.length c) F := by rw [hW]; exact o3.alloc _
    clear hW hb3
    obtain ⟨_, _, he, s3, _, _⟩ := Own.sl o3
    injection he with he1 he2 he3
    subst he1
    clear he2 he3 o3
    refine (cV _ _ W s3).mono ?_
    rintro e w4 ⟨rfl, hb4⟩
    replace g0 := g0.mono hb4
    replace s3 := s3.mono hb4
    replace hB := below2 hB hb4
    clear cV hb4
    have k0 := g0.cell (j := 0) (v := .int .i64 n) rfl; have k1 := g0.cell (j := 1) (v := .int .i64 l.length) rfl; have k2 := g0.cell (j := 2) (v := .slice a F.length c) rfl
    go_wp2_with fail
    refine (cT _ _ w4 s3).mono ?_
    rintro e w5 ⟨rfl, hb5⟩
    replace hB := below2 hB hb5
    clear cT hb5 k0 k1 k2 g0 s3
    go_wp2_with fail
    refine (cN _ (hs.mono hB)).mono ?_
    rintro e w6 ⟨rfl, hb6⟩
    replace hB := below2 hB hb6
    clear cN hb6
    go_wp2
    go_ret
    exact ⟨rfl, hB⟩
  · replace hr : rightB d l = false := by simpa using hr
    rw [hr] at cR
    clear hr
    go_enter Try.func6, Try.ntmps6
    go_wp2_with fail
    refine (awake36 _).mono ?_
    rintro ew1 w1 ⟨rfl, hb1⟩
    go_wp2_with fail
    refine (cR w1 (hs.mono hb1)).mono ?_
    rintro e w2 ⟨rfl, hb2⟩
    replace hb2 := below2 hb1 hb2
    clear hb1 cR
    go_wp2_with fail
    refine (awake36 _).mono ?_
    rintro ew3 w3 ⟨rfl, hb3⟩
    go_wp2
    go_ret
    exact ⟨rfl, below2 hb2 hb3⟩

set_option maxRecDepth 100000 in
theorem lifted (os : Os) (started : os.Started) (H : Type) (enc : TypeId × Value → H) :
    ReturnsInHanded {} Try.checked os 6 .any (Rows.frontierRootSpec.pre6 enc Try.prog Try.f6 Rows.frontierRootRow.domain false) (Rows.frontierRootSpec.post enc Try.prog Try.f6 false true false false) := by
  refine returnsInHanded_of_change (C := Try.checked) own started (by kernel_rfl) Try.func6
    (ChangeSpec.witness6 (enc := enc) (C := Try.checked) false ⟨#[], #[.int .i64 0, .slice none 0 0], []⟩ 8 (by kernel_rfl) (by kernel_rfl) (by kernel_rfl) (by kernel_rfl)) ?_
  intro W base args ds gs before hval0 hW hcnd _
  have hval : ∀ (j : Nat) t v, Try.f6.params[j]? = some t → args[j]? = some v → Value.okWide Try.prog W .any base t v := hval0
  have hW' := hW
  obtain ⟨p, q, hA0, hV, rfl, hfz, hnd⟩ := hW
  have hA : DataW.TrodAll enc Try.prog W 0 (fun _ => true) true Try.f6.params.toList args.toList ds p := hA0
  rw [Try.params6] at hA hval
  obtain ⟨v0, vs0, d0, ds0, p0, q0, hargs, rfl, rfl, h0, r0⟩ := trodAll_cons hA
  obtain ⟨v1, vs1, d1, ds1, p1, q1, rfl, rfl, rfl, h1, r1⟩ := trodAll_cons r0
  obtain ⟨rfl, rfl, rfl⟩ := trodAll_nil r1
  obtain rfl : args = #[v0, v1] := by cases args; simp_all
  obtain ⟨rfl, rfl⟩ := trodVars_none hV
  have k1 := h1
  obtain ⟨a0, rfl, rfl, rfl, w0⟩ := open_int Try.underlying3 (hval 0 3 v0 rfl rfl) h0
  obtain ⟨ad1, cap1, xs1, rfl, S1⟩ := open_slice Try.underlying22 Try.underlying30 (by kernel_rfl) h1 (hval 1 22 v1 rfl rfl) (fun x hx => hW'.lt x (by simp [hx]))
  clear hA0 hval0
  simp only [List.append_nil] at hW'
  refine (walk a0 ad1 cap1 xs1 W w0 S1).mono fun e W' ⟨he, hg⟩ => ?_
  subst he
  exact ⟨_, rfl, post_of_below (pv := []) hW' (fun _ _ _ => (trodAll_cons_mk (shut_bool Try.underlying4 _) trodAll_mk0))
    (fun sp _ hsp => by subst hsp; exact (trodAll_cons_mk (shut_int Try.underlying3 w0) (trodAll_cons_mk (Below.trod Try.laidOut (by kernel_rfl) (of_decide_eq_true (by kernel_rfl)) k1 hg (fun x hx => hW'.lt x (by simp [hx]))) trodAll_mk0))) (fun _ _ => rfl) (by simp) hg⟩

theorem closed : joinedFacts Try.prog 6 Try.f6 Rows.frontierRootSpec Rows.frontierRootRow = true := by
  unfold joinedFacts
  rw [Try.mayEnter, Try.liftsFinal, Try.make]
  kernel_rfl

theorem proved : Rows.FrontierRootSaid :=
  OpenClaim.holds_of_wide 6 Try.f6 rfl rfl rfl rfl rfl rfl rfl ⟨rfl, rfl, rfl, rfl, rfl⟩ rfl rfl rfl rfl rfl (by kernel_rfl) Try.func6 closed
    (of_decide_eq_true (by kernel_rfl)) (by unfold Func.isWrapper; first | (rw [if_pos (by decide +kernel)]; kernel_rfl) | (rw [if_neg (by decide +kernel)]; exact ⟨rfl, rfl⟩))
    (fun os started H enc _ => lifted os started H enc)
#print axioms proved
end frontierRoot
end Go.Proofs.Ythkdaoomnfgooaa
