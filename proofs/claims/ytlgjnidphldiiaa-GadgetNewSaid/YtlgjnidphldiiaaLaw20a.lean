/- GadgetNew: New returns a builder without rows, or the specified error, for all numbers; Input returns the inputs. -/
import Derived.Test.YtlgjnidphldiiaaGadT
import Derived.Test.YtlgjnidphldiiaaFrame
namespace Go.Proofs.Ytlgjnidphldiiaa
open Go.ChangeShapes Go.WideShapes Go.ChangeAt Go.RowKit
namespace gadgetNew

/-- What Circuit returns, among the relational operations of a region. -/
def IsC0 (p pub sec : Int) (x : Value) (_ : World) : Prop := ∃ ra rc ha hc, x = .agg #[.int .u64 p, .int .i64 pub, .int .i64 (1 + pub + sec), .slice ra 0 rc, .int .i64 sec, .slice ha 0 hc]

set_option maxRecDepth 10000 in
set_option maxHeartbeats 8000000 in
theorem walk (p pub sec : Int) (w : World) (hp : (Lit.int .u64 p).wf = true) (h1 : (Lit.int .i64 pub).wf = true) (h2 : (Lit.int .i64 sec).wf = true) :
    Calls Try.prog 3 #[.int .u64 p, .int .i64 pub, .int .i64 sec] w fun e w' => e = .returned (.bool true) ∧ Below w.heap.size w w' := by
  by_cases hE : newE p pub sec = 0
  · have hE2 : vld p = true ∧ (0 ≤ pub ∧ pub ≤ 65535 ∧ 0 ≤ sec ∧ pub + sec ≤ 65535) := by
      unfold newE at hE
      split at hE
      · rename_i hv
        split at hE
        · rename_i hb; exact ⟨hv, hb⟩
        · cases hE
      · cases hE
    obtain ⟨hv, hb⟩ := hE2
    have cN := fun W => New20_ok p pub sec W hv hb
    have cR := fun W => rNew20_ok p pub sec W hv hb
    obtain ⟨b1, b2, b3, b4⟩ := hb
    clear hE hp h1 h2
    go_enter Try.func3, Try.ntmps3
    go_wp2_with fail
    refine (awake20 w).mono ?_
    rintro e w1 ⟨rfl, hB⟩
    go_wp2_with fail
    refine (cN w1).mono ?_
    rintro e w2 ⟨b, rfl, hb2, hbb⟩
    replace hB := below2 hB hbb
    clear hbb
    go_wp2_with fail
    refine (cR w2).mono ?_
    rintro e w3 ⟨r, rfl, g3, hbb⟩
    replace hb2 := hb2.mono hbb
    replace hB := below2 hB hbb
    clear hbb cN cR
    have cC := fun P => Circuit20_any w1.heap.size b (newS p pub sec) (later w3 P) (hb2.mono (below_later _ _)) (by simp [newS]) (by simp [newS]) (fun q hq => by cases hq) (fun q hq => by cases hq)
    have k0 := cell_later' (g3.cell (j := 0) (v := .int .u64 p) rfl)
    have k1 := cell_later' (g3.cell (j := 1) (v := .int .i64 pub) rfl)
    have k2 := cell_later' (g3.cell (j := 2) (v := .int .i64 (1 + pub + sec)) rfl)
    have k3 := cell_later' (g3.cell (j := 3) (v := .slice none 0 0) rfl)
    have k4 := cell_later' (g3.cell (j := 4) (v := .int .i64 sec) rfl)
    have k5 := cell_later' (g3.cell (j := 5) (v := .slice none 0 0) rfl)
    go_wp2_with fail
    refine Rel.wp_region_mix 9 [] [(4, IsC0 p pub sec)] Try.mixed (by kernel_rfl) (by kernel_rfl) ?_ ?_
    rotate_left
    simp only [List.take_succ_cons, List.take_zero, List.drop_succ_cons, List.drop_zero, List.map_cons, List.map_nil]
    repeat (first | (refine Rel.wpA_b (by rfl) ?_) | (refine Rel.wpA_step (by rfl) fun K hK => ?_; go_simp; first | (refine hK _ ?_; clear hK K) | (apply Exists.intro; refine ⟨fun _ => ?_, hK _ ?_⟩; (first | fail); clear hK K)))
    refine Rel.wpA_nil ?_
    rotate_left
    · intro z hz v u u' h1 h2
      simp only [List.mem_cons, List.not_mem_nil, or_false] at hz
      subst hz
      exact h1
    refine Rel.wpB_step _ rfl rfl (fun p' hq => ?_) (fun v4 => ?_)
    · refine rU_of' (fr := false) (r := .ok (.enter 18 #[.pointer (some ⟨b, 0, none⟩)]) (later w3 p')) (by kernel_rfl) (by kernel_rfl) ?_
      exact ⟨rfl, (cC p').mono fun e w' ⟨ra, rc, R, ha, hc, H, he, _, _, eR, eH, hb⟩ => ⟨_, he, hb, ⟨ra, rc, ha, hc, by
        have h1 := congrArg List.length eR.out
        have h2 := congrArg List.length eH.out
        rw [List.length_map] at h1 h2
        rw [show R.length = 0 from h1, show H.length = 0 from h2]
        rfl⟩, fun h => by cases h⟩⟩
    refine Rel.wpB_nil ?_
    intro p' hctx hfr
    simp only [List.nil_append, List.mem_cons, List.not_mem_nil, or_false, forall_eq] at hctx
    obtain ⟨ra, rc, ha, hc, rfl⟩ := hctx
    have hbl := below_later w3 p'
    clear hfr k0 k1 k2 k3 k4 k5 cC
    generalize later w3 p' = w4 at *
    replace hb2 := hb2.mono hbl
    replace g3 := g3.mono hbl
    replace hB := below2 hB hbl
    clear hbl
    go_wp2_with fail
    refine (rSame0_any p pub (1 + pub + sec) sec ra ha rc hc w4).mono ?_
    rintro e w5 ⟨rfl, hbl⟩
    replace hb2 := hb2.mono hbl
    replace g3 := g3.mono hbl
    replace hB := below2 hB hbl
    clear hbl
    go_wp2_with fail
    have gL : Blk (w5.alloc (.cells #[.int .i64 (-1), .int .i64 0, .int .i64 1, .int .i64 pub, .int .i64 (pub + sec - 1), .int .i64 (pub + sec), .int .i64 4611686018427387904] 3)) w5.heap.size #[.int .i64 (-1), .int .i64 0, .int .i64 1, .int .i64 pub, .int .i64 (pub + sec - 1), .int .i64 (pub + sec), .int .i64 4611686018427387904] 3 := Blk.newAt rfl
    have hbl := (Below.refl w5.heap.size w5).alloc (Nat.le_refl _) (.cells #[.int .i64 (-1), .int .i64 0, .int .i64 1, .int .i64 pub, .int .i64 (pub + sec - 1), .int .i64 (pub + sec), .int .i64 4611686018427387904] 3)
    replace hb2 := hb2.mono hbl
    replace g3 := g3.mono hbl
    replace hB := below2 hB hbl
    generalize w5.alloc (.cells #[.int .i64 (-1), .int .i64 0, .int .i64 1, .int .i64 pub, .int .i64 (pub + sec - 1), .int .i64 (pub + sec), .int .i64 4611686018427387904] 3) = w6 at *
    clear hbl
    go_loopw [65] (fun t65 wr => ∃ k : Nat, k ≤ 7 ∧ t65 = .int .i64 k ∧ Below w6.heap.size w6 wr) (fun t65 _ => 7 - (intOf t65).toNat)
    case atStart => exact ⟨0, Nat.zero_le _, rfl, Below.refl _ _⟩
    case round =>
      obtain ⟨k, hk, rfl, hb⟩ := hrel
      by_cases hlt : k < 7
      · have hlt' : (k : Int) < 7 := by omega
        have hi : ∃ i, (#[Value.int .i64 (-1), .int .i64 0, .int .i64 1, .int .i64 pub, .int .i64 (pub + sec - 1), .int .i64 (pub + sec), .int .i64 4611686018427387904] : Array Value)[k]? = some (.int .i64 i) ∧ (Lit.int .i64 i).wf = true := by
          have hk7 : k = 0 ∨ k = 1 ∨ k = 2 ∨ k = 3 ∨ k = 4 ∨ k = 5 ∨ k = 6 := by omega
          rcases hk7 with rfl | rfl | rfl | rfl | rfl | rfl | rfl
          · exact ⟨_, rfl, by decide⟩
          · exact ⟨_, rfl, by decide⟩
          · exact ⟨_, rfl, by decide⟩
          · exact ⟨_, rfl, wfI ⟨by omega, by omega⟩⟩
          · exact ⟨_, rfl, wfI ⟨by omega, by omega⟩⟩
          · exact ⟨_, rfl, wfI ⟨by omega, by omega⟩⟩
          · exact ⟨_, rfl, by decide⟩
        obtain ⟨i, hik, hiw⟩ := hi
        have ck := (gL.mono hb).cell hik
        obtain ⟨cs, gb, c0, c2, c5⟩ := (hb2.mono hb).cells
        have cI := Input20_any b cs _ p pub sec i wr gb c0 c2 c5 hv ⟨b1, b3, b4⟩ hiw
        have cJ := fun W hh => rInput20_any r _ _ pub sec i W ((g3.mono hb).mono hh) rfl rfl ⟨b1, b3, b4⟩ hiw
        obtain ⟨X, hX⟩ : ∃ X : Lin, X = if 0 ≤ i ∧ i < pub + sec then [(1 + i, 1)] else [] := ⟨_, rfl⟩
        rw [← hX] at cI cJ
        have hXl : X.length ≤ 1 := by rw [hX]; split <;> simp
        replace hX := hide hX
        clear gb c0 c2 c5 hik hiw
        go_wp2_with fail
        refine cI.mono ?_
        rintro e w7 ⟨s, rfl, es, hs, hb7⟩
        clear cI
        go_wp2_with fail
        refine (cJ w7 hb7).mono ?_
        rintro e w8 ⟨t, rfl, et, ht, hb8⟩
        have cS := SameLin_any s t w8 (hs.mono hb8).ok ht.ok (by rw [es.out]; omega)
        rw [decide_eq_true (show s.l = t.l by rw [es.out, et.out])] at cS
        clear cJ hs ht
        go_wp2_with fail
        refine cS.mono ?_
        rintro e w9 ⟨rfl, hb9⟩
        clear cS ck
        go_wp2
        go_roundw
        case rel => exact ⟨k + 1, by omega, by go_num, below2 (below2 (below2 hb hb7) hb8) hb9⟩
        case measure => simp [intOf]; omega
      · obtain rfl : k = 7 := by omega
        go_wp2
        go_ret
        exact ⟨rfl, below2 hB hb⟩
  · have cN := fun W => New20_no p pub sec W ⟨h1, h2⟩ hE
    have cR := fun W => rNew20_no p pub sec W ⟨h1, h2⟩ hE
    generalize newE p pub sec = E at *
    have hz : (E != 0) = true := by simpa using hE
    have hz2 : (E != E) = false := by simp
    have hz3 : (E == E) = true := by simp
    clear h1 h2 hp
    replace hE := hide hE
    go_enter Try.func3, Try.ntmps3
    go_wp2_with fail
    refine (awake20 w).mono ?_
    rintro e w1 ⟨rfl, hB⟩
    go_wp2_with fail
    refine (cN w1).mono ?_
    rintro e w2 ⟨rfl, hb2⟩
    go_wp2_with fail
    refine (cR w2).mono ?_
    rintro e w3 ⟨rfl, hb3⟩
    go_wp2
    go_ret
    exact ⟨rfl, below2 (below2 hB hb2) hb3⟩

set_option maxRecDepth 100000 in
theorem lifted (os : Os) (started : os.Started) (H : Type) (enc : TypeId × Value → H) :
    ReturnsInHanded {} Try.checked os 3 .any (Rows.gadgetNewSpec.pre6 enc Try.prog Try.f3 Rows.gadgetNewRow.domain false) (Rows.gadgetNewSpec.post enc Try.prog Try.f3 false true false false) := by
  refine returnsInHanded_of_change (C := Try.checked) own started (by kernel_rfl) Try.func3
    (ChangeSpec.witness6 (enc := enc) (C := Try.checked) false ⟨#[], #[.int .u64 0, .int .i64 0, .int .i64 0], []⟩ 8 (by kernel_rfl) (by kernel_rfl) (by kernel_rfl) (by kernel_rfl)) ?_
  intro W base args ds gs before hval0 hW hcnd _
  have hval : ∀ (j : Nat) t v, Try.f3.params[j]? = some t → args[j]? = some v → Value.okWide Try.prog W .any base t v := hval0
  have hW' := hW
  obtain ⟨p, q, hA0, hV, rfl, hfz, hnd⟩ := hW
  have hA : DataW.TrodAll enc Try.prog W 0 (fun _ => true) true Try.f3.params.toList args.toList ds p := hA0
  rw [Try.params3] at hA hval
  obtain ⟨v0, vs0, d0, ds0, p0, q0, hargs, rfl, rfl, h0, r0⟩ := trodAll_cons hA
  obtain ⟨v1, vs1, d1, ds1, p1, q1, rfl, rfl, rfl, h1, r1⟩ := trodAll_cons r0
  obtain ⟨v2, vs2, d2, ds2, p2, q2, rfl, rfl, rfl, h2, r2⟩ := trodAll_cons r1
  obtain ⟨rfl, rfl, rfl⟩ := trodAll_nil r2
  obtain rfl : args = #[v0, v1, v2] := by cases args; simp_all
  obtain ⟨rfl, rfl⟩ := trodVars_none hV
  obtain ⟨a0, rfl, rfl, rfl, w0⟩ := open_int Try.underlying22 (hval 0 22 v0 rfl rfl) h0
  obtain ⟨a1, rfl, rfl, rfl, w1⟩ := open_int Try.underlying3 (hval 1 3 v1 rfl rfl) h1
  obtain ⟨a2, rfl, rfl, rfl, w2⟩ := open_int Try.underlying3 (hval 2 3 v2 rfl rfl) h2
  clear hA0 hval0
  simp only [List.append_nil] at hW'
  refine (walk a0 a1 a2 W w0 w1 w2).mono fun e W' ⟨he, hg⟩ => ?_
  subst he
  exact ⟨_, rfl, post_of_below (pv := []) hW' (fun _ _ _ => (trodAll_cons_mk (shut_bool Try.underlying4 _) trodAll_mk0))
    (fun sp _ hsp => by subst hsp; exact (trodAll_cons_mk (shut_int Try.underlying22 w0) (trodAll_cons_mk (shut_int Try.underlying3 w1) (trodAll_cons_mk (shut_int Try.underlying3 w2) trodAll_mk0)))) (fun _ _ => rfl) (by simp) hg⟩

theorem closed : joinedFacts Try.prog 3 Try.f3 Rows.gadgetNewSpec Rows.gadgetNewRow = true := by
  unfold joinedFacts
  rw [Try.mayEnter, Try.liftsFinal, Try.make]
  kernel_rfl

theorem proved : Rows.GadgetNewSaid :=
  OpenClaim.holds_of_wide 3 Try.f3 rfl rfl rfl rfl rfl rfl rfl ⟨rfl, rfl, rfl, rfl, rfl⟩ rfl rfl rfl rfl rfl (by kernel_rfl) Try.func3 closed
    (of_decide_eq_true (by kernel_rfl)) (by unfold Func.isWrapper; first | (rw [if_pos (by decide +kernel)]; kernel_rfl) | (rw [if_neg (by decide +kernel)]; exact ⟨rfl, rfl⟩))
    (fun os started H enc _ => lifted os started H enc)
#print axioms proved
end gadgetNew
end Go.Proofs.Ytlgjnidphldiiaa
