/- SpongeReduced: Hash depends on the elements and the label modulo the prime only, and is less than it. -/
import Derived.Test.YtaklpdhhcnnclaaAwake8
namespace Go.Proofs.Ytaklpdhhcnnclaa
open Go.ChangeShapes Go.WideShapes Go.ChangeAt Go.RowKit
namespace spongeReduced

set_option maxHeartbeats 1000000 in
theorem walk (p lb : Int) (ad : Option Addr) (c : Nat) (xs : List Int) (w : World) (hp : (Lit.int .u64 p).wf = true) (hl : (Lit.int .u64 lb).wf = true) (S : SlP w .u64 ad c xs) :
    Calls Try.prog 11 #[.int .u64 p, .int .u64 lb, .slice ad xs.length c] w fun e w' => e = .returned (.bool true) ∧ Below w.heap.size w w' := by
  obtain ⟨l0, l1⟩ := wf_u64 hl
  obtain ⟨q0, q1⟩ := wf_u64 hp
  have hs := S.sl
  have hw := wfs_u64 S.wf
  clear S hl hp
  by_cases h40 : xs.length ≤ 40
  · go_enter Try.func11, Try.ntmps11
    go_wp2_with fail
    refine (awake8 _).mono ?_
    rintro ew1 w1 ⟨rfl, hb1⟩
    by_cases hv : vld p = true
    · have hpp := vld_pos hv
      have hlt := hash_lt hv lb xs
      have hbd := hash_bd p lb xs
      have hred := hash_red p lb xs
      have m0 := mod_lt' (show 0 < p by omega) lb
      have hwr : AllW (redL p xs) := fun x hx => by
        obtain ⟨y, _, rfl⟩ := List.mem_map.1 hx
        have := mod_lt' (show 0 < p by omega) y
        omega
      have hlr : Hid ((redL p xs).length = xs.length) := hide (by simp [redL])
      obtain ⟨r, hr⟩ : ∃ r, r = redL p xs := ⟨_, rfl⟩
      rw [← hr] at hred hwr hlr
      have c1 := fun W hs hl => Hash_any p lb ad c xs W l0 l1 hs hw hl
      obtain ⟨R, hR⟩ : ∃ R, R = hash p lb xs := ⟨_, rfl⟩
      rw [← hR] at c1 hlt hbd hred
      have c2 : ∀ (ad : Option Addr) (c : Nat) (W : World), Sl W .u64 ad r → Calls Try.prog 38 #[.int .u64 p, .int .u64 (lb % p), .slice ad r.length c] W fun e w' => e = .returned (.int .u64 R) ∧ Below W.heap.size W w' := fun ad c W hsl => by
        have := Hash_any p (lb % p) ad c r W m0.1 (by omega) hsl hwr (by have := hlr.out; omega)
        rwa [hred] at this
      have c3 : ∀ W, Sl W .u64 ad xs → Calls Try.prog 41 #[.int .u64 p, .slice ad xs.length c] W (RetSl W 22 .u64 r) := fun W h => by
        rw [hr]; exact rReduced_any p ad c xs W (by omega) q1 h hw (by omega)
      clear hr hR hred hwr hlr
      go_wp2_with fail
      refine (rValid_any p _).mono ?_
      rintro ew2 w2 ⟨rfl, hb2⟩
      rw [hv]
      go_wp2_with fail
      refine (c1 _ ((hs.mono hb1).mono hb2) (by omega)).mono ?_
      rintro e w3 ⟨rfl, hb3⟩
      replace hb3 := below2 (below2 hb1 hb2) hb3
      clear c1 hb1 hb2
      have p1 : ¬ p = 0 := by omega
      have ht : lb.tmod p = lb % p := Int.tmod_eq_emod_of_nonneg l0
      have hwm : IntKind.u64.wrap (lb % p) = lb % p := by rw [IntKind.wrap_u64]; omega
      go_wp2_with fail
      refine Rel.wp_region_mix 13 [] [(11, fun v w => Own w w3.heap.size 22 .u64 v r), (12, fun v _ => v = .int .u64 R)] Try.mixed (by kernel_rfl) (by kernel_rfl) ?_ ?_
      rotate_left
      simp only [List.take_succ_cons, List.take_zero, List.drop_succ_cons, List.drop_zero, List.map_cons, List.map_nil]
      repeat (first | (refine Rel.wpA_b (by rfl) ?_) | (refine Rel.wpA_step (by rfl) fun K hK => ?_; go_simp; first | (refine hK _ ?_; clear hK K) | (apply Exists.intro; refine ⟨fun _ => ?_, hK _ ?_⟩; (first | fail); clear hK K)))
      refine Rel.wpA_nil ?_
      rotate_left
      · intro z hz v u u' h1 h2
        simp only [List.mem_cons, List.not_mem_nil, or_false] at hz
        rcases hz with rfl | rfl
        · exact Own.mono h1 h2
        · exact h1
      refine Rel.wpB_step _ rfl rfl (fun p' hc => ?_) (fun v11 => ?_)
      · go_simp
        exact rUpon_sl (c3 _ ((hs.mono hb3).mono (below_later _ _)))
      refine Rel.wpB_step _ rfl rfl (fun p' hc => ?_) (fun v12 => ?_)
      · have h11 := hc _ (List.Mem.head _) (by kernel_rfl)
        obtain ⟨ad', c', rfl, hsl, _, _⟩ := Own.sl h11
        go_simp
        exact rUpon_q (c2 _ _ _ hsl)
      refine Rel.wpB_nil ?_
      intro p' hctx hfr
      simp only [List.nil_append, List.cons_append, List.mem_cons, List.not_mem_nil, or_false, forall_eq_or_imp, forall_eq] at hctx
      obtain ⟨_, rfl⟩ := hctx
      have hb4 := below_later w3 p'
      clear hfr c2 c3
      generalize later w3 p' = w4 at *
      go_wp2
      go_ret
      exact ⟨rfl, below2 hb3 hb4⟩
    · have hv := vld_no hv
      go_wp2_with fail
      refine (rValid_any p _).mono ?_
      rintro ew2 w2 ⟨rfl, hb2⟩
      rw [hv]
      go_wp2_with fail
      refine (awake8 _).mono ?_
      rintro ew3 w3 ⟨rfl, hb3⟩
      go_wp2
      go_ret
      exact ⟨rfl, below2 (below2 hb1 hb2) hb3⟩
  · have h41 : 40 < xs.length := by omega
    go_enter Try.func11, Try.ntmps11
    go_wp2_with fail
    refine (awake8 _).mono ?_
    rintro ew1 w1 ⟨rfl, hb1⟩
    go_wp2_with fail
    refine (awake8 _).mono ?_
    rintro ew2 w2 ⟨rfl, hb2⟩
    go_wp2
    go_ret
    exact ⟨rfl, below2 hb1 hb2⟩

set_option maxRecDepth 100000 in
theorem lifted (os : Os) (started : os.Started) (H : Type) (enc : TypeId × Value → H) :
    ReturnsInHanded {} Try.checked os 11 .any (Rows.spongeReducedSpec.pre6 enc Try.prog Try.f11 Rows.spongeReducedRow.domain false) (Rows.spongeReducedSpec.post enc Try.prog Try.f11 false true false false) := by
  refine returnsInHanded_of_change (C := Try.checked) own started (by kernel_rfl) Try.func11
    (ChangeSpec.witness6 (enc := enc) (C := Try.checked) false ⟨#[], #[.int .u64 0, .int .u64 0, .slice none 0 0], []⟩ 8 (by kernel_rfl) (by kernel_rfl) (by kernel_rfl) (by kernel_rfl)) ?_
  intro W base args ds gs before hval0 hW hcnd _
  have hval : ∀ (j : Nat) t v, Try.f11.params[j]? = some t → args[j]? = some v → Value.okWide Try.prog W .any base t v := hval0
  have hW' := hW
  obtain ⟨p, q, hA0, hV, rfl, hfz, hnd⟩ := hW
  have hA : DataW.TrodAll enc Try.prog W 0 (fun _ => true) true Try.f11.params.toList args.toList ds p := hA0
  rw [Try.params11] at hA hval
  obtain ⟨v0, vs0, d0, ds0, p0, q0, hargs, rfl, rfl, h0, r0⟩ := trodAll_cons hA
  obtain ⟨v1, vs1, d1, ds1, p1, q1, rfl, rfl, rfl, h1, r1⟩ := trodAll_cons r0
  obtain ⟨v2, vs2, d2, ds2, p2, q2, rfl, rfl, rfl, h2, r2⟩ := trodAll_cons r1
  obtain ⟨rfl, rfl, rfl⟩ := trodAll_nil r2
  obtain rfl : args = #[v0, v1, v2] := by cases args; simp_all
  obtain ⟨rfl, rfl⟩ := trodVars_none hV
  have k2 := h2
  obtain ⟨a0, rfl, rfl, rfl, w0⟩ := open_int Try.underlying22 (hval 0 22 v0 rfl rfl) h0
  obtain ⟨a1, rfl, rfl, rfl, w1⟩ := open_int Try.underlying22 (hval 1 22 v1 rfl rfl) h1
  obtain ⟨ad2, cap2, xs2, rfl, S2⟩ := open_slice Try.underlying31 Try.underlying22 (by kernel_rfl) h2 (hval 2 31 v2 rfl rfl) (fun x hx => hW'.lt x (by simp [hx]))
  clear hA0 hval0
  simp only [List.append_nil] at hW'
  refine (walk a0 a1 ad2 cap2 xs2 W w0 w1 S2).mono fun e W' ⟨he, hg⟩ => ?_
  subst he
  exact ⟨_, rfl, post_of_below (pv := []) hW' (fun _ _ _ => (trodAll_cons_mk (shut_bool Try.underlying4 _) trodAll_mk0))
    (fun sp _ hsp => by subst hsp; exact (trodAll_cons_mk (shut_int Try.underlying22 w0) (trodAll_cons_mk (shut_int Try.underlying22 w1) (trodAll_cons_mk (Below.trod Try.laidOut (by kernel_rfl) (of_decide_eq_true (by kernel_rfl)) k2 hg (fun x hx => hW'.lt x (by simp [hx]))) trodAll_mk0)))) (fun _ _ => rfl) (by simp) hg⟩

theorem closed : joinedFacts Try.prog 11 Try.f11 Rows.spongeReducedSpec Rows.spongeReducedRow = true := by
  unfold joinedFacts
  rw [Try.mayEnter, Try.liftsFinal, Try.make]
  kernel_rfl

theorem proved : Rows.SpongeReducedSaid :=
  OpenClaim.holds_of_wide 11 Try.f11 rfl rfl rfl rfl rfl rfl rfl ⟨rfl, rfl, rfl, rfl, rfl⟩ rfl rfl rfl rfl rfl (by kernel_rfl) Try.func11 closed
    (of_decide_eq_true (by kernel_rfl)) (by unfold Func.isWrapper; first | (rw [if_pos (by decide +kernel)]; kernel_rfl) | (rw [if_neg (by decide +kernel)]; exact ⟨rfl, rfl⟩))
    (fun os started H enc _ => lifted os started H enc)
#print axioms proved
end spongeReduced
end Go.Proofs.Ytaklpdhhcnnclaa
