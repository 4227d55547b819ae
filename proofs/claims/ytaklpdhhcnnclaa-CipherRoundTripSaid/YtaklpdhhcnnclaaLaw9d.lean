/- CipherRoundTrip: Open of the result of Seal returns the plain elements. -/
import Derived.Test.YtaklpdhhcnnclaaAwake9
namespace Go.Proofs.Ytaklpdhhcnnclaa
open Go.ChangeShapes Go.WideShapes Go.ChangeAt Go.RowKit
namespace cipherRoundTrip

set_option maxRecDepth 10000 in
set_option maxHeartbeats 4000000 in
theorem walk (key nonce : Int) (ad : Option Addr) (c : Nat) (xs : List Int) (w : World) (hk : (Lit.int .u64 key).wf = true) (hn : (Lit.int .u64 nonce).wf = true) (S : SlP w .u64 ad c xs) :
    Calls Try.prog 19 #[.int .u64 key, .int .u64 nonce, .slice ad xs.length c] w fun e w' => e = .returned (.bool true) ∧ Below w.heap.size w w' := by
  obtain ⟨k0, k1⟩ := wf_u64 hk
  obtain ⟨g0, g1⟩ := wf_u64 hn
  have hs := S.sl
  have hw := wfs_u64 S.wf
  have hlc := S.le
  clear S hk hn
  by_cases h100 : xs.length ≤ 100
  · have cR := fun W hs => rReduced9_any ad c xs W hs (by omega)
    rcases elB_cases key nonce xs with ⟨h1, h2, he⟩ | ⟨h1, h2, _⟩ | ⟨h1, _⟩
    · have q0 : ¬ 18446744069414584321 ≤ key := by omega
      have q1 : ¬ 18446744069414584321 ≤ nonce := by omega
      by_cases hr : redB xs = true
      · rw [hr] at cR he
        have hos := open_seal key nonce xs hw he
        have hlen : Hid ((seal_ key nonce xs).length = xs.length + 1) := hide (by rw [seal_yes he, List.length_append, cOut_len]; rfl)
        have c1 := fun (ad : Option Addr) (c : Nat) (W : World) hs => Seal_any key nonce ad c xs W k0 k1 g0 g1 hs hw (by omega)
        have c2 := fun (ad : Option Addr) (c : Nat) (W : World) hs hlc => Open_any key nonce ad c (seal_ key nonce xs) W k0 k1 g0 g1 hs (seal_W key nonce xs k0 k1 g0 g1 hw) (by have := hlen.out; omega) hlc
        rw [hos.1, hos.2] at c2
        generalize seal_ key nonce xs = r at *
        clear k1 g1 hr he h1 h2 hos hlen
        go_enter Try.func19, Try.ntmps19
        go_wp2_with fail
        refine (awake9 _).mono ?_
        rintro ew1 w1 ⟨rfl, hb1⟩
        go_wp2_with fail
        refine (cR _ (hs.mono hb1)).mono ?_
        rintro e w2 ⟨rfl, hb2⟩
        replace hb2 := below2 hb1 hb2
        clear cR hb1
        go_wp2_with fail
        refine (cp_any ad c xs _ (hs.mono hb2) (by omega)).mono ?_
        rintro ew3 w3 ⟨vw3, rfl, o3, hb3⟩
        obtain ⟨ad3, c3, rfl, s3, _, _⟩ := Own.sl o3
        replace hb3 := below2 hb2 hb3
        clear o3
        go_wp2_with fail
        refine (c1 ad3 c3 w3 s3).mono ?_
        rintro e w4 ⟨v4, rfl, o4, hb4⟩
        obtain ⟨ad4, c4, rfl, s4, l4, _⟩ := Own.sl o4
        replace hb4 := below2 hb3 hb4
        clear o4 c1 s3
        go_wp2_with fail
        refine (c2 ad4 c4 w4 s4 l4).mono ?_
        rintro ew5 w5 ⟨vw5, rfl, o5, hb5⟩
        obtain ⟨ad5, c5, rfl, s5, _, _⟩ := Own.sl o5
        replace hb5 := below2 hb4 hb5
        clear o5 c2 s4
        go_wp2_with fail
        refine (rSame1_any ad5 ad c5 c xs xs w5 s5 (hs.mono hb5) (by omega)).mono ?_
        rintro e w6 ⟨rfl, hb6⟩
        have hd : decide (xs = xs) = true := by simp
        rw [hd]
        go_wp2
        go_ret
        exact ⟨rfl, below2 hb5 hb6⟩
      · replace hr : redB xs = false := by simpa using hr
        rw [hr] at cR
        clear k1 g1 hr he h1 h2
        go_enter Try.func19, Try.ntmps19
        go_wp2_with fail
        refine (awake9 _).mono ?_
        rintro ew1 w1 ⟨rfl, hb1⟩
        go_wp2_with fail
        refine (cR _ (hs.mono hb1)).mono ?_
        rintro e w2 ⟨rfl, hb2⟩
        clear cR
        go_wp2_with fail
        refine (awake9 _).mono ?_
        rintro ew3 w3 ⟨rfl, hb3⟩
        go_wp2
        go_ret
        exact ⟨rfl, below2 (below2 hb1 hb2) hb3⟩
    · have q1 : 18446744069414584321 ≤ nonce := by omega
      have q0 : ¬ 18446744069414584321 ≤ key := by omega
      clear k1 g1
      go_enter Try.func19, Try.ntmps19
      go_wp2_with fail
      refine (awake9 _).mono ?_
      rintro ew1 w1 ⟨rfl, hb1⟩
      go_wp2_with fail
      refine (awake9 _).mono ?_
      rintro ew2 w2 ⟨rfl, hb2⟩
      go_wp2
      go_ret
      exact ⟨rfl, below2 hb1 hb2⟩
    · have q0 : 18446744069414584321 ≤ key := by omega
      clear k1 g1
      go_enter Try.func19, Try.ntmps19
      go_wp2_with fail
      refine (awake9 _).mono ?_
      rintro ew1 w1 ⟨rfl, hb1⟩
      go_wp2_with fail
      refine (awake9 _).mono ?_
      rintro ew2 w2 ⟨rfl, hb2⟩
      go_wp2
      go_ret
      exact ⟨rfl, below2 hb1 hb2⟩
  · have h101 : 100 < xs.length := by omega
    clear k1 g1
    go_enter Try.func19, Try.ntmps19
    go_wp2_with fail
    refine (awake9 _).mono ?_
    rintro ew1 w1 ⟨rfl, hb1⟩
    go_wp2_with fail
    refine (awake9 _).mono ?_
    rintro ew2 w2 ⟨rfl, hb2⟩
    go_wp2
    go_ret
    exact ⟨rfl, below2 hb1 hb2⟩

set_option maxRecDepth 100000 in
theorem lifted (os : Os) (started : os.Started) (H : Type) (enc : TypeId × Value → H) :
    ReturnsInHanded {} Try.checked os 19 .any (Rows.cipherRoundTripSpec.pre6 enc Try.prog Try.f19 Rows.cipherRoundTripRow.domain false) (Rows.cipherRoundTripSpec.post enc Try.prog Try.f19 false true false false) := by
  refine returnsInHanded_of_change (C := Try.checked) own started (by kernel_rfl) Try.func19
    (ChangeSpec.witness6 (enc := enc) (C := Try.checked) false ⟨#[], #[.int .u64 0, .int .u64 0, .slice none 0 0], []⟩ 8 (by kernel_rfl) (by kernel_rfl) (by kernel_rfl) (by kernel_rfl)) ?_
  intro W base args ds gs before hval0 hW hcnd _
  have hval : ∀ (j : Nat) t v, Try.f19.params[j]? = some t → args[j]? = some v → Value.okWide Try.prog W .any base t v := hval0
  have hW' := hW
  obtain ⟨p, q, hA0, hV, rfl, hfz, hnd⟩ := hW
  have hA : DataW.TrodAll enc Try.prog W 0 (fun _ => true) true Try.f19.params.toList args.toList ds p := hA0
  rw [Try.params19] at hA hval
  obtain ⟨v0, vs0, d0, ds0, p0, q0, hargs, rfl, rfl, h0, r0⟩ := trodAll_cons hA
  obtain ⟨v1, vs1, d1, ds1, p1, q1, rfl, rfl, rfl, h1, r1⟩ := trodAll_cons r0
  obtain ⟨v2, vs2, d2, ds2, p2, q2, rfl, rfl, rfl, h2, r2⟩ := trodAll_cons r1
  obtain ⟨rfl, rfl, rfl⟩ := trodAll_nil r2
  obtain rfl : args = #[v0, v1, v2] := by cases args; simp_all
  obtain ⟨rfl, rfl⟩ := trodVars_none hV
  have k2 := h2
  obtain ⟨a0, rfl, rfl, rfl, w0⟩ := open_int Try.underlying22 (hval 0 22 v0 rfl rfl) h0
  obtain ⟨a1, rfl, rfl, rfl, w1⟩ := open_int Try.underlying22 (hval 1 22 v1 rfl rfl) h1
  obtain ⟨ad2, cap2, xs2, rfl, S2⟩ := open_slice Try.underlying31 Try.underlying22 (by kernel_rfl) h2 (hval 2 31 v2 rfl rfl) (fun x hx => hW'.lt x (by simp [hx]))
  clear hA0 hval0
  simp only [List.append_nil] at hW'
  refine (walk a0 a1 ad2 cap2 xs2 W w0 w1 S2).mono fun e W' ⟨he, hg⟩ => ?_
  subst he
  exact ⟨_, rfl, post_of_below (pv := []) hW' (fun _ _ _ => (trodAll_cons_mk (shut_bool Try.underlying4 _) trodAll_mk0))
    (fun sp _ hsp => by subst hsp; exact (trodAll_cons_mk (shut_int Try.underlying22 w0) (trodAll_cons_mk (shut_int Try.underlying22 w1) (trodAll_cons_mk (Below.trod Try.laidOut (by kernel_rfl) (of_decide_eq_true (by kernel_rfl)) k2 hg (fun x hx => hW'.lt x (by simp [hx]))) trodAll_mk0)))) (fun _ _ => rfl) (by simp) hg⟩

theorem closed : joinedFacts Try.prog 19 Try.f19 Rows.cipherRoundTripSpec Rows.cipherRoundTripRow = true := by
  unfold joinedFacts
  rw [Try.mayEnter, Try.liftsFinal, Try.make]
  kernel_rfl

theorem proved : Rows.CipherRoundTripSaid :=
  OpenClaim.holds_of_wide 19 Try.f19 rfl rfl rfl rfl rfl rfl rfl ⟨rfl, rfl, rfl, rfl, rfl⟩ rfl rfl rfl rfl rfl (by kernel_rfl) Try.func19 closed
    (of_decide_eq_true (by kernel_rfl)) (by unfold Func.isWrapper; first | (rw [if_pos (by decide +kernel)]; kernel_rfl) | (rw [if_neg (by decide +kernel)]; exact ⟨rfl, rfl⟩))
    (fun os started H enc _ => lifted os started H enc)
#print axioms proved
end cipherRoundTrip
end Go.Proofs.Ytaklpdhhcnnclaa
