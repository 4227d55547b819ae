/- CipherBijective: Each list of elements, with its tag, is the encryption of the list that Open returns. -/
import Derived.Test.YtaklpdhhcnnclaaAwake9
namespace Go.Proofs.Ytaklpdhhcnnclaa
open Go.ChangeShapes Go.WideShapes Go.ChangeAt Go.RowKit
namespace cipherBijective

set_option maxRecDepth 10000 in
set_option maxHeartbeats 4000000 in
theorem walk (key nonce : Int) (ad : Option Addr) (c : Nat) (xs : List Int) (w : World) (hk : (Lit.int .u64 key).wf = true) (hn : (Lit.int .u64 nonce).wf = true) (S : SlP w .u64 ad c xs) :
    Calls Try.prog 23 #[.int .u64 key, .int .u64 nonce, .slice ad xs.length c] w fun e w' => e = .returned (.bool true) ∧ Below w.heap.size w w' := by
  obtain ⟨k0, k1⟩ := wf_u64 hk
  obtain ⟨g0, g1⟩ := wf_u64 hn
  have hs := S.sl
  have hw := wfs_u64 S.wf
  have hlc := S.le
  clear S hk hn
  by_cases h100 : xs.length ≤ 100
  · have cR := fun W hs => rReduced9_any ad c xs W hs (by omega)
    rcases elB_cases key nonce xs with ⟨h1, h2, he⟩ | ⟨h1, h2, _⟩ | ⟨h1, _⟩
    · have q0 : ¬ 18446744069414584321 ≤ key := by omega
      have q1 : ¬ 18446744069414584321 ≤ nonce := by omega
      by_cases hr : redB xs = true
      · rw [hr] at cR he
        obtain ⟨p1, p2, p3⟩ := seal_open key nonce xs hw he
        have hlen := cOut_len false key nonce xs
        have htb := cTag_bd false key nonce xs k0 k1 g0 g1 hw
        have hlz : Hid ((xs ++ [cTag false key nonce xs]).length = xs.length + 1) := hide (by rw [List.length_append]; rfl)
        have c1 := fun (ad : Option Addr) (c : Nat) (W : World) hs => Tag_any key nonce ad c xs W k0 k1 g0 g1 hs hw (by omega)
        rw [tag_yes he] at c1
        have c2 := fun (ad : Option Addr) (c : Nat) (W : World) hs hlc => Open_any key nonce ad c (xs ++ [cTag false key nonce xs]) W k0 k1 g0 g1 hs (fun a ha => by
          rcases List.mem_append.1 ha with ha | ha
          · exact hw a ha
          · rw [List.mem_singleton.1 ha]; exact htb) (by have := hlz.out; omega) hlc
        rw [p1, p2] at c2
        have c3 := fun (ad : Option Addr) (c : Nat) (W : World) hs => Seal_any key nonce ad c (cOut false key nonce xs) W k0 k1 g0 g1 hs (cOut_W _ _ _ _) (by rw [hlen]; omega)
        rw [p3] at c3
        generalize cOut false key nonce xs = o at *
        generalize cTag false key nonce xs = z at *
        obtain ⟨lz, hlz'⟩ : ∃ lz, lz = xs ++ [z] := ⟨_, rfl⟩
        rw [← hlz'] at hlz c2 c3
        replace hlz' := hide hlz'
        replace hlen := hide hlen
        clear k1 g1 hr he h1 h2 p1 p2 p3 htb
        go_enter Try.func23, Try.ntmps23
        go_wp2_with fail
        refine (awake9 _).mono ?_
        rintro ew1 w1 ⟨rfl, hb1⟩
        go_wp2_with fail
        refine (cR _ (hs.mono hb1)).mono ?_
        rintro e w2 ⟨rfl, hb2⟩
        replace hb2 := below2 hb1 hb2
        clear cR hb1
        go_wp2_with fail
        refine (cp_any ad c xs _ (hs.mono hb2) (by omega)).mono ?_
        rintro e w3 ⟨v3, rfl, o3, hb3⟩
        replace o3 := o3.low hb2.size
        replace hb3 := below2 hb2 hb3
        go_wp2_with fail
        refine (cp_any ad c xs _ (hs.mono hb3) (by omega)).mono ?_
        rintro ew4 w4 ⟨vw4, rfl, o4, hb4⟩
        obtain ⟨ad4, c4, rfl, s4, _, _⟩ := Own.sl o4
        replace o3 := o3.mono hb4
        replace hb4 := below2 hb3 hb4
        clear o4
        go_wp2_with fail
        refine (c1 ad4 c4 w4 s4).mono ?_
        rintro e w5 ⟨rfl, hb5⟩
        replace o3 := o3.mono hb5
        replace hb5 := below2 hb4 hb5
        clear s4 c1
        go_wp2_with (at_builtin; refine wpList_appZ _ 22 .u64 _ rfl _ _ 31 rfl w.heap.size 8 Try.underlying31 Try.infoU64 (by decide) _ xs _ rfl rfl (by simp) o3 (by omega) hb5.size ?_; intro v6 w6 o6 hg; refine Hold.mk ?_)
        refine Hold.go ?_
        have hb6 := hg.below hb5 o3 (Nat.le_refl _) hb5.size
        rw [← hlz'.out] at o6
        clear hg o3 hb5
        obtain ⟨ad6, c6, rfl, s6, _, _⟩ := Own.sl o6
        clear o6
        go_wp2_with fail
        refine (cp_any ad6 c6 lz _ s6 (by have := hlz.out; omega)).mono ?_
        rintro e w7 ⟨v7, rfl, o7, hb7⟩
        obtain ⟨ad7, c7, rfl, s7, l7, _⟩ := Own.sl o7
        replace s6 := s6.mono hb7
        replace hb7 := below2 hb6 hb7
        clear o7
        go_wp2_with fail
        refine (c2 ad7 c7 w7 s7 l7).mono ?_
        rintro ew8 w8 ⟨vw8, rfl, o8, hb8⟩
        obtain ⟨ad8, c8, rfl, s8, _, _⟩ := Own.sl o8
        replace s6 := s6.mono hb8
        replace hb8 := below2 hb7 hb8
        rw [hlen.out]
        have c3' := c3 ad8 c8 w8 s8
        rw [hlen.out] at c3'
        clear o8 c2 c3 s7
        go_wp2_with fail
        refine c3'.mono ?_
        rintro e w9 ⟨v9, rfl, o9, hb9⟩
        obtain ⟨ad9, c9, rfl, s9, _, _⟩ := Own.sl o9
        replace s6 := s6.mono hb9
        replace hb9 := below2 hb8 hb9
        clear o9 c3' s8
        go_wp2_with fail
        refine (rSame1_any ad9 ad6 c9 c6 lz lz w9 s9 s6 (by have := hlz.out; omega)).mono ?_
        rintro e w10 ⟨rfl, hb10⟩
        have hd : decide (lz = lz) = true := by simp
        rw [hd]
        go_wp2
        go_ret
        exact ⟨rfl, below2 hb9 hb10⟩
      · replace hr : redB xs = false := by simpa using hr
        rw [hr] at cR
        clear k1 g1 hr he h1 h2
        go_enter Try.func23, Try.ntmps23
        go_wp2_with fail
        refine (awake9 _).mono ?_
        rintro ew1 w1 ⟨rfl, hb1⟩
        go_wp2_with fail
        refine (cR _ (hs.mono hb1)).mono ?_
        rintro e w2 ⟨rfl, hb2⟩
        clear cR
        go_wp2_with fail
        refine (awake9 _).mono ?_
        rintro ew3 w3 ⟨rfl, hb3⟩
        go_wp2
        go_ret
        exact ⟨rfl, below2 (below2 hb1 hb2) hb3⟩
    · have q1 : 18446744069414584321 ≤ nonce := by omega
      have q0 : ¬ 18446744069414584321 ≤ key := by omega
      clear k1 g1
      go_enter Try.func23, Try.ntmps23
      go_wp2_with fail
      refine (awake9 _).mono ?_
      rintro ew1 w1 ⟨rfl, hb1⟩
      go_wp2_with fail
      refine (awake9 _).mono ?_
      rintro ew2 w2 ⟨rfl, hb2⟩
      go_wp2
      go_ret
      exact ⟨rfl, below2 hb1 hb2⟩
    · have q0 : 18446744069414584321 ≤ key := by omega
      clear k1 g1
      go_enter Try.func23, Try.ntmps23
      go_wp2_with fail
      refine (awake9 _).mono ?_
      rintro ew1 w1 ⟨rfl, hb1⟩
      go_wp2_with fail
      refine (awake9 _).mono ?_
      rintro ew2 w2 ⟨rfl, hb2⟩
      go_wp2
      go_ret
      exact ⟨rfl, below2 hb1 hb2⟩
  · have h101 : 100 < xs.length := by omega
    clear k1 g1
    go_enter Try.func23, Try.ntmps23
    go_wp2_with fail
    refine (awake9 _).mono ?_
    rintro ew1 w1 ⟨rfl, hb1⟩
    go_wp2_with fail
    refine (awake9 _).mono ?_
    rintro ew2 w2 ⟨rfl, hb2⟩
    go_wp2
    go_ret
    exact ⟨rfl, below2 hb1 hb2⟩

set_option maxRecDepth 100000 in
theorem lifted (os : Os) (started : os.Started) (H : Type) (enc : TypeId × Value → H) :
    ReturnsInHanded {} Try.checked os 23 .any (Rows.cipherBijectiveSpec.pre6 enc Try.prog Try.f23 Rows.cipherBijectiveRow.domain false) (Rows.cipherBijectiveSpec.post enc Try.prog Try.f23 false true false false) := by
  refine returnsInHanded_of_change (C := Try.checked) own started (by kernel_rfl) Try.func23
    (ChangeSpec.witness6 (enc := enc) (C := Try.checked) false ⟨#[], #[.int .u64 0, .int .u64 0, .slice none 0 0], []⟩ 8 (by kernel_rfl) (by kernel_rfl) (by kernel_rfl) (by kernel_rfl)) ?_
  intro W base args ds gs before hval0 hW hcnd _
  have hval : ∀ (j : Nat) t v, Try.f23.params[j]? = some t → args[j]? = some v → Value.okWide Try.prog W .any base t v := hval0
  have hW' := hW
  obtain ⟨p, q, hA0, hV, rfl, hfz, hnd⟩ := hW
  have hA : DataW.TrodAll enc Try.prog W 0 (fun _ => true) true Try.f23.params.toList args.toList ds p := hA0
  rw [Try.params23] at hA hval
  obtain ⟨v0, vs0, d0, ds0, p0, q0, hargs, rfl, rfl, h0, r0⟩ := trodAll_cons hA
  obtain ⟨v1, vs1, d1, ds1, p1, q1, rfl, rfl, rfl, h1, r1⟩ := trodAll_cons r0
  obtain ⟨v2, vs2, d2, ds2, p2, q2, rfl, rfl, rfl, h2, r2⟩ := trodAll_cons r1
  obtain ⟨rfl, rfl, rfl⟩ := trodAll_nil r2
  obtain rfl : args = #[v0, v1, v2] := by cases args; simp_all
  obtain ⟨rfl, rfl⟩ := trodVars_none hV
  have k2 := h2
  obtain ⟨a0, rfl, rfl, rfl, w0⟩ := open_int Try.underlying22 (hval 0 22 v0 rfl rfl) h0
  obtain ⟨a1, rfl, rfl, rfl, w1⟩ := open_int Try.underlying22 (hval 1 22 v1 rfl rfl) h1
  obtain ⟨ad2, cap2, xs2, rfl, S2⟩ := open_slice Try.underlying31 Try.underlying22 (by kernel_rfl) h2 (hval 2 31 v2 rfl rfl) (fun x hx => hW'.lt x (by simp [hx]))
  clear hA0 hval0
  simp only [List.append_nil] at hW'
  refine (walk a0 a1 ad2 cap2 xs2 W w0 w1 S2).mono fun e W' ⟨he, hg⟩ => ?_
  subst he
  exact ⟨_, rfl, post_of_below (pv := []) hW' (fun _ _ _ => (trodAll_cons_mk (shut_bool Try.underlying4 _) trodAll_mk0))
    (fun sp _ hsp => by subst hsp; exact (trodAll_cons_mk (shut_int Try.underlying22 w0) (trodAll_cons_mk (shut_int Try.underlying22 w1) (trodAll_cons_mk (Below.trod Try.laidOut (by kernel_rfl) (of_decide_eq_true (by kernel_rfl)) k2 hg (fun x hx => hW'.lt x (by simp [hx]))) trodAll_mk0)))) (fun _ _ => rfl) (by simp) hg⟩

theorem closed : joinedFacts Try.prog 23 Try.f23 Rows.cipherBijectiveSpec Rows.cipherBijectiveRow = true := by
  unfold joinedFacts
  rw [Try.mayEnter, Try.liftsFinal, Try.make]
  kernel_rfl

theorem proved : Rows.CipherBijectiveSaid :=
  OpenClaim.holds_of_wide 23 Try.f23 rfl rfl rfl rfl rfl rfl rfl ⟨rfl, rfl, rfl, rfl, rfl⟩ rfl rfl rfl rfl rfl (by kernel_rfl) Try.func23 closed
    (of_decide_eq_true (by kernel_rfl)) (by unfold Func.isWrapper; first | (rw [if_pos (by decide +kernel)]; kernel_rfl) | (rw [if_neg (by decide +kernel)]; exact ⟨rfl, rfl⟩))
    (fun os started H enc _ => lifted os started H enc)
#print axioms proved
end cipherBijective
end Go.Proofs.Ytaklpdhhcnnclaa
