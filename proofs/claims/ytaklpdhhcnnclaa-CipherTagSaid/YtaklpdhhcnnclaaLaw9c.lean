/- CipherTag: Tag returns the tag of any encrypted elements, which Seal appends. -/
import Derived.Test.YtaklpdhhcnnclaaAwake9
namespace Go.Proofs.Ytaklpdhhcnnclaa
open Go.ChangeShapes Go.WideShapes Go.ChangeAt Go.RowKit
namespace cipherTag

set_option maxRecDepth 10000 in
set_option maxHeartbeats 4000000 in
theorem walk (key nonce : Int) (ad : Option Addr) (c : Nat) (xs : List Int) (w : World) (hk : (Lit.int .u64 key).wf = true) (hn : (Lit.int .u64 nonce).wf = true) (S : SlP w .u64 ad c xs) :
    Calls Try.prog 22 #[.int .u64 key, .int .u64 nonce, .slice ad xs.length c] w fun e w' => e = .returned (.bool true) ∧ Below w.heap.size w w' := by
  obtain ⟨k0, k1⟩ := wf_u64 hk
  obtain ⟨g0, g1⟩ := wf_u64 hn
  have hs := S.sl
  have hw := wfs_u64 S.wf
  have hlc := S.le
  clear S hk hn
  by_cases h100 : xs.length ≤ 100
  · have c1 := fun (ad : Option Addr) (c : Nat) (W : World) hs => Tag_any key nonce ad c xs W k0 k1 g0 g1 hs hw (by omega)
    have c2 := fun (W : World) hs => rTag_any key nonce ad c xs W k0 k1 g0 g1 hs hw (by omega)
    have c3 := fun (ad : Option Addr) (c : Nat) (W : World) hs => Seal_any key nonce ad c xs W k0 k1 g0 g1 hs hw (by omega)
    have hbr : elB key nonce xs = false ∨ elB key nonce xs = true := by cases elB key nonce xs <;> simp
    rcases hbr with he | he
    · rw [seal_no he] at c3
      obtain ⟨t, ht⟩ : ∃ t, t = tag_ key nonce xs := ⟨_, rfl⟩
      rw [← ht] at c1 c2
      clear ht he k1 g1
      go_enter Try.func22, Try.ntmps22
      go_wp2_with fail
      refine (awake9 _).mono ?_
      rintro ew1 w1 ⟨rfl, hb1⟩
      go_wp2_with fail
      refine (cp_any ad c xs _ (hs.mono hb1) (by omega)).mono ?_
      rintro ew2 w2 ⟨vw2, rfl, o2, hb2⟩
      obtain ⟨ad2, c2', rfl, s2, _, _⟩ := Own.sl o2
      replace hb2 := below2 hb1 hb2
      clear o2
      go_wp2_with fail
      refine (c1 ad2 c2' w2 s2).mono ?_
      rintro e w3 ⟨rfl, hb3⟩
      replace hb3 := below2 hb2 hb3
      clear c1 s2
      go_wp2_with fail
      refine (c2 w3 (hs.mono hb3)).mono ?_
      rintro e w4 ⟨rfl, hb4⟩
      replace hb4 := below2 hb3 hb4
      clear c2
      go_wp2_with fail
      refine (cp_any ad c xs _ (hs.mono hb4) (by omega)).mono ?_
      rintro ew5 w5 ⟨vw5, rfl, o5, hb5⟩
      obtain ⟨ad5, c5, rfl, s5, _, _⟩ := Own.sl o5
      replace hb5 := below2 hb4 hb5
      clear o5
      go_wp2_with fail
      refine (c3 ad5 c5 w5 s5).mono ?_
      rintro ew6 w6 ⟨vw6, rfl, o6, hb6⟩
      obtain ⟨ad6, c6, rfl, s6, _, _⟩ := Own.sl o6
      replace hb6 := below2 hb5 hb6
      clear o6 s5 c3 s6
      go_wp2_with fail
      refine wp_region_later Try.mixed (by kernel_rfl) ?_
      repeat (first | go_big_quiet_step (first | fail) | quiet_step (first | fail))
      refine wpQuiet_nil ?_
      intro w7 hb7
      replace hb7 := below_of_later hb7
      go_wp2
      go_ret
      exact ⟨rfl, below2 hb6 hb7⟩
    · rw [seal_yes he] at c3
      have hu := cl_undo true key nonce xs hw ((elB_iff _ _ _).1 he).2.2
      have hlen := cOut_len true key nonce xs
      have hel : elB key nonce (cOut true key nonce xs) = true := (elB_iff _ _ _).2 ⟨((elB_iff _ _ _).1 he).1, ((elB_iff _ _ _).1 he).2.1, cl_red _ _ _ _ _⟩
      have c4 := fun (ad : Option Addr) (c : Nat) (W : World) hs => Tag_any key nonce ad c (cOut true key nonce xs) W k0 k1 g0 g1 hs (cOut_W _ _ _ _) (by rw [hlen]; omega)
      have htag : tag_ key nonce (cOut true key nonce xs) = cTag true key nonce xs := by rw [tag_yes hel]; exact hu.2
      rw [htag, hlen] at c4
      obtain ⟨t, ht⟩ : ∃ t, t = tag_ key nonce xs := ⟨_, rfl⟩
      obtain ⟨z, hz⟩ : ∃ z, z = cTag true key nonce xs := ⟨_, rfl⟩
      obtain ⟨l, hl⟩ : ∃ l, l = cOut true key nonce xs := ⟨_, rfl⟩
      rw [← ht] at c1 c2
      rw [← hz, ← hl] at c3 c4
      rw [← hl] at hlen
      have hlen1 : Hid ((l ++ [z]).length = xs.length + 1) := hide (by rw [List.length_append, hlen]; rfl)
      have htk : (l ++ [z]).take xs.length = l := by rw [← hlen]; simp
      have hlast : (l ++ [z]).getD xs.length 0 = z := by rw [← hlen]; simp [List.getD_eq_getElem?_getD]
      obtain ⟨lz, hlz⟩ : ∃ lz, lz = l ++ [z] := ⟨_, rfl⟩
      rw [← hlz] at c3 hlen1 htk hlast
      obtain ⟨n, hn⟩ : ∃ n, n = xs.length := ⟨_, rfl⟩
      rw [← hn] at c4 hlen1 htk hlast
      replace htk := hide htk
      replace hlast := hide hlast
      replace hn := hide hn
      clear ht he k1 g1 hz hl hu hel htag hlen hlz
      go_enter Try.func22, Try.ntmps22
      go_wp2_with fail
      refine (awake9 _).mono ?_
      rintro ew1 w1 ⟨rfl, hb1⟩
      go_wp2_with fail
      refine (cp_any ad c xs _ (hs.mono hb1) (by omega)).mono ?_
      rintro ew2 w2 ⟨vw2, rfl, o2, hb2⟩
      obtain ⟨ad2, c2', rfl, s2, _, _⟩ := Own.sl o2
      replace hb2 := below2 hb1 hb2
      clear o2
      go_wp2_with fail
      refine (c1 ad2 c2' w2 s2).mono ?_
      rintro e w3 ⟨rfl, hb3⟩
      replace hb3 := below2 hb2 hb3
      clear c1 s2
      go_wp2_with fail
      refine (c2 w3 (hs.mono hb3)).mono ?_
      rintro e w4 ⟨rfl, hb4⟩
      replace hb4 := below2 hb3 hb4
      clear c2
      go_wp2_with fail
      refine (cp_any ad c xs _ (hs.mono hb4) (by omega)).mono ?_
      rintro ew5 w5 ⟨vw5, rfl, o5, hb5⟩
      obtain ⟨ad5, c5, rfl, s5, _, _⟩ := Own.sl o5
      replace hb5 := below2 hb4 hb5
      clear o5
      go_wp2_with fail
      refine (c3 ad5 c5 w5 s5).mono ?_
      rintro e w6 ⟨v6, rfl, o6, hb6⟩
      obtain ⟨g, cap, rfl, _⟩ := o6.open_ hlen1.out (by omega)
      replace hb6 := below2 hb5 hb6
      have hcl := o6.len.2
      have y0 := o6.cell (j := n) (by omega)
      rw [hlast.out] at y0
      replace y0 := cell_later' y0
      have s6 := o6.take n
      rw [htk.out] at s6
      have hnn := hn.out
      have f2 : ((n : Int) + 1 - 1) = n := by omega
      have f3 : n ≤ cap := by omega
      have hn100 : n ≤ 100 := by omega
      have f4 : ((n : Int) + 1 == 0) = false := by rw [beq_eq_false_iff_ne]; omega
      have cT : ∀ p' : Later, Calls Try.prog 57 #[.int .u64 key, .int .u64 nonce, .slice (some ⟨g, 0, none⟩) n cap] (later w6 p') fun e w' => e = .returned (.int .u64 z) ∧ Below (later w6 p').heap.size (later w6 p') w' := fun p' => c4 _ _ _ (s6.mono (below_later _ _))
      clear o6 s5 c3 s6 hnn
      go_wp2_with fail
      refine wp_region_later Try.mixed (by kernel_rfl) ?_
      repeat (first | go_big_quiet_step (first | (go_at_call 57; exact Calls.later_of (cT _))) | quiet_step (first | (go_at_call 57; exact Calls.later_of (cT _))))
      refine wpQuiet_nil ?_
      intro w7 hb7
      replace hb7 := below_of_later hb7
      go_wp2
      go_ret
      exact ⟨rfl, below2 hb6 hb7⟩
  · have h101 : 100 < xs.length := by omega
    clear k1 g1
    go_enter Try.func22, Try.ntmps22
    go_wp2_with fail
    refine (awake9 _).mono ?_
    rintro ew1 w1 ⟨rfl, hb1⟩
    go_wp2_with fail
    refine (awake9 _).mono ?_
    rintro ew2 w2 ⟨rfl, hb2⟩
    go_wp2
    go_ret
    exact ⟨rfl, below2 hb1 hb2⟩

set_option maxRecDepth 100000 in
theorem lifted (os : Os) (started : os.Started) (H : Type) (enc : TypeId × Value → H) :
    ReturnsInHanded {} Try.checked os 22 .any (Rows.cipherTagSpec.pre6 enc Try.prog Try.f22 Rows.cipherTagRow.domain false) (Rows.cipherTagSpec.post enc Try.prog Try.f22 false true false false) := by
  refine returnsInHanded_of_change (C := Try.checked) own started (by kernel_rfl) Try.func22
    (ChangeSpec.witness6 (enc := enc) (C := Try.checked) false ⟨#[], #[.int .u64 0, .int .u64 0, .slice none 0 0], []⟩ 8 (by kernel_rfl) (by kernel_rfl) (by kernel_rfl) (by kernel_rfl)) ?_
  intro W base args ds gs before hval0 hW hcnd _
  have hval : ∀ (j : Nat) t v, Try.f22.params[j]? = some t → args[j]? = some v → Value.okWide Try.prog W .any base t v := hval0
  have hW' := hW
  obtain ⟨p, q, hA0, hV, rfl, hfz, hnd⟩ := hW
  have hA : DataW.TrodAll enc Try.prog W 0 (fun _ => true) true Try.f22.params.toList args.toList ds p := hA0
  rw [Try.params22] at hA hval
  obtain ⟨v0, vs0, d0, ds0, p0, q0, hargs, rfl, rfl, h0, r0⟩ := trodAll_cons hA
  obtain ⟨v1, vs1, d1, ds1, p1, q1, rfl, rfl, rfl, h1, r1⟩ := trodAll_cons r0
  obtain ⟨v2, vs2, d2, ds2, p2, q2, rfl, rfl, rfl, h2, r2⟩ := trodAll_cons r1
  obtain ⟨rfl, rfl, rfl⟩ := trodAll_nil r2
  obtain rfl : args = #[v0, v1, v2] := by cases args; simp_all
  obtain ⟨rfl, rfl⟩ := trodVars_none hV
  have k2 := h2
  obtain ⟨a0, rfl, rfl, rfl, w0⟩ := open_int Try.underlying22 (hval 0 22 v0 rfl rfl) h0
  obtain ⟨a1, rfl, rfl, rfl, w1⟩ := open_int Try.underlying22 (hval 1 22 v1 rfl rfl) h1
  obtain ⟨ad2, cap2, xs2, rfl, S2⟩ := open_slice Try.underlying31 Try.underlying22 (by kernel_rfl) h2 (hval 2 31 v2 rfl rfl) (fun x hx => hW'.lt x (by simp [hx]))
  clear hA0 hval0
  simp only [List.append_nil] at hW'
  refine (walk a0 a1 ad2 cap2 xs2 W w0 w1 S2).mono fun e W' ⟨he, hg⟩ => ?_
  subst he
  exact ⟨_, rfl, post_of_below (pv := []) hW' (fun _ _ _ => (trodAll_cons_mk (shut_bool Try.underlying4 _) trodAll_mk0))
    (fun sp _ hsp => by subst hsp; exact (trodAll_cons_mk (shut_int Try.underlying22 w0) (trodAll_cons_mk (shut_int Try.underlying22 w1) (trodAll_cons_mk (Below.trod Try.laidOut (by kernel_rfl) (of_decide_eq_true (by kernel_rfl)) k2 hg (fun x hx => hW'.lt x (by simp [hx]))) trodAll_mk0)))) (fun _ _ => rfl) (by simp) hg⟩

theorem closed : joinedFacts Try.prog 22 Try.f22 Rows.cipherTagSpec Rows.cipherTagRow = true := by
  unfold joinedFacts
  rw [Try.mayEnter, Try.liftsFinal, Try.make]
  kernel_rfl

theorem proved : Rows.CipherTagSaid :=
  OpenClaim.holds_of_wide 22 Try.f22 rfl rfl rfl rfl rfl rfl rfl ⟨rfl, rfl, rfl, rfl, rfl⟩ rfl rfl rfl rfl rfl (by kernel_rfl) Try.func22 closed
    (of_decide_eq_true (by kernel_rfl)) (by unfold Func.isWrapper; first | (rw [if_pos (by decide +kernel)]; kernel_rfl) | (rw [if_neg (by decide +kernel)]; exact ⟨rfl, rfl⟩))
    (fun os started H enc _ => lifted os started H enc)
#print axioms proved
end cipherTag
end Go.Proofs.Ytaklpdhhcnnclaa
