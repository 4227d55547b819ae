/- CipherInjective: Seal returns equal lists, with one key and nonce, only for equal lists. -/
import Derived.Test.YtaklpdhhcnnclaaAwake9
namespace Go.Proofs.Ytaklpdhhcnnclaa
open Go.ChangeShapes Go.WideShapes Go.ChangeAt Go.RowKit
namespace cipherInjective

set_option maxRecDepth 10000 in
set_option maxHeartbeats 8000000 in
theorem walk (key nonce : Int) (ad : Option Addr) (c : Nat) (xs : List Int) (bd : Option Addr) (d : Nat) (ys : List Int) (w : World) (hk : 0 ≤ key ∧ key < 18446744073709551616) (hn : 0 ≤ nonce ∧ nonce < 18446744073709551616) (S : SlP w .u64 ad c xs) (T : SlP w .u64 bd d ys) :
    Calls Try.prog 20 #[.agg #[.int .u64 key, .int .u64 nonce], .slice ad xs.length c, .slice bd ys.length d] w fun e w' => e = .returned (.bool true) ∧ Below w.heap.size w w' := by
  obtain ⟨k0, k1⟩ := hk
  obtain ⟨g0, g1⟩ := hn
  have hs := S.sl
  have hw := wfs_u64 S.wf
  have ht := T.sl
  have hv := wfs_u64 T.wf
  clear S T
  have cA : ∀ (W : World), xs.length ≤ 100 → Sl W .u64 ad xs → _ := fun W hl hs => rReduced9_any ad c xs W hs (by omega)
  have cB : ∀ (W : World), ys.length ≤ 100 → Sl W .u64 bd ys → _ := fun W hl hs => rReduced9_any bd d ys W hs (by omega)
  by_cases hx : xs.length ≤ 100
  · by_cases hy : ys.length ≤ 100
    · have c1 := fun (ad : Option Addr) (c : Nat) (W : World) hs => Seal_any key nonce ad c xs W k0 k1 g0 g1 hs hw (by omega)
      have c2 := fun (ad : Option Addr) (c : Nat) (W : World) hs => Seal_any key nonce ad c ys W k0 k1 g0 g1 hs hv (by omega)
      replace cA := fun W => cA W hx
      replace cB := fun W => cB W hy
      go_enter Try.func20, Try.ntmps20
      go_wp2_with fail
      refine name_calls fun W hW => ?_
      have gk : Blk W w.heap.size #[.int .u64 key, .int .u64 nonce] 52 := by rw [hW]; exact Blk.newAt rfl
      have hB : Below w.heap.size w W := by rw [hW]; exact (Below.refl _ _).alloc (Nat.le_refl _) _
      clear hW
      refine (awake9 W).mono ?_
      rintro e w1 ⟨rfl, hb1⟩
      replace hB := below2 hB hb1
      replace gk := gk.mono hb1
      have z0 := gk.cell (j := 0) (v := .int .u64 key) rfl; have z1 := gk.cell (j := 1) (v := .int .u64 nonce) rfl
      clear hb1
      by_cases h1 : key < 18446744069414584321
      · have p1 : ¬ 18446744069414584321 ≤ key := by omega
        by_cases h2 : nonce < 18446744069414584321
        · have p2 : ¬ 18446744069414584321 ≤ nonce := by omega
          clear k1 g1
          go_wp2_with fail
          refine (cA _ (hs.mono hB)).mono ?_
          rintro e w2 ⟨rfl, hb2⟩
          replace hB := below2 hB hb2
          replace gk := gk.mono hb2
          clear cA z0 z1 hb2
          by_cases hr : redB xs = true
          · rw [hr]
            go_wp2_with fail
            refine (cB _ (ht.mono hB)).mono ?_
            rintro e w3 ⟨rfl, hb3⟩
            replace hB := below2 hB hb3
            replace gk := gk.mono hb3
            clear cB hb3
            by_cases hq : redB ys = true
            · rw [hq]
              have ex : elB key nonce xs = true := (elB_iff _ _ _).2 ⟨h1, h2, hr⟩
              have ey : elB key nonce ys = true := (elB_iff _ _ _).2 ⟨h1, h2, hq⟩
              have hinj := seal_inj key nonce xs ys hw hv ex ey
              have hl1 : Hid ((seal_ key nonce xs).length < 1099511627776) := hide (by rw [seal_yes ex, List.length_append, cOut_len]; simp; omega)
              generalize seal_ key nonce xs = r at *
              generalize seal_ key nonce ys = s at *
              obtain ⟨q, hq'⟩ : ∃ q, q = decide (xs = ys) := ⟨_, rfl⟩
              have hq2 : decide (r = s) = q := by rw [hq']; exact decide_eq_decide.2 hinj
              have c3 : ∀ (ad bd : Option Addr) (c d : Nat) (W : World), Sl W .u64 ad r → Sl W .u64 bd s → Calls Try.prog 50 #[.slice ad r.length c, .slice bd s.length d] W fun e w' => e = .returned (.bool q) ∧ Below W.heap.size W w' := fun ad bd c d W h1 h2 => by
                rw [← hq2]; exact rSame1_any ad bd c d r s W h1 h2 hl1.out
              have c4 : ∀ p' : Later, Calls Try.prog 50 #[.slice ad xs.length c, .slice bd ys.length d] (later w3 p') fun e w' => e = .returned (.bool q) ∧ Below (later w3 p').heap.size (later w3 p') w' := fun p' => by
                rw [hq']; exact rSame1_any ad bd c d xs ys _ ((hs.mono hB).mono (below_later _ _)) ((ht.mono hB).mono (below_later _ _)) (by omega)
              have hqq : (q == q) = true := by simp
              clear hq' hq2 hinj hl1 ex ey
              replace hr := hide hr
              replace hq := hide hq
              go_wp2_with fail
              have q0 := cell_later' (gk.cell (j := 0) (v := .int .u64 key) rfl); have q1 := cell_later' (gk.cell (j := 1) (v := .int .u64 nonce) rfl)
              refine Rel.wp_region_mix 18 [] [(5, fun v w => Own w w3.heap.size 22 .u64 v xs), (6, fun v w => Own w w3.heap.size 22 .u64 v r), (12, fun v w => Own w w3.heap.size 22 .u64 v ys), (13, fun v w => Own w w3.heap.size 22 .u64 v s), (14, fun v _ => v = .bool q)] Try.mixed (by kernel_rfl) (by kernel_rfl) ?_ ?_
              rotate_left
              simp only [List.take_succ_cons, List.take_zero, List.drop_succ_cons, List.drop_zero, List.map_cons, List.map_nil]
              repeat (first | (refine Rel.wpA_b (by rfl) ?_) | (refine Rel.wpA_step (by rfl) fun K hK => ?_; go_simp; first | (refine hK _ ?_; clear hK K) | (apply Exists.intro; refine ⟨fun _ => ?_, hK _ ?_⟩; (first | (go_at_call 50; exact c4 _)); clear hK K)))
              refine Rel.wpA_nil ?_
              rotate_left
              · intro z hz v u u' h1 h2
                simp only [List.mem_cons, List.not_mem_nil, or_false] at hz
                rcases hz with rfl | rfl | rfl | rfl | rfl
                · exact Own.mono h1 h2
                · exact Own.mono h1 h2
                · exact Own.mono h1 h2
                · exact Own.mono h1 h2
                · exact h1
              refine Rel.wpB_step _ rfl rfl (fun p' hc => ?_) (fun v5 => ?_)
              · go_simp
                exact rUpon_sl (cp_any ad c xs _ ((hs.mono hB).mono (below_later _ _)) (by omega))
              refine Rel.wpB_step _ rfl rfl (fun p' hc => ?_) (fun v6 => ?_)
              · have h5 := hc _ (List.Mem.head _) (by kernel_rfl)
                obtain ⟨ad', c', rfl, hsl, _, _⟩ := Own.sl h5
                go_simp
                exact rUpon_sl (c1 _ _ _ hsl)
              refine Rel.wpB_step _ rfl rfl (fun p' hc => ?_) (fun v12 => ?_)
              · go_simp
                exact rUpon_sl (cp_any bd d ys _ ((ht.mono hB).mono (below_later _ _)) (by omega))
              refine Rel.wpB_step _ rfl rfl (fun p' hc => ?_) (fun v13 => ?_)
              · have h5 := hc _ (List.Mem.tail _ (List.Mem.tail _ (List.Mem.head _))) (by kernel_rfl)
                obtain ⟨ad', c', rfl, hsl, _, _⟩ := Own.sl h5
                go_simp
                exact rUpon_sl (c2 _ _ _ hsl)
              refine Rel.wpB_step _ rfl rfl (fun p' hc => ?_) (fun v14 => ?_)
              · have h5 := hc _ (List.Mem.tail _ (List.Mem.head _)) (by kernel_rfl)
                have h6 := hc _ (List.Mem.tail _ (List.Mem.tail _ (List.Mem.tail _ (List.Mem.head _)))) (by kernel_rfl)
                obtain ⟨ad', c', rfl, hsl, _, _⟩ := Own.sl h5
                obtain ⟨ad2', c2', rfl, hsl2, _, _⟩ := Own.sl h6
                go_simp
                exact rUpon_q (c3 _ _ _ _ _ hsl hsl2)
              refine Rel.wpB_nil ?_
              intro p' hctx hfr
              simp only [List.nil_append, List.cons_append, List.mem_cons, List.not_mem_nil, or_false, forall_eq_or_imp, forall_eq] at hctx
              obtain ⟨_, _, _, _, rfl⟩ := hctx
              have hb4 := below2 hB (below_later w3 p')
              clear hfr c1 c2 c3 c4 q0 q1
              generalize later w3 p' = w4 at *
              go_wp2
              go_ret
              exact ⟨rfl, hb4⟩
            · replace hq : redB ys = false := by simpa using hq
              rw [hq]
              replace hr := hide hr
              replace hq := hide hq
              go_wp2_with fail
              refine (awake9 _).mono ?_
              rintro ew4 w4 ⟨rfl, hb4⟩
              go_wp2
              go_ret
              exact ⟨rfl, below2 hB hb4⟩
          · replace hr : redB xs = false := by simpa using hr
            rw [hr]
            replace hr := hide hr
            go_wp2_with fail
            refine (awake9 _).mono ?_
            rintro ew4 w4 ⟨rfl, hb4⟩
            go_wp2
            go_ret
            exact ⟨rfl, below2 hB hb4⟩
        · have p2 : 18446744069414584321 ≤ nonce := by omega
          clear k1 g1
          go_wp2_with fail
          refine (awake9 _).mono ?_
          rintro ew4 w4 ⟨rfl, hb4⟩
          go_wp2
          go_ret
          exact ⟨rfl, below2 hB hb4⟩
      · have p1 : 18446744069414584321 ≤ key := by omega
        clear k1 g1
        go_wp2_with fail
        refine (awake9 _).mono ?_
        rintro ew4 w4 ⟨rfl, hb4⟩
        go_wp2
        go_ret
        exact ⟨rfl, below2 hB hb4⟩
    · have h101 : 100 < ys.length := by omega
      clear k1 g1 cA cB
      go_enter Try.func20, Try.ntmps20
      go_wp2_with fail
      refine name_calls fun W hW => ?_
      have hB : Below w.heap.size w W := by rw [hW]; exact (Below.refl _ _).alloc (Nat.le_refl _) _
      clear hW
      refine (awake9 W).mono ?_
      rintro e w1 ⟨rfl, hb1⟩
      go_wp2_with fail
      refine (awake9 _).mono ?_
      rintro ew2 w2 ⟨rfl, hb2⟩
      go_wp2
      go_ret
      exact ⟨rfl, below2 (below2 hB hb1) hb2⟩
  · have h101 : 100 < xs.length := by omega
    clear k1 g1 cA cB
    go_enter Try.func20, Try.ntmps20
    go_wp2_with fail
    refine name_calls fun W hW => ?_
    have hB : Below w.heap.size w W := by rw [hW]; exact (Below.refl _ _).alloc (Nat.le_refl _) _
    clear hW
    refine (awake9 W).mono ?_
    rintro e w1 ⟨rfl, hb1⟩
    go_wp2_with fail
    refine (awake9 _).mono ?_
    rintro ew2 w2 ⟨rfl, hb2⟩
    go_wp2
    go_ret
    exact ⟨rfl, below2 (below2 hB hb1) hb2⟩

set_option maxRecDepth 100000 in
theorem lifted (os : Os) (started : os.Started) (H : Type) (enc : TypeId × Value → H) :
    ReturnsInHanded {} Try.checked os 20 .any (Rows.cipherInjectiveSpec.pre6 enc Try.prog Try.f20 Rows.cipherInjectiveRow.domain false) (Rows.cipherInjectiveSpec.post enc Try.prog Try.f20 false true false false) := by
  refine returnsInHanded_of_change (C := Try.checked) own started (by kernel_rfl) Try.func20
    (ChangeSpec.witness6 (enc := enc) (C := Try.checked) false ⟨#[], #[.agg #[.int .u64 0, .int .u64 0], .slice none 0 0, .slice none 0 0], []⟩ 8 (by kernel_rfl) (by kernel_rfl) (by kernel_rfl) (by kernel_rfl)) ?_
  intro W base args ds gs before hval0 hW hcnd _
  have hval : ∀ (j : Nat) t v, Try.f20.params[j]? = some t → args[j]? = some v → Value.okWide Try.prog W .any base t v := hval0
  have hW' := hW
  obtain ⟨p, q, hA0, hV, rfl, hfz, hnd⟩ := hW
  have hA : DataW.TrodAll enc Try.prog W 0 (fun _ => true) true Try.f20.params.toList args.toList ds p := hA0
  rw [Try.params20] at hA hval
  obtain ⟨v0, vs0, d0, ds0, p0, q0, hargs, rfl, rfl, h0, r0⟩ := trodAll_cons hA
  obtain ⟨v1, vs1, d1, ds1, p1, q1, rfl, rfl, rfl, h1, r1⟩ := trodAll_cons r0
  obtain ⟨v2, vs2, d2, ds2, p2, q2, rfl, rfl, rfl, h2, r2⟩ := trodAll_cons r1
  obtain ⟨rfl, rfl, rfl⟩ := trodAll_nil r2
  obtain rfl : args = #[v0, v1, v2] := by cases args; simp_all
  obtain ⟨rfl, rfl⟩ := trodVars_none hV
  have k0 := h0
  have k1 := h1
  have k2 := h2
  obtain ⟨a0, b0, rfl, rfl, rfl, wa0, wb0⟩ := open_arr2 Try.underlying52 Try.underlying22 (by kernel_rfl) (by kernel_rfl) (hval 0 52 v0 rfl rfl) h0
  obtain ⟨ad1, cap1, xs1, rfl, S1⟩ := open_slice Try.underlying31 Try.underlying22 (by kernel_rfl) h1 (hval 1 31 v1 rfl rfl) (fun x hx => hW'.lt x (by simp [hx]))
  obtain ⟨ad2, cap2, xs2, rfl, S2⟩ := open_slice Try.underlying31 Try.underlying22 (by kernel_rfl) h2 (hval 2 31 v2 rfl rfl) (fun x hx => hW'.lt x (by simp [hx]))
  clear hA0 hval0
  simp only [List.append_nil] at hW'
  refine (walk a0 b0 ad1 cap1 xs1 ad2 cap2 xs2 W (wf_u64 wa0) (wf_u64 wb0) S1 S2).mono fun e W' ⟨he, hg⟩ => ?_
  subst he
  exact ⟨_, rfl, post_of_below (pv := []) hW' (fun _ _ _ => (trodAll_cons_mk (shut_bool Try.underlying4 _) trodAll_mk0))
    (fun sp _ hsp => by subst hsp; exact (trodAll_cons_mk (Below.trod Try.laidOut (by kernel_rfl) (of_decide_eq_true (by kernel_rfl)) k0 hg (fun x hx => by cases hx)) (trodAll_cons_mk (Below.trod Try.laidOut (by kernel_rfl) (of_decide_eq_true (by kernel_rfl)) k1 hg (fun x hx => hW'.lt x (by simp [hx]))) (trodAll_cons_mk (Below.trod Try.laidOut (by kernel_rfl) (of_decide_eq_true (by kernel_rfl)) k2 hg (fun x hx => hW'.lt x (by simp [hx]))) trodAll_mk0)))) (fun _ _ => rfl) (by simp) hg⟩

theorem closed : joinedFacts Try.prog 20 Try.f20 Rows.cipherInjectiveSpec Rows.cipherInjectiveRow = true := by
  unfold joinedFacts
  rw [Try.mayEnter, Try.liftsFinal, Try.make]
  kernel_rfl

theorem proved : Rows.CipherInjectiveSaid :=
  OpenClaim.holds_of_wide 20 Try.f20 rfl rfl rfl rfl rfl rfl rfl ⟨rfl, rfl, rfl, rfl, rfl⟩ rfl rfl rfl rfl rfl (by kernel_rfl) Try.func20 closed
    (of_decide_eq_true (by kernel_rfl)) (by unfold Func.isWrapper; first | (rw [if_pos (by decide +kernel)]; kernel_rfl) | (rw [if_neg (by decide +kernel)]; exact ⟨rfl, rfl⟩))
    (fun os started H enc _ => lifted os started H enc)
#print axioms proved
end cipherInjective
end Go.Proofs.Ytaklpdhhcnnclaa
