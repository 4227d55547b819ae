/- CipherForgedTag: With any other tag, Open returns false. -/
import Derived.Test.YtaklpdhhcnnclaaAwake9
namespace Go.Proofs.Ytaklpdhhcnnclaa
open Go.ChangeShapes Go.WideShapes Go.ChangeAt Go.RowKit
namespace cipherForgedTag

/-- Any other tag is refused. -/
theorem forged {key nonce : Int} {xs : List Int} (hw : AllW xs) (he : elB key nonce xs = true) {t : Int} (ht : ¬ cTag true key nonce xs = t) : openOk key nonce (cOut true key nonce xs ++ [t]) = false := by
  have hu := cl_undo true key nonce xs hw ((elB_iff _ _ _).1 he).2.2
  have hu2 : cTag false key nonce (cOut true key nonce xs) = cTag true key nonce xs := hu.2
  rw [(open_snoc key nonce _ _).1, hu2, decide_eq_false ht, Bool.and_false]

set_option maxRecDepth 10000 in
set_option maxHeartbeats 4000000 in
theorem walk (key nonce : Int) (ad : Option Addr) (c : Nat) (xs : List Int) (t : Int) (w : World) (hk : 0 ≤ key ∧ key < 18446744073709551616) (hn : 0 ≤ nonce ∧ nonce < 18446744073709551616) (S : SlP w .u64 ad c xs) (ht : (Lit.int .u64 t).wf = true) :
    Calls Try.prog 21 #[.agg #[.int .u64 key, .int .u64 nonce], .slice ad xs.length c, .int .u64 t] w fun e w' => e = .returned (.bool true) ∧ Below w.heap.size w w' := by
  obtain ⟨k0, k1⟩ := hk
  obtain ⟨g0, g1⟩ := hn
  have htb := wf_u64 ht
  have hs := S.sl
  have hw := wfs_u64 S.wf
  clear S ht
  have c1 := fun (ad : Option Addr) (c : Nat) (W : World) hs (hl : xs.length ≤ 100) => Seal_any key nonce ad c xs W k0 k1 g0 g1 hs hw (by omega)
  by_cases h100 : xs.length ≤ 100
  · have hbr : elB key nonce xs = false ∨ elB key nonce xs = true := by cases elB key nonce xs <;> simp
    rcases hbr with he | he
    · rw [seal_no he] at c1
      clear he k1 g1 htb
      go_enter Try.func21, Try.ntmps21
      go_wp2_with fail
      refine name_calls fun W hW => ?_
      have g0 : Blk W w.heap.size #[.int .u64 key, .int .u64 nonce] 52 := by rw [hW]; exact Blk.newAt rfl
      have hB : Below w.heap.size w W := by rw [hW]; exact (Below.refl _ _).alloc (Nat.le_refl _) _
      clear hW
      refine (awake9 W).mono ?_
      rintro e w1 ⟨rfl, hb1⟩
      replace hB := below2 hB hb1
      replace g0 := g0.mono hb1
      clear hb1
      go_wp2_with fail
      have q0 := cell_later' (g0.cell (j := 0) (v := .int .u64 key) rfl); have q1 := cell_later' (g0.cell (j := 1) (v := .int .u64 nonce) rfl)
      refine Rel.wp_region_mix 7 [] [(5, fun v w => Own w w1.heap.size 22 .u64 v xs), (6, fun v w => Own w w1.heap.size 22 .u64 v [])] Try.mixed (by kernel_rfl) (by kernel_rfl) ?_ ?_
      rotate_left
      simp only [List.take_succ_cons, List.take_zero, List.drop_succ_cons, List.drop_zero, List.map_cons, List.map_nil]
      repeat (first | (refine Rel.wpA_b (by rfl) ?_) | (refine Rel.wpA_step (by rfl) fun K hK => ?_; go_simp; first | (refine hK _ ?_; clear hK K) | (apply Exists.intro; refine ⟨fun _ => ?_, hK _ ?_⟩; (first | fail); clear hK K)))
      refine Rel.wpA_nil ?_
      rotate_left
      · intro z hz v u u' h1 h2
        simp only [List.mem_cons, List.not_mem_nil, or_false] at hz
        rcases hz with rfl | rfl <;> exact Own.mono h1 h2
      refine Rel.wpB_step _ rfl rfl (fun p' hc => ?_) (fun v5 => ?_)
      · go_simp
        exact rUpon_sl (cp_any ad c xs _ ((hs.mono hB).mono (below_later _ _)) (by omega))
      refine Rel.wpB_step _ rfl rfl (fun p' hc => ?_) (fun v6 => ?_)
      · have h5 := hc _ (List.Mem.head _) (by kernel_rfl)
        obtain ⟨ad', c', rfl, hsl, _, _⟩ := Own.sl h5
        go_simp
        exact rUpon_sl (c1 _ _ _ hsl h100)
      refine Rel.wpB_nil ?_
      intro p' hctx hfr
      simp only [List.nil_append, List.cons_append, List.mem_cons, List.not_mem_nil, or_false, forall_eq_or_imp, forall_eq] at hctx
      obtain ⟨_, o6⟩ := hctx
      have hb4 := below2 hB (below_later w1 p')
      obtain ⟨ad6, c6, rfl, _, _, _⟩ := Own.sl o6
      clear hfr c1 q0 q1 o6
      generalize later w1 p' = w4 at *
      go_wp2
      go_ret
      exact ⟨rfl, hb4⟩
    · rw [seal_yes he] at c1
      have hlen := cOut_len true key nonce xs
      have hfg := fun (h : ¬ cTag true key nonce xs = t) => forged hw he h
      have hlb := cOut_W true key nonce xs
      have c2 := fun (ad : Option Addr) (c : Nat) (W : World) (h : ¬ cTag true key nonce xs = t) hs hlc => Open_any key nonce ad c (cOut true key nonce xs ++ [t]) W k0 k1 g0 g1 hs (fun a ha => by
        rcases List.mem_append.1 ha with ha | ha
        · exact hlb a ha
        · rw [List.mem_singleton.1 ha]; exact htb) (by rw [List.length_append, hlen]; simp; omega) hlc
      generalize cTag true key nonce xs = z at *
      generalize cOut true key nonce xs = l at *
      have hset : (l ++ [z]).set xs.length t = l ++ [t] := by rw [← hlen]; simp
      have hlz : Hid ((l ++ [z]).length = xs.length + 1) := hide (by rw [List.length_append, hlen]; rfl)
      have hlt : Hid ((l ++ [t]).length = xs.length + 1) := hide (by rw [List.length_append, hlen]; rfl)
      have hgz : (l ++ [z]).getD xs.length 0 = z := by rw [← hlen]; simp [List.getD_eq_getElem?_getD]
      obtain ⟨lz, hlz'⟩ : ∃ lz, lz = l ++ [z] := ⟨_, rfl⟩
      obtain ⟨lt, hlt'⟩ : ∃ lt, lt = l ++ [t] := ⟨_, rfl⟩
      rw [← hlz'] at c1 hset hlz hgz
      rw [← hlt'] at c2 hfg hset hlt
      obtain ⟨n, hn⟩ : ∃ n, n = xs.length := ⟨_, rfl⟩
      have hn100 : n ≤ 100 := by omega
      rw [← hn] at hset hlz hlt hgz
      replace hset := hide hset
      replace hgz := hide hgz
      have f2 : ((n : Int) + 1 - 1) = n := by omega
      have f4 : ((n : Int) + 1 == 0) = false := by rw [beq_eq_false_iff_ne]; omega
      clear he k1 g1 hlen hlb hlz' hlt' hn
      go_enter Try.func21, Try.ntmps21
      go_wp2_with fail
      refine name_calls fun W hW => ?_
      have g0 : Blk W w.heap.size #[.int .u64 key, .int .u64 nonce] 52 := by rw [hW]; exact Blk.newAt rfl
      have hB : Below w.heap.size w W := by rw [hW]; exact (Below.refl _ _).alloc (Nat.le_refl _) _
      have hwz : w.heap.size < W.heap.size := by rw [hW]; simp
      clear hW
      refine (awake9 W).mono ?_
      rintro e w1 ⟨rfl, hb1⟩
      replace hB := below2 hB hb1
      replace g0 := g0.mono hb1
      replace hwz := Nat.lt_of_lt_of_le hwz hb1.size
      clear hb1
      go_wp2_with fail
      have q0 := cell_later' (g0.cell (j := 0) (v := .int .u64 key) rfl); have q1 := cell_later' (g0.cell (j := 1) (v := .int .u64 nonce) rfl)
      refine Rel.wp_region_mix 7 [] [(5, fun v w => Own w w1.heap.size 22 .u64 v xs), (6, fun v w => Own w w1.heap.size 22 .u64 v lz)] Try.mixed (by kernel_rfl) (by kernel_rfl) ?_ ?_
      rotate_left
      simp only [List.take_succ_cons, List.take_zero, List.drop_succ_cons, List.drop_zero, List.map_cons, List.map_nil]
      repeat (first | (refine Rel.wpA_b (by rfl) ?_) | (refine Rel.wpA_step (by rfl) fun K hK => ?_; go_simp; first | (refine hK _ ?_; clear hK K) | (apply Exists.intro; refine ⟨fun _ => ?_, hK _ ?_⟩; (first | fail); clear hK K)))
      refine Rel.wpA_nil ?_
      rotate_left
      · intro z hz v u u' h1 h2
        simp only [List.mem_cons, List.not_mem_nil, or_false] at hz
        rcases hz with rfl | rfl <;> exact Own.mono h1 h2
      refine Rel.wpB_step _ rfl rfl (fun p' hc => ?_) (fun v5 => ?_)
      · go_simp
        exact rUpon_sl (cp_any ad c xs _ ((hs.mono hB).mono (below_later _ _)) (by omega))
      refine Rel.wpB_step _ rfl rfl (fun p' hc => ?_) (fun v6 => ?_)
      · have h5 := hc _ (List.Mem.head _) (by kernel_rfl)
        obtain ⟨ad', c', rfl, hsl, _, _⟩ := Own.sl h5
        go_simp
        exact rUpon_sl (c1 _ _ _ hsl h100)
      refine Rel.wpB_nil ?_
      intro p' hctx hfr
      simp only [List.nil_append, List.cons_append, List.mem_cons, List.not_mem_nil, or_false, forall_eq_or_imp, forall_eq] at hctx
      obtain ⟨_, o6⟩ := hctx
      have hbl := below_later w1 p'
      obtain ⟨g, cap, rfl, hg1⟩ := Own.open_ o6 hlz.out (by omega)
      have hcl := (Own.len o6).2
      replace g0 := g0.mono hbl
      replace hB := below2 hB hbl
      clear hfr c1 q0 q1 hbl
      generalize later w1 p' = w4 at *
      have y0 := Own.cell o6 (j := n) (by omega)
      have yf := Own.free o6 n
      rw [hgz.out] at y0
      by_cases hzt : z = t
      · have hd : (z == t) = true := by simpa using hzt
        replace hzt := hide hzt
        go_wp2
        go_ret
        exact ⟨rfl, hB⟩
      · have hd : (z == t) = false := by simpa using hzt
        have c3 := fun (ad : Option Addr) (c : Nat) (W : World) => c2 ad c W hzt
        have hno := hfg hzt
        rw [open_no hno, hno, hlt.out] at c3
        replace hzt := hide hzt
        have o7 := Own.set o6 n t
        rw [hset.out] at o7
        have hgne : g ≠ w.heap.size := by omega
        have g7 := g0.other (c := g) (j := n) hgne (.int .u64 t)
        have hb7 := hB.setCell (p := ⟨g, n, none⟩) (show w.heap.size ≤ g by omega) (.int .u64 t)
        clear c2 hfg hno o6
        have z0 := g7.cell (j := 0) (v := .int .u64 key) rfl; have z1 := g7.cell (j := 1) (v := .int .u64 nonce) rfl
        have s7 := o7.take (n + 1)
        rw [List.take_of_length_le (by have := hlt.out; omega)] at s7
        go_wp2_with fail
        refine (c3 _ cap _ s7 hcl).mono ?_
        rintro e w8 ⟨v8, rfl, o8, hb8⟩
        obtain ⟨ad8, c8, rfl, _, _, _⟩ := Own.sl o8
        clear z0 z1 y0 yf o8
        go_wp2
        go_ret
        exact ⟨rfl, below2 hb7 hb8⟩
  · have h101 : 100 < xs.length := by omega
    clear k1 g1 c1 htb
    go_enter Try.func21, Try.ntmps21
    go_wp2_with fail
    refine name_calls fun W hW => ?_
    have hB : Below w.heap.size w W := by rw [hW]; exact (Below.refl _ _).alloc (Nat.le_refl _) _
    clear hW
    refine (awake9 W).mono ?_
    rintro e w1 ⟨rfl, hb1⟩
    go_wp2_with fail
    refine (awake9 _).mono ?_
    rintro ew2 w2 ⟨rfl, hb2⟩
    go_wp2
    go_ret
    exact ⟨rfl, below2 (below2 hB hb1) hb2⟩

set_option maxRecDepth 100000 in
theorem lifted (os : Os) (started : os.Started) (H : Type) (enc : TypeId × Value → H) :
    ReturnsInHanded {} Try.checked os 21 .any (Rows.cipherForgedTagSpec.pre6 enc Try.prog Try.f21 Rows.cipherForgedTagRow.domain false) (Rows.cipherForgedTagSpec.post enc Try.prog Try.f21 false true false false) := by
  refine returnsInHanded_of_change (C := Try.checked) own started (by kernel_rfl) Try.func21
    (ChangeSpec.witness6 (enc := enc) (C := Try.checked) false ⟨#[], #[.agg #[.int .u64 0, .int .u64 0], .slice none 0 0, .int .u64 0], []⟩ 8 (by kernel_rfl) (by kernel_rfl) (by kernel_rfl) (by kernel_rfl)) ?_
  intro W base args ds gs before hval0 hW hcnd _
  have hval : ∀ (j : Nat) t v, Try.f21.params[j]? = some t → args[j]? = some v → Value.okWide Try.prog W .any base t v := hval0
  have hW' := hW
  obtain ⟨p, q, hA0, hV, rfl, hfz, hnd⟩ := hW
  have hA : DataW.TrodAll enc Try.prog W 0 (fun _ => true) true Try.f21.params.toList args.toList ds p := hA0
  rw [Try.params21] at hA hval
  obtain ⟨v0, vs0, d0, ds0, p0, q0, hargs, rfl, rfl, h0, r0⟩ := trodAll_cons hA
  obtain ⟨v1, vs1, d1, ds1, p1, q1, rfl, rfl, rfl, h1, r1⟩ := trodAll_cons r0
  obtain ⟨v2, vs2, d2, ds2, p2, q2, rfl, rfl, rfl, h2, r2⟩ := trodAll_cons r1
  obtain ⟨rfl, rfl, rfl⟩ := trodAll_nil r2
  obtain rfl : args = #[v0, v1, v2] := by cases args; simp_all
  obtain ⟨rfl, rfl⟩ := trodVars_none hV
  have k0 := h0
  have k1 := h1
  obtain ⟨a0, b0, rfl, rfl, rfl, wa0, wb0⟩ := open_arr2 Try.underlying52 Try.underlying22 (by kernel_rfl) (by kernel_rfl) (hval 0 52 v0 rfl rfl) h0
  obtain ⟨ad1, cap1, xs1, rfl, S1⟩ := open_slice Try.underlying31 Try.underlying22 (by kernel_rfl) h1 (hval 1 31 v1 rfl rfl) (fun x hx => hW'.lt x (by simp [hx]))
  obtain ⟨a2, rfl, rfl, rfl, w2⟩ := open_int Try.underlying22 (hval 2 22 v2 rfl rfl) h2
  clear hA0 hval0
  simp only [List.append_nil] at hW'
  refine (walk a0 b0 ad1 cap1 xs1 a2 W (wf_u64 wa0) (wf_u64 wb0) S1 w2).mono fun e W' ⟨he, hg⟩ => ?_
  subst he
  exact ⟨_, rfl, post_of_below (pv := []) hW' (fun _ _ _ => (trodAll_cons_mk (shut_bool Try.underlying4 _) trodAll_mk0))
    (fun sp _ hsp => by subst hsp; exact (trodAll_cons_mk (Below.trod Try.laidOut (by kernel_rfl) (of_decide_eq_true (by kernel_rfl)) k0 hg (fun x hx => by cases hx)) (trodAll_cons_mk (Below.trod Try.laidOut (by kernel_rfl) (of_decide_eq_true (by kernel_rfl)) k1 hg (fun x hx => hW'.lt x (by simp [hx]))) (trodAll_cons_mk (shut_int Try.underlying22 w2) trodAll_mk0)))) (fun _ _ => rfl) (by simp) hg⟩

theorem closed : joinedFacts Try.prog 21 Try.f21 Rows.cipherForgedTagSpec Rows.cipherForgedTagRow = true := by
  unfold joinedFacts
  rw [Try.mayEnter, Try.liftsFinal, Try.make]
  kernel_rfl

theorem proved : Rows.CipherForgedTagSaid :=
  OpenClaim.holds_of_wide 21 Try.f21 rfl rfl rfl rfl rfl rfl rfl ⟨rfl, rfl, rfl, rfl, rfl⟩ rfl rfl rfl rfl rfl (by kernel_rfl) Try.func21 closed
    (of_decide_eq_true (by kernel_rfl)) (by unfold Func.isWrapper; first | (rw [if_pos (by decide +kernel)]; kernel_rfl) | (rw [if_neg (by decide +kernel)]; exact ⟨rfl, rfl⟩))
    (fun os started H enc _ => lifted os started H enc)
#print axioms proved
end cipherForgedTag
end Go.Proofs.Ytaklpdhhcnnclaa
