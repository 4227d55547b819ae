/- GadgetUnique: an assignment that satisfies all rows is the completion of its inputs. -/
import Derived.Test.YtlgjnidphldiiaaRunB
import Derived.Test.YtlgjnidphldiiaaRunI
import Derived.Test.YtlgjnidphldiiaaHeadX
namespace Go.Proofs.Ytlgjnidphldiiaa
open Go.ChangeShapes Go.WideShapes Go.ChangeAt Go.RowKit
namespace gadgetUnique

theorem rUpon_sl {P : Program} {f : FuncId} {args : Array Value} {W : World} {p : Later} {E : TypeId} {k : IntKind} {xs : List Int} (h : Calls P f args (later W p) (RetSl (later W p) E k xs)) :
    Rel.rUpon P (later W p) false (fun v w => Own w W.heap.size E k v xs) (.ok (.enter f args) (later W p)) :=
  ⟨rfl, h.mono fun _ _ ⟨v, he, hown, hb⟩ => ⟨v, he, hb, hown.low (below_later W p).size, fun h => by cases h⟩⟩

theorem rUpon_q {P : Program} {f : FuncId} {args : Array Value} {W : World} {p : Later} {v : Value} (h : Calls P f args (later W p) fun e w' => e = .returned v ∧ Below (later W p).heap.size (later W p) w') :
    Rel.rUpon P (later W p) false (fun u _ => u = v) (.ok (.enter f args) (later W p)) :=
  ⟨rfl, h.mono fun _ _ ⟨he, hb⟩ => ⟨v, he, hb, rfl, fun h => by cases h⟩⟩

theorem run4_beg (p : Int) (H : List Hint4) : ∀ W : List Int, ∃ X, run4 p W H = W ++ X := by
  unfold run4
  induction H with
  | nil => exact fun W => ⟨[], by simp⟩
  | cons h H ih =>
    intro W
    obtain ⟨X, hX⟩ := ih (W ++ [hv4 p W h])
    exact ⟨hv4 p W h :: X, by rw [List.foldl_cons, hX, List.append_assoc]; rfl⟩
theorem fin_red {S : St} {I : List Int} (wf : Wf S I) : ∀ x ∈ fin S I, 0 ≤ x ∧ x < S.p := by
  have hp := vld_pos wf.v
  have : ∀ (H : List Hint4) (W : List Int), (∀ x ∈ W, 0 ≤ x ∧ x < S.p) → ∀ x ∈ run4 S.p W H, 0 ≤ x ∧ x < S.p := by
    intro H
    unfold run4
    induction H with
    | nil => exact fun W h => h
    | cons h H ih =>
      intro W hW
      rw [List.foldl_cons]
      refine ih _ fun x hx => ?_
      rcases List.mem_append.1 hx with h1 | h1
      · exact hW x h1
      · rw [List.mem_singleton] at h1; subst h1; exact hv4_bds wf.v W h
  refine this S.H _ fun x hx => ?_
  rcases List.mem_cons.1 hx with rfl | h1
  · omega
  · exact wf.i x h1
/-- The whole begins with the inputs. -/
theorem beg_fin {p pub sec : Int} {I : List Int} {S : St} {VL : List Lin} {k : Nat} (h : RI p pub sec I S VL k) : Beg (newS p pub sec) I (fin S I) := by
  obtain ⟨X, hX⟩ := run4_beg S.p S.H (1 :: I)
  refine ⟨fun x hx => ?_, X, hX⟩
  have := fin_red h.wf x hx
  rw [h.pp] at this
  exact this
theorem beg_set {p pub sec : Int} {I O : List Int} (h : Beg (newS p pub sec) I O) {k : Nat} (hk : 1 + I.length ≤ k) {x : Int} (hx : 0 ≤ x ∧ x < p) : Beg (newS p pub sec) I (O.set k x) := by
  obtain ⟨X, hX⟩ := h.beg
  refine ⟨fun y hy => ?_, X.set (k - (1 + I.length)) x, ?_⟩
  · rcases List.mem_or_eq_of_mem_set hy with h1 | h1
    · exact h.red y h1
    · subst h1; exact hx
  · have e : fin (newS p pub sec) I = 1 :: I := rfl
    rw [e] at hX ⊢
    subst hX
    rw [List.set_append_right _ _ (by rw [List.length_cons]; omega), List.length_cons, Nat.add_comm I.length 1]
theorem beg_uq {p pub sec : Int} {I O : List Int} {S : St} {VL : List Lin} {k : Nat} (h : RI p pub sec I S VL k) (hB : Beg (newS p pub sec) I O) (hl : O.length = (fin S I).length) (hs : ∀ r ∈ S.R, sat3 p O r) : O = fin S I :=
  uq_all h.u h.wf hB (by rw [hl, h.wf.fin_len]) hs

/-- The other assignment: a list of the call's own that begins with the inputs. -/
structure UL (w7 wr : World) (gO cO : Nat) (p pub sec : Int) (I F O : List Int) : Prop where
  below : Below w7.heap.size w7 wr
  own : Own wr w7.heap.size 22 .u64 (.slice (some ⟨gO, 0, none⟩) F.length cO) O
  beg : Hid (Beg (newS p pub sec) I O)
  len : Hid (O.length = F.length)
theorem UL.mono {w7 wr w' : World} {gO cO : Nat} {p pub sec : Int} {I F O : List Int} (h : UL w7 wr gO cO p pub sec I F O) (hb : Below wr.heap.size wr w') : UL w7 w' gO cO p pub sec I F O :=
  ⟨below2 h.below hb, h.own.mono hb, h.beg, h.len⟩

set_option maxRecDepth 10000 in
set_option maxHeartbeats 64000000 in
theorem walk (p pub sec : Int) (oa : Option Addr) (oc : Nat) (ops : List Op5) (ia : Option Addr) (ic : Nat) (l : List Int) (wa : Option Addr) (wc : Nat) (ws : List Int) (w : World) (hp : (Lit.int .u64 p).wf = true ∧ isB pub ∧ isB sec) (SO : Ops5 w oa oc ops) (SL : SlP w .u64 ia ic l) (SW : SlP w .u64 wa wc ws) :
    Calls Try.prog 8 #[.agg #[.int .u64 p, .int .u8 pub, .int .u8 sec, .slice oa ops.length oc], .slice ia l.length ic, .slice wa ws.length wc] w fun e w' => e = .returned (.bool true) ∧ Below w.heap.size w w' := by
  obtain ⟨_, ⟨pb1, pb2⟩, ⟨sb1, sb2⟩⟩ := hp
  have hl := SL.sl
  have hA := wfs_u64 SL.wf
  have hws := SW.sl
  have hAw := wfs_u64 SW.wf
  have z1 : ops.length ≤ 9223372036854775807 := by
    have h1 := SO.le
    have h2 := SO.mx
    simp only [maxLen] at h2
    omega
  have z2 : l.length ≤ 9223372036854775807 := by
    have h1 := SL.le
    have h2 := SL.max
    simp only [maxLen] at h2
    omega
  have z3 : ws.length ≤ 9223372036854775807 := by
    have h1 := SW.le
    have h2 := SW.max
    simp only [maxLen] at h2
    omega
  clear SL SW
  have cR := fun W => sRight_any p pub sec oa ops.length oc 8 W
  obtain ⟨r, hr⟩ : ∃ r, r = (vld p && decide (pub ≤ 4) && decide (sec ≤ 4) && decide ((ops.length : Int) ≤ 8)) := ⟨_, rfl⟩
  rw [← hr] at cR
  cases r with
  | false =>
    clear hr
    go_enter Try.func8, Try.ntmps8
    go_wp2_with fail
    refine name_calls fun W hN => ?_
    have g0 : Blk W w.heap.size #[.int .u64 p, .int .u8 pub, .int .u8 sec, .slice oa ops.length oc] 66 := by rw [hN]; exact Blk.newAt rfl
    have hB : Below w.heap.size w W := by rw [hN]; exact (Below.refl _ _).alloc (Nat.le_refl _) _
    clear hN
    refine (awake20 W).mono ?_
    rintro e w1 ⟨rfl, hb1⟩
    replace hB := below2 hB hb1
    replace g0 := g0.mono hb1
    have k0 := g0.cell (j := 0) (v := .int .u64 p) rfl
    have k1 := g0.cell (j := 1) (v := .int .u8 pub) rfl
    have k2 := g0.cell (j := 2) (v := .int .u8 sec) rfl
    have k3 := g0.cell (j := 3) (v := .slice oa ops.length oc) rfl
    go_wp2_with fail
    refine (cR w1).mono ?_
    rintro e w2 ⟨rfl, hb2⟩
    replace hB := below2 hB hb2
    replace g0 := g0.mono hb2
    clear k0 k1 k2 k3 cR hb1 hb2
    go_wp2_with fail
    refine (awake20 w2).mono ?_
    rintro e w3 ⟨rfl, hb3⟩
    go_wp2
    go_ret
    exact ⟨rfl, below2 hB hb3⟩
  | true =>
    have hr2 := hr.symm
    simp only [Bool.and_eq_true, decide_eq_true_eq] at hr2
    obtain ⟨⟨⟨hv, hb1⟩, hb2⟩, hb3⟩ := hr2
    clear hr
    by_cases hw2 : 2000 < ws.length
    · have hw2' : (2000 : Int) < ws.length := by omega
      clear hv
      go_enter Try.func8, Try.ntmps8
      go_wp2_with fail
      refine name_calls fun W hN => ?_
      have g0 : Blk W w.heap.size #[.int .u64 p, .int .u8 pub, .int .u8 sec, .slice oa ops.length oc] 66 := by rw [hN]; exact Blk.newAt rfl
      have hB : Below w.heap.size w W := by rw [hN]; exact (Below.refl _ _).alloc (Nat.le_refl _) _
      clear hN
      refine (awake20 W).mono ?_
      rintro e w1 ⟨rfl, hb1⟩
      replace hB := below2 hB hb1
      replace g0 := g0.mono hb1
      have k0 := g0.cell (j := 0) (v := .int .u64 p) rfl
      have k1 := g0.cell (j := 1) (v := .int .u8 pub) rfl
      have k2 := g0.cell (j := 2) (v := .int .u8 sec) rfl
      have k3 := g0.cell (j := 3) (v := .slice oa ops.length oc) rfl
      go_wp2_with fail
      refine (cR w1).mono ?_
      rintro e w2 ⟨rfl, hb2⟩
      replace hB := below2 hB hb2
      replace g0 := g0.mono hb2
      clear k0 k1 k2 k3 cR hb1 hb2
      go_wp2_with fail
      refine (awake20 w2).mono ?_
      rintro e w3 ⟨rfl, hb3⟩
      go_wp2
      go_ret
      exact ⟨rfl, below2 hB hb3⟩
    have hw2' : (ws.length : Int) ≤ 2000 := by omega
    have hpp := vld_pos hv
    obtain ⟨N, hN0⟩ : ∃ N : Nat, (N : Int) = pub + sec := ⟨(pub + sec).toNat, by omega⟩
    have hNt : (pub + sec).toNat = N := by omega
    obtain ⟨I, hI⟩ : ∃ I, I = inpL p N l := ⟨_, rfl⟩
    have hIl : I.length = N := by rw [hI, inpL_len]
    have hIb : ∀ x ∈ I, 0 ≤ x ∧ x < p := by rw [hI]; exact inpL_bd (by omega) N l
    obtain ⟨Q, hQ⟩ : ∃ Q, Q = runO p ops (newS p pub sec, startL p (pub + sec).toNat) := ⟨_, rfl⟩
    have hRI : RI p pub sec I Q.1 Q.2 (0 + ops.length) := by
      rw [hQ]
      exact RI.run ops (RI.start hv hIb ⟨pb1, hb1, sb1, hb2⟩ (by rw [hIl, hN0]))
    have cr := fun W h => run_any p pub sec oa oc ops W hv ⟨pb1, hb1, sb1, hb2⟩ (SO.mono h) (by omega)
    rw [← hQ] at cr
    have cI := fun W h => Inputs_any p pub sec oa ops.length oc ia ic l W ⟨by omega, by omega⟩ ⟨pb1, pb2, sb1, sb2⟩ (hl.mono h) hA z2
    rw [hNt, ← hI] at cI
    obtain ⟨S, VL⟩ := Q
    have hIl8 : I.length ≤ 8 := by omega
    have hAI : AllW I := fun x hx => by have := hIb x hx; omega
    have hbd := hRI.bd
    have hbv : S.vars ≤ 4000 := by have := hbd.v; simp only at this; omega
    have hbr : S.R.length ≤ 4000 := by have := hbd.r; simp only at this; omega
    have hFW := fin_W hRI.wf
    have hcirc := fun W b hB => circU_any w.heap.size b S I p W hB hRI.wf hRI.pp (by omega) (by omega)
    have hBeg := hide (beg_fin hRI)
    have hUq := hide (fun O h1 h2 h3 => beg_uq (O := O) hRI h1 h2 h3)
    have hFl := hide hRI.wf.fin_len
    have hF0 : 0 < (fin S I).length := by have := hRI.wf.fin_len; have := hRI.wf.pos; simp only at *; omega
    have hF4 : (fin S I).length ≤ 4000 := by have := hRI.wf.fin_len; simp only at *; omega
    replace hRI := hide hRI
    replace hI := hide hI
    replace hIl := hide hIl
    replace hIb := hide hIb
    replace hN0 := hide hN0
    replace hQ := hide hQ
    replace hv := hide hv
    clear hNt hbd
    go_enter Try.func8, Try.ntmps8
    go_wp2_with fail
    refine name_calls fun W hN => ?_
    have g0 : Blk W w.heap.size #[.int .u64 p, .int .u8 pub, .int .u8 sec, .slice oa ops.length oc] 66 := by rw [hN]; exact Blk.newAt rfl
    have hB : Below w.heap.size w W := by rw [hN]; exact (Below.refl _ _).alloc (Nat.le_refl _) _
    clear hN
    refine (awake20 W).mono ?_
    rintro e w1 ⟨rfl, hb1⟩
    replace hB := below2 hB hb1
    replace g0 := g0.mono hb1
    have k0 := g0.cell (j := 0) (v := .int .u64 p) rfl
    have k1 := g0.cell (j := 1) (v := .int .u8 pub) rfl
    have k2 := g0.cell (j := 2) (v := .int .u8 sec) rfl
    have k3 := g0.cell (j := 3) (v := .slice oa ops.length oc) rfl
    go_wp2_with fail
    refine (cR w1).mono ?_
    rintro e w2 ⟨rfl, hb2⟩
    replace hB := below2 hB hb2
    replace g0 := g0.mono hb2
    clear k0 k1 k2 k3 cR hb1 hb2
    have k0 := g0.cell (j := 0) (v := .int .u64 p) rfl
    have k1 := g0.cell (j := 1) (v := .int .u8 pub) rfl
    have k2 := g0.cell (j := 2) (v := .int .u8 sec) rfl
    have k3 := g0.cell (j := 3) (v := .slice oa ops.length oc) rfl
    go_wp2_with fail
    refine (cr w2 hB).mono ?_
    rintro e w3 ⟨b, lv, Ls, rfl, hB3, ow, _, _, hb3⟩
    obtain ⟨va, vc, rfl, _⟩ := ow.sl
    replace hB3 := hB3.low hB.size
    replace hB := below2 hB hb3
    replace g0 := g0.mono hb3
    clear k0 k1 k2 k3 cr ow hb3
    have cC := hcirc w3 b hB3
    clear hcirc hB3
    go_wp2_with fail
    refine cC.mono ?_
    rintro e w4 ⟨pub', vars, ra, R, rc, sec', ha, H, hc, rfl, hR, hH, hC, hln, hF, hvv, hsat, hvb, hsw, hb4⟩
    clear cC
    replace hvv := hvv
    go_wp2_with fail
    refine name_calls fun w5 hN => ?_
    have gC : Blk w5 w4.heap.size #[.int .u64 p, .int .i64 pub', .int .i64 vars, .slice ra R.length rc, .int .i64 sec', .slice ha H.length hc] 37 := by rw [hN]; exact Blk.newAt rfl
    have hb5 : Below w4.heap.size w4 w5 := by rw [hN]; exact (Below.refl _ _).alloc (Nat.le_refl _) _
    clear hN
    replace hR := hR.mono hb5
    replace hH := hH.mono hb5
    replace hB := below2 (below2 hB hb4) hb5
    replace g0 := (g0.mono hb4).mono hb5
    clear hb4 hb5
    refine (bounded_any p pub' vars ra R rc sec' ha H hc w5 hR hH hC.out).mono ?_
    rintro e w6 ⟨rfl, hb6⟩
    replace hR := hR.mono hb6
    replace hH := hH.mono hb6
    replace gC := gC.mono hb6
    replace hB := below2 hB hb6
    replace g0 := g0.mono hb6
    clear hb6
    have m0 := cell_later' (gC.cell (j := 0) (v := .int .u64 p) rfl)
    have m1 := cell_later' (gC.cell (j := 1) (v := .int .i64 pub') rfl)
    have m2 := cell_later' (gC.cell (j := 2) (v := .int .i64 vars) rfl)
    have m3 := cell_later' (gC.cell (j := 3) (v := .slice ra R.length rc) rfl)
    have m4 := cell_later' (gC.cell (j := 4) (v := .int .i64 sec') rfl)
    have m5 := cell_later' (gC.cell (j := 5) (v := .slice ha H.length hc) rfl)
    have k0 := cell_later' (g0.cell (j := 0) (v := .int .u64 p) rfl)
    have k1 := cell_later' (g0.cell (j := 1) (v := .int .u8 pub) rfl)
    have k2 := cell_later' (g0.cell (j := 2) (v := .int .u8 sec) rfl)
    have k3 := cell_later' (g0.cell (j := 3) (v := .slice oa ops.length oc) rfl)
    have cK := fun a c W h1 h2 => Complete_any p pub' vars ra R rc sec' ha H hc a c I W h1 h2 hAI hC.out hln.out
    rw [hF.out] at cK
    generalize hFe : fin S I = F at *
    replace hFe := hide hFe
    go_wp2_with fail
    refine Rel.wp_region_mix 5 [] [(3, fun v w => Own w w6.heap.size 22 .u64 v I), (4, fun v w => Own w w6.heap.size 22 .u64 v F)] Try.mixed (by kernel_rfl) (by kernel_rfl) ?_ ?_
    rotate_left
    simp only [List.take_succ_cons, List.take_zero, List.drop_succ_cons, List.drop_zero, List.map_cons, List.map_nil]
    repeat (first | (refine Rel.wpA_b (by rfl) ?_) | (refine Rel.wpA_step (by rfl) fun K hK => ?_; go_simp; first | (refine hK _ ?_; clear hK K) | (apply Exists.intro; refine ⟨fun _ => ?_, hK _ ?_⟩; (first | fail); clear hK K)))
    refine Rel.wpA_nil ?_
    rotate_left
    · intro z hz v u u' h1 h2
      simp only [List.mem_cons, List.not_mem_nil, or_false] at hz
      rcases hz with rfl | rfl
      · exact Own.mono h1 h2
      · exact Own.mono h1 h2
    refine Rel.wpB_step _ rfl rfl (fun p' hc' => ?_) (fun v3 => ?_)
    · refine rU_of' (fr := false) (r := .ok (.enter 53 #[.agg #[.int .u64 p, .int .u8 pub, .int .u8 sec, .slice oa ops.length oc], .slice ia l.length ic]) (later w6 p')) (by kernel_rfl) (by kernel_rfl) ?_
      exact rUpon_sl (cI _ (below2 hB (below_later _ _)))
    refine Rel.wpB_step _ rfl rfl (fun p' hc' => ?_) (fun v4 => ?_)
    · have h3 : Own (later w6 p') w6.heap.size 22 .u64 v3 I := hc' _ (List.Mem.head _) (by kernel_rfl)
      obtain ⟨a3, c3, rfl, sl3, _, _⟩ := Own.sl h3
      refine rU_of' (fr := false) (r := .ok (.enter 35 #[.agg #[.int .u64 p, .int .i64 pub', .int .i64 vars, .slice ra R.length rc, .int .i64 sec', .slice ha H.length hc], .slice a3 I.length c3]) (later w6 p')) (by kernel_rfl) (by kernel_rfl) ?_
      exact rUpon_sl (cK _ _ _ (hH.mono (below_later _ _)) sl3)
    refine Rel.wpB_nil ?_
    intro p' hctx hfr
    simp only [List.nil_append, List.cons_append, List.mem_cons, List.not_mem_nil, or_false, forall_eq_or_imp, forall_eq] at hctx
    obtain ⟨_, ownF⟩ := hctx
    have hbl := below_later w6 p'
    clear hfr m0 m1 m2 m3 m4 m5 k0 k1 k2 k3 cK
    generalize later w6 p' = w7 at *
    replace hR := hR.mono hbl
    replace hH := hH.mono hbl
    replace gC := gC.mono hbl
    replace hB := below2 hB hbl
    replace g0 := g0.mono hbl
    clear hbl
    rcases ownF.form with ⟨_, h0⟩ | ⟨gF, cF, curF, rfl, _, bF, eF1, eF2, eF3, eF4⟩
    · rw [h0] at hF0; simp at hF0
    have slF : Sl w7 .u64 (some ⟨gF, 0, none⟩) F := by
      obtain ⟨_, _, e, h, _⟩ := Own.sl ownF
      cases e
      exact h
    have own0 : Own (w7.alloc (.cells #[] 22)) w7.heap.size 22 .u64 (.slice (some ⟨w7.heap.size, 0, none⟩) 0 0) [] := Own.of_blk (xs := []) (cap := 0) (Nat.le_refl _) (Blk.new _ _ _) (Nat.le_refl 0) (by decide) rfl rfl
    go_wp2_with (refine wpList_app _ rfl _ _ 54 rfl w7.heap.size 22 .u64 8 Try.underlying54 Try.infoU64 (by decide) _ [] F _ _ rfl rfl own0 (slF.mono ((Below.refl _ _).alloc (Nat.le_refl _) _)) (by simp; omega) (by simp) ?_; intro v' w8 own' hg'; refine Hold.mk ?_)
    refine Hold.go ?_
    have hB8 : Below w7.heap.size w7 w8 := hg'.below ((Below.refl _ _).alloc (Nat.le_refl _) _) own0 (Nat.le_refl _) (by simp)
    rw [List.nil_append] at own'
    rcases own'.form with ⟨_, h0⟩ | ⟨gO, cO, curO, rfl, _⟩
    · rw [h0] at hF0; simp at hF0
    have hUL : UL w7 w8 gO cO p pub sec I F F := ⟨hB8, own', hBeg, hide rfl⟩
    clear own' hg' own0 hB8 slF
    go_wp2_with fail
    go_loopw [51] (fun t51 wr => ∃ j : Nat, j ≤ ws.length ∧ t51 = .int .i64 j ∧ ∃ O, UL w7 wr gO cO p pub sec I F O) (fun t51 _ => ws.length - (intOf t51).toNat)
    case atStart => exact ⟨0, Nat.zero_le _, rfl, F, hUL⟩
    case round =>
      clear hUL
      obtain ⟨j, hj, rfl, O, D⟩ := hrel
      by_cases hlt : j < ws.length
      · have hlt' : (j : Int) < ws.length := by omega
        obtain ⟨q2, off2, rfl, _, hd⟩ := (hws.mono (below2 hB D.below)).get hlt
        have hx := hAw.get hlt
        generalize ws.getD j 0 = x at *
        have g0' := g0.mono D.below
        have k0 := g0'.cell (j := 0) (v := .int .u64 p) rfl
        have k1 := g0'.cell (j := 1) (v := .int .u8 pub) rfl
        have k2 := g0'.cell (j := 2) (v := .int .u8 sec) rfl
        have k3 := g0'.cell (j := 3) (v := .slice oa ops.length oc) rfl
        have cIr := cI wr (below2 hB D.below)
        go_wp2_with fail
        refine cIr.mono ?_
        rintro e w9 ⟨v9, rfl, own9, hb9⟩
        obtain ⟨a9, c9, rfl, _⟩ := Own.sl own9
        replace D := D.mono hb9
        clear own9 cIr k0 k1 k2 k3 hd
        have kk0 := cell_later' ((g0'.mono hb9).cell (j := 0) (v := .int .u64 p) rfl)
        clear hb9 g0'
        by_cases hk : 1 + I.length + j < F.length
        · have hk' : (1 : Int) + I.length + j < F.length := by omega
          have hc := cell_later' (D.own.cell (j := 1 + I.length + j) hk)
          have hfr := D.own.free (1 + I.length + j)
          have hyb := D.beg.out.red _ (getD_mem' (i := 1 + I.length + j) (by rw [D.len.out]; exact hk) 0)
          have hyb2 : 0 ≤ O.getD (1 + I.length + j) 0 ∧ O.getD (1 + I.length + j) 0 < p := hyb
          clear hyb
          generalize O.getD (1 + I.length + j) 0 = y at *
          have cA := fun W => rAdd_any p y x W hyb2.1 (by omega) hx.1 hx.2
          have hz := fadd_ltp hv.out y x
          generalize fadd p y x = z at *
          go_wp2_with fail
          refine Rel.wp_region_later_tail 11 Try.mixed (by kernel_rfl) ?_
          simp only [List.take_succ_cons, List.take_zero, List.drop_succ_cons, List.drop_zero]
          repeat (first | go_big_quiet_step (first | (go_at_call 54; exact Calls.later_of (cA _))) | quiet_step (first | (go_at_call 54; exact Calls.later_of (cA _))))
          refine wpQuiet_nil ?_
          intro w10 hb10
          replace hb10 := below_of_later hb10
          have D10 := D.mono hb10
          have hc10 := cell_below hb10 (D.own.cell (j := 1 + I.length + j) hk)
          have hf10 := D10.own.free (1 + I.length + j)
          have D11 : UL w7 (w10.setCell ⟨gO, 1 + I.length + j, none⟩ (.int .u64 z)) gO cO p pub sec I F (O.set (1 + I.length + j) z) := ⟨D10.below.setCell (show w7.heap.size ≤ gO from (Own.lt D10.own rfl).1) _, D10.own.set _ _, hide (beg_set D10.beg.out (by omega) hz), hide (by rw [List.length_set]; exact D10.len.out)⟩
          clear hc hfr kk0 cA D
          go_wp2
          go_roundw
          case rel => exact ⟨j + 1, by omega, by go_num, _, D11⟩
          case measure => simp [intOf]; omega
        · have hk' : (F.length : Int) ≤ (1 : Int) + I.length + j := by omega
          clear kk0
          go_wp2
          go_roundw
          case rel => exact ⟨j + 1, by omega, by go_num, _, D⟩
          case measure => simp [intOf]; omega
      · obtain rfl : j = ws.length := by omega
        go_wp2_with fail
        obtain ⟨wA, hwA⟩ : ∃ wA, wA = wr := ⟨_, rfl⟩
        subst hwA
        go_loopw [81] (fun t81 wr => ∃ j : Nat, j ≤ F.length ∧ t81 = .int .i64 j ∧ UL w7 wr gO cO p pub sec I F O) (fun t81 _ => F.length - (intOf t81).toNat)
        case atStart => exact ⟨0, Nat.zero_le _, rfl, D⟩
        case round =>
          clear D
          obtain ⟨j, hj, rfl, D⟩ := hrel
          by_cases hlt : j < F.length
          · have hlt' : (j : Int) < F.length := by omega
            have c1 := cell_later' (D.own.cell hlt)
            have c2 := cell_later' ((ownF.mono D.below).cell hlt)
            obtain ⟨x, hx⟩ : ∃ x, x = O.getD j 0 := ⟨_, rfl⟩
            obtain ⟨y, hy⟩ : ∃ y, y = F.getD j 0 := ⟨_, rfl⟩
            rw [← hx] at c1
            rw [← hy] at c2
            by_cases hxy : x = y
            · have hne : (x != y) = false := by rw [hxy]; simp
              clear hx hy hxy
              go_wp2_with fail
              refine wp_region_later Try.mixed (by kernel_rfl) ?_
              repeat (first | go_big_quiet_step (first | fail) | quiet_step (first | fail))
              refine wpQuiet_nil ?_
              intro w9 hb9
              replace hb9 := below_of_later hb9
              clear c1 c2 hne
              go_wp2
              go_roundw
              case rel => exact ⟨j + 1, by omega, by go_num, D.mono hb9⟩
              case measure => simp [intOf]; omega
            · have hne : (x != y) = true := by simpa using hxy
              have hSf : rowsSat p O R = false := by
                rw [Bool.eq_false_iff]
                intro h
                have := hUq.out O D.beg.out D.len.out (hsat.out O h)
                rw [this] at hx
                exact hxy (hx.trans hy.symm)
              have hAO : AllW O := fun z hz => by
                have : 0 ≤ z ∧ z < p := D.beg.out.red z hz
                omega
              have cS := fun W h1 h2 => rSat20_any p pub' vars ra R rc (some ⟨gO, 0, none⟩) cO O W h1 h2 hAO (cir_bd hC.out).1 (by rw [D.len.out, hFl.out]; exact hvv.out)
              rw [hSf, D.len.out] at cS
              replace hx := hide hx
              replace hy := hide hy
              clear hxy hSf
              go_wp2_with fail
              refine wp_region_later Try.mixed (by kernel_rfl) ?_
              repeat (first | go_big_quiet_step (first | fail) | quiet_step (first | fail))
              refine wpQuiet_nil ?_
              intro w9 hb9
              replace hb9 := below_of_later hb9
              have D9 := D.mono hb9
              have gC9 := gC.mono D9.below
              have m0 := gC9.cell (j := 0) (v := .int .u64 p) rfl
              have m1 := gC9.cell (j := 1) (v := .int .i64 pub') rfl
              have m2 := gC9.cell (j := 2) (v := .int .i64 vars) rfl
              have m3 := gC9.cell (j := 3) (v := .slice ra R.length rc) rfl
              have slO : Sl w9 .u64 (some ⟨gO, 0, none⟩) O := by
                obtain ⟨_, _, e, h, _⟩ := Own.sl D9.own
                injection e with e1 e2 e3
                subst e1
                exact h
              have cS9 := cS w9 (hR.mono D9.below) slO
              clear cS c1 c2 hne
              go_wp2_with fail
              refine cS9.mono ?_
              rintro e w10 ⟨rfl, hb10⟩
              go_wp2
              go_ret
              exact ⟨rfl, below2 (below2 hB D9.below) hb10⟩
          · obtain rfl : j = F.length := by omega
            go_wp2
            go_ret
            exact ⟨rfl, below2 hB D.below⟩

set_option maxRecDepth 100000 in
theorem lifted (os : Os) (started : os.Started) (H : Type) (enc : TypeId × Value → H) :
    ReturnsInHanded {} Try.checked os 8 .any (Rows.gadgetUniqueSpec.pre6 enc Try.prog Try.f8 Rows.gadgetUniqueRow.domain false) (Rows.gadgetUniqueSpec.post enc Try.prog Try.f8 false true false false) := by
  refine returnsInHanded_of_change (C := Try.checked) own started (by kernel_rfl) Try.func8
    (ChangeSpec.witness6 (enc := enc) (C := Try.checked) false ⟨#[], #[.agg #[.int .u64 0, .int .u8 0, .int .u8 0, .slice none 0 0], .slice none 0 0, .slice none 0 0], []⟩ 8 (by kernel_rfl) (by kernel_rfl) (by kernel_rfl) (by kernel_rfl)) ?_
  intro W base args ds gs before hval0 hW hcnd _
  have hval : ∀ (j : Nat) t v, Try.f8.params[j]? = some t → args[j]? = some v → Value.okWide Try.prog W .any base t v := hval0
  have hW' := hW
  obtain ⟨p, q, hA0, hV, rfl, hfz, hnd⟩ := hW
  have hA : DataW.TrodAll enc Try.prog W 0 (fun _ => true) true Try.f8.params.toList args.toList ds p := hA0
  rw [Try.params8] at hA hval
  obtain ⟨v0, vs0, d0, ds0, p0, q0, hargs, rfl, rfl, h0, r0⟩ := trodAll_cons hA
  obtain ⟨v1, vs1, d1, ds1, p1, q1, rfl, rfl, rfl, h1, r1⟩ := trodAll_cons r0
  obtain ⟨v2, vs2, d2, ds2, p2, q2, rfl, rfl, rfl, h2, r2⟩ := trodAll_cons r1
  obtain ⟨rfl, rfl, rfl⟩ := trodAll_nil r2
  obtain rfl : args = #[v0, v1, v2] := by cases args; simp_all
  obtain ⟨rfl, rfl⟩ := trodVars_none hV
  have k0 := h0
  have k1 := h1
  have k2 := h2
  obtain ⟨p0, pub0, sec0, ad0, cap0, ops0, rfl, wc0, hO0⟩ := open_script h0 (hval 0 66 v0 rfl rfl)
  obtain ⟨ad1, cap1, xs1, rfl, S1⟩ := open_slice Try.underlying54 Try.underlying22 (by kernel_rfl) h1 (hval 1 54 v1 rfl rfl) (fun x hx => hW'.lt x (by simp [hx]))
  obtain ⟨ad2, cap2, xs2, rfl, S2⟩ := open_slice Try.underlying54 Try.underlying22 (by kernel_rfl) h2 (hval 2 54 v2 rfl rfl) (fun x hx => hW'.lt x (by simp [hx]))
  clear hA0 hval0
  simp only [List.append_nil] at hW'
  refine (walk p0 pub0 sec0 ad0 cap0 ops0 ad1 cap1 xs1 ad2 cap2 xs2 W wc0 hO0 S1 S2).mono fun e W' ⟨he, hg⟩ => ?_
  subst he
  exact ⟨_, rfl, post_of_below (pv := []) hW' (fun _ _ _ => (trodAll_cons_mk (shut_bool Try.underlying4 _) trodAll_mk0))
    (fun sp _ hsp => by subst hsp; exact (trodAll_cons_mk (Below.trod Try.laidOut (by kernel_rfl) (of_decide_eq_true (by kernel_rfl)) k0 hg (fun x hx => hW'.lt x (by simp [hx]))) (trodAll_cons_mk (Below.trod Try.laidOut (by kernel_rfl) (of_decide_eq_true (by kernel_rfl)) k1 hg (fun x hx => hW'.lt x (by simp [hx]))) (trodAll_cons_mk (Below.trod Try.laidOut (by kernel_rfl) (of_decide_eq_true (by kernel_rfl)) k2 hg (fun x hx => hW'.lt x (by simp [hx]))) trodAll_mk0)))) (fun _ _ => rfl) (by simp) hg⟩

theorem closed : joinedFacts Try.prog 8 Try.f8 Rows.gadgetUniqueSpec Rows.gadgetUniqueRow = true := by
  unfold joinedFacts
  rw [Try.mayEnter, Try.liftsFinal, Try.make]
  kernel_rfl

theorem proved : Rows.GadgetUniqueSaid :=
  OpenClaim.holds_of_wide 8 Try.f8 rfl rfl rfl rfl rfl rfl rfl ⟨rfl, rfl, rfl, rfl, rfl⟩ rfl rfl rfl rfl rfl (by kernel_rfl) Try.func8 closed
    (of_decide_eq_true (by kernel_rfl)) (by unfold Func.isWrapper; first | (rw [if_pos (by decide +kernel)]; kernel_rfl) | (rw [if_neg (by decide +kernel)]; exact ⟨rfl, rfl⟩))
    (fun os started H enc _ => lifted os started H enc)
#print axioms proved
end gadgetUnique
end Go.Proofs.Ytlgjnidphldiiaa
