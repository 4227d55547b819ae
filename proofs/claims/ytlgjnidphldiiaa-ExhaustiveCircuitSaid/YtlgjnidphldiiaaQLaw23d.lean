/- ExhaustiveCircuit: for the circuit of any gadgets, and any inputs, there is one satisfying assignment if the completion of the inputs satisfies the table, and none otherwise. -/
import Derived.Test.YtlgjnidphldiiaaQExXE
import Derived.Test.YtlgjnidphldiiaaQRefR
import Derived.Test.YtlgjnidphldiiaaQRunI
namespace Go.Proofs.Ytlgjnidphldiiaa
open Go.ChangeShapes Go.WideShapes Go.ChangeAt Go.RowKit
namespace exhaustiveCircuit

theorem run4_beg (p : Int) (H : List Hint4) : ∀ W : List Int, ∃ X, run4 p W H = W ++ X := by
  unfold run4
  induction H with
  | nil => exact fun W => ⟨[], by simp⟩
  | cons h H ih =>
    intro W
    obtain ⟨X, hX⟩ := ih (W ++ [hv4 p W h])
    exact ⟨hv4 p W h :: X, by rw [List.foldl_cons, hX, List.append_assoc]; rfl⟩
theorem fin_red {S : St} {I : List Int} (wf : Wf S I) : ∀ x ∈ fin S I, 0 ≤ x ∧ x < S.p := by
  have hp := vld_pos wf.v
  have : ∀ (H : List Hint4) (W : List Int), (∀ x ∈ W, 0 ≤ x ∧ x < S.p) → ∀ x ∈ run4 S.p W H, 0 ≤ x ∧ x < S.p := by
    intro H
    unfold run4
    induction H with
    | nil => exact fun W h => h
    | cons h H ih =>
      intro W hW
      rw [List.foldl_cons]
      refine ih _ fun x hx => ?_
      rcases List.mem_append.1 hx with h1 | h1
      · exact hW x h1
      · rw [List.mem_singleton] at h1; subst h1; exact hv4_bds wf.v W h
  refine this S.H _ fun x hx => ?_
  rcases List.mem_cons.1 hx with rfl | h1
  · omega
  · exact wf.i x h1
section
variable {p : Nat} {R : List Row3}
theorem lval_lt {hi : Int} (hv : vld (p : Int) = true) {x : Lin} (hx : LinIn p 0 hi x) {W : List Int} (hg : gtL x < W.length) (X : List Int) : lval p (W ++ X) x = lval p W x := by
  rw [lval_lsum hv, lval_lsum hv, lsum_more W X fun t ht => ?_]
  obtain ⟨y, u, rfl, h1, h2, h3, h4⟩ := lin_last hx (fun e => by rw [e] at ht; cases ht)
  rcases List.mem_append.1 ht with ht | ht
  · have := h1 t ht; omega
  · rw [List.mem_singleton] at ht; subst ht; omega
theorem sat_lt {V : Nat} (hv : vld (p : Int) = true) {r : Row3} (hr : RowOk p V r) {W : List Int} (hg : gtR r < W.length) (X : List Int) : satB p (W ++ X) r = satB p W r := by
  obtain ⟨⟨h1, _⟩, ⟨h2, _⟩, ⟨h3, _⟩⟩ := hr
  unfold gtR at hg
  unfold satB
  rw [lval_lt hv h1 (by omega) X, lval_lt hv h2 (by omega) X, lval_lt hv h3 (by omega) X]
theorem okAt_iff {W : List Int} : okAt p R W = true ↔ ∀ r ∈ R, gtR r = W.length - 1 → satB p W r = true := by
  unfold okAt rowsAt
  rw [List.all_eq_true]
  constructor
  · intro h r hr hg
    exact h r (List.mem_filter.2 ⟨hr, beq_iff_eq.2 hg⟩)
  · intro h r hr
    have := List.mem_filter.1 hr
    exact h r this.1 (beq_iff_eq.1 this.2)
theorem good_all {V : Nat} (hv : vld (p : Int) = true) (hR : ∀ r ∈ R, RowOk p V r) : ∀ (k : Nat) (W X : List Int), Good p R k W X → 1 ≤ W.length → (∀ r ∈ R, gtR r < W.length → satB p W r = true) → (∀ r ∈ R, gtR r < W.length + k) → ∀ r ∈ R, satB p (W ++ X) r = true
  | 0, W, X, h, _, h1, h2, r, hr => by
    have h : X = [] := h
    subst h
    rw [List.append_nil]
    exact h1 r hr (h2 r hr)
  | k + 1, W, X, h, h0, h1, h2, r, hr => by
    obtain ⟨x, Y, rfl, hx, hok, hY⟩ := h
    have e : W ++ (x : Int) :: Y = (W ++ [(x : Int)]) ++ Y := by simp
    rw [e]
    refine good_all hv hR k (W ++ [(x : Int)]) Y hY (by simp) (fun s hs hg => ?_) (fun s hs => by have := h2 s hs; rw [List.length_append, List.length_singleton]; omega) r hr
    rw [List.length_append, List.length_singleton] at hg
    by_cases hl : gtR s < W.length
    · rw [sat_lt hv (hR s hs) hl]; exact h1 s hs hl
    · exact okAt_iff.1 hok s hs (by rw [List.length_append, List.length_singleton]; omega)
theorem good_of {V : Nat} (hv : vld (p : Int) = true) (hR : ∀ r ∈ R, RowOk p V r) : ∀ (k : Nat) (W X : List Int), X.length = k → (∀ x ∈ X, 0 ≤ x ∧ x < (p : Int)) → 1 ≤ W.length → (∀ r ∈ R, satB p (W ++ X) r = true) → Good p R k W X
  | 0, W, X, h, _, _, _ => List.eq_nil_of_length_eq_zero h
  | k + 1, W, [], h, _, _, _ => by cases h
  | k + 1, W, x :: Y, h, hb, h0, hs => by
    obtain ⟨b1, b2⟩ := hb x (by simp)
    obtain ⟨n, rfl⟩ : ∃ n : Nat, x = (n : Int) := ⟨x.toNat, by omega⟩
    have e : W ++ (n : Int) :: Y = (W ++ [(n : Int)]) ++ Y := by simp
    rw [e] at hs
    refine ⟨n, Y, rfl, by omega, okAt_iff.2 fun r hr hg => ?_, good_of hv hR k _ Y (by simpa using h) (fun u hu => hb u (List.mem_cons_of_mem _ hu)) (by simp) hs⟩
    rw [← sat_lt hv (hR r hr) (by rw [hg, List.length_append, List.length_singleton]; omega) Y]
    exact hs r hr
theorem good_red : ∀ (k : Nat) (W X : List Int), Good p R k W X → X.length = k ∧ ∀ x ∈ X, 0 ≤ x ∧ x < (p : Int)
  | 0, W, X, h => by
    have h : X = [] := h
    subst h
    exact ⟨rfl, fun x hx => by cases hx⟩
  | k + 1, W, X, h => by
    obtain ⟨x, Y, rfl, hx, _, hY⟩ := h
    obtain ⟨h1, h2⟩ := good_red k _ Y hY
    refine ⟨by simp [h1], fun u hu => ?_⟩
    rcases List.mem_cons.1 hu with rfl | hu
    · omega
    · exact h2 u hu
theorem preOk_iff {V : Nat} (hv : vld (p : Int) = true) (hR : ∀ r ∈ R, RowOk p V r) {I : List Int} : preOk p R I = true ↔ ∀ r ∈ R, gtR r < 1 + I.length → satB p (1 :: I) r = true := by
  have e : ∀ k, (1 :: I : List Int) = (1 :: I.take k) ++ I.drop k := fun k => by rw [List.cons_append, List.take_append_drop]
  have len : ∀ k, k ≤ I.length → (1 :: I.take k : List Int).length = k + 1 := fun k hk => by rw [List.length_cons, List.length_take]; omega
  unfold preOk
  rw [decide_eq_true_iff]
  constructor
  · intro h r hr hg
    have h2 := okAt_iff.1 (h (gtR r) (by omega)) r hr (by rw [len _ (by omega)]; rfl)
    rw [e (gtR r), sat_lt hv (hR r hr) (by rw [len _ (by omega)]; omega)]
    exact h2
  · intro h k hk
    refine okAt_iff.2 fun r hr hg => ?_
    rw [len k (by omega), Nat.add_sub_cancel] at hg
    rw [← sat_lt hv (hR r hr) (by rw [len _ (by omega)]; omega) (I.drop k), ← e k]
    exact h r hr (by omega)
end
/-- The count of the assignments that begin with the inputs of a circuit. -/
theorem totN_cir {pub sec : Int} {I : List Int} {S : St} {VL : List Lin} {k : Nat} {p V : Nat} (h : RI p pub sec I S VL k) (hV : (V : Int) = S.vars) (hR : ∀ r ∈ S.R, RowOk p V r) {b : Bool} (hb : b = true ↔ ∀ r ∈ S.R, sat3 S.p (fin S I) r) : totN p S.R V I 5 = if b = true then 1 else 0 := by
  have hv : vld (p : Int) = true := by rw [← h.pp]; exact h.v
  have hSp := h.pp
  have hfl := h.wf.fin_len
  obtain ⟨X0, hX0⟩ := run4_beg S.p S.H (1 :: I)
  have hX0 : fin S I = (1 :: I) ++ X0 := hX0
  have hl := h.wf.len
  have hX0l : X0.length = V - (1 + I.length) := by
    have := congrArg List.length hX0
    rw [List.length_append, List.length_cons] at this
    omega
  have hVI : 1 + I.length ≤ V := by omega
  have hgt : ∀ r ∈ S.R, gtR r < V := fun r hr => by
    obtain ⟨⟨h1, _⟩, ⟨h2, _⟩, ⟨h3, _⟩⟩ := hR r hr
    have one : ∀ x : Lin, LinIn p 0 V x → gtL x < V := fun x hx => by
      by_cases e : x = []
      · subst e; show 0 < V; omega
      · obtain ⟨y, u, rfl, _, k2, k3, k4⟩ := lin_last hx e
        omega
    have a1 := one _ h1
    have a2 := one _ h2
    have a3 := one _ h3
    unfold gtR
    omega
  have h3 : ∀ W r, satB p W r = true ↔ sat3 S.p W r := fun W r => by
    unfold satB sat3
    rw [beq_iff_eq, hSp]
  have uq : preOk p S.R I = true → ∀ X, Good p S.R (V - (1 + I.length)) (1 :: I) X → (1 :: I) ++ X = fin S I := fun hpre X hX => by
    obtain ⟨x1, x2⟩ := good_red _ _ _ hX
    have hall := good_all hv hR _ _ _ hX (by simp) (fun r hr hg => (preOk_iff hv hR).1 hpre r hr (by rw [List.length_cons] at hg; omega)) (fun r hr => by have := hgt r hr; rw [List.length_cons]; omega)
    refine uq_all h.u h.wf ⟨fun x hx => ?_, X, rfl⟩ (by rw [List.length_append, List.length_cons]; omega) (fun r hr => by
      have h4 := (h3 _ r).1 (hall r hr)
      rw [hSp] at h4
      exact h4)
    show 0 ≤ x ∧ x < (p : Int)
    rcases List.mem_append.1 hx with hx | hx
    · rcases List.mem_cons.1 hx with rfl | hx
      · have := vld_pos hv; omega
      · have := h.wf.i x hx; omega
    · exact x2 x hx
  by_cases hs : ∀ r ∈ S.R, sat3 S.p (fin S I) r
  · rw [if_pos (hb.2 hs)]
    have hall : ∀ r ∈ S.R, satB p ((1 :: I) ++ X0) r = true := fun r hr => by rw [← hX0]; exact (h3 _ r).2 (hs r hr)
    have hpre : preOk p S.R I = true := (preOk_iff hv hR).2 fun r hr hg => by
      rw [← sat_lt hv (hR r hr) (by rw [List.length_cons]; omega) X0]
      exact hall r hr
    have hpos : 0 < cnt p S.R (V - (1 + I.length)) (1 :: I) := (cnt_pos p S.R _ _).2 ⟨X0, good_of hv hR _ _ _ hX0l (fun x hx => by
      have h5 := fin_red h.wf x (by rw [hX0]; exact List.mem_append_right _ hx)
      rw [hSp] at h5
      exact h5) (by simp) hall⟩
    have hone : cnt p S.R (V - (1 + I.length)) (1 :: I) ≤ 1 := cnt_one p S.R _ _ fun X Y hX hY => List.append_cancel_left ((uq hpre X hX).trans (uq hpre Y hY).symm)
    unfold totN
    rw [hpre, if_pos rfl]
    omega
  · rw [if_neg (fun h => hs (hb.1 h))]
    unfold totN
    by_cases hpre : preOk p S.R I = true
    · have h0 : cnt p S.R (V - (1 + I.length)) (1 :: I) = 0 := by
        refine Nat.eq_zero_of_not_pos fun hpos => hs fun r hr => ?_
        obtain ⟨X, hX⟩ := (cnt_pos p S.R _ _).1 hpos
        have hall := good_all hv hR _ _ _ hX (by simp) (fun r hr hg => (preOk_iff hv hR).1 hpre r hr (by rw [List.length_cons] at hg; omega)) (fun r hr => by have := hgt r hr; rw [List.length_cons]; omega)
        rw [← uq hpre X hX]
        exact (h3 _ r).1 (hall r hr)
      rw [if_pos hpre, h0]
      rfl
    · rw [if_neg hpre]

/-- What Count answers for the circuit. -/
theorem cnt_cir {pub sec : Int} {I : List Int} {S : St} {VL : List Lin} {k : Nat} {p : Int} (h : RI p pub sec I S VL k) (h97 : p ≤ 97) (hvars : S.vars ≤ 65536) (hr16 : S.R.length ≤ 16384) {R : List Rw} {H : List Hn} (eR : R.map Rw.val = S.R) (eH : H.map Hn.val = S.H) :
    cntN S.p S.pub S.vars R I 5 = (if rowsSat S.p (runH S.p (1 :: I) H) R = true then 1 else 0) ∧ cntE S.p S.pub S.vars R I 5 = 0 := by
  have hSp := h.pp
  have hv := h.v
  have hpp := vld_pos hv
  have hps := h.wf.pos
  have hT : tblOk S.p S.pub S.vars R = true := (cir_bd (cir_of h.wf hvars hr16 eR eH)).1
  have hlen := h.wf.len
  have hok : cntOk S.p S.pub S.vars R I 5 = true := by
    unfold cntOk
    rw [hT, decide_eq_true (show ((I.length : Nat) : Int) < S.vars by omega), allLt_all (fun k hk => (h.wf.i _ (getD_mem' hk 0)).2)]
    rfl
  have h257 : ¬ 257 < S.p := by omega
  have hsat := sat_of (I := I) eR eH
  obtain ⟨P, hP⟩ : ∃ P : Nat, (P : Int) = S.p := ⟨S.p.toNat, by omega⟩
  obtain ⟨V, hV⟩ : ∃ V : Nat, (V : Int) = S.vars := ⟨S.vars.toNat, by omega⟩
  have hP2 : S.p.toNat = P := by omega
  have hV2 : S.vars.toNat = V := by omega
  have hRow : ∀ r ∈ S.R, RowOk P V r := fun r hr => by
    obtain ⟨h1, h2, h3⟩ := h.wf.rows r hr
    have one : ∀ x : Lin, LinIn S.p 0 S.vars x → LinIn P 0 V x ∧ x.length ≤ 1000000 := fun x hx => by
      have := hx.len (by omega)
      rw [hP, hV]
      exact ⟨hx, by omega⟩
    exact ⟨one _ h1, one _ h2, one _ h3⟩
  have h2 : RI (P : Int) pub sec I S VL k := by rw [hP, hSp]; exact h
  unfold cntN cntE
  rw [hok, if_pos rfl, if_pos rfl, if_neg h257, if_neg h257, hP2, hV2, eR]
  exact ⟨totN_cir h2 hV hRow hsat, rfl⟩

set_option maxRecDepth 10000 in
set_option maxHeartbeats 64000000 in
theorem walk (p pub sec : Int) (oa : Option Addr) (oc : Nat) (ops : List Op5) (ia : Option Addr) (ic : Nat) (l : List Int) (w : World) (hp : (Lit.int .u64 p).wf = true ∧ isB pub ∧ isB sec) (SO : Ops5 w oa oc ops) (SL : SlP w .u64 ia ic l) :
    Calls Try.prog 13 #[.agg #[.int .u64 p, .int .u8 pub, .int .u8 sec, .slice oa ops.length oc], .slice ia l.length ic] w fun e w' => e = .returned (.bool true) ∧ Below w.heap.size w w' := by
  obtain ⟨_, ⟨pb1, pb2⟩, ⟨sb1, sb2⟩⟩ := hp
  have hl := SL.sl
  have hA := wfs_u64 SL.wf
  have z1 : ops.length ≤ 9223372036854775807 := by
    have h1 := SO.le
    have h2 := SO.mx
    simp only [maxLen] at h2
    omega
  have z2 : l.length ≤ 9223372036854775807 := by
    have h1 := SL.le
    have h2 := SL.max
    simp only [maxLen] at h2
    omega
  clear SL
  have cR := fun W => sRight_any p pub sec oa ops.length oc 5 W
  obtain ⟨r, hr⟩ : ∃ r, r = (vld p && decide (pub ≤ 4) && decide (sec ≤ 4) && decide ((ops.length : Int) ≤ 5)) := ⟨_, rfl⟩
  rw [← hr] at cR
  cases r with
  | false =>
    clear hr
    go_enter Try.func13, Try.ntmps13
    go_wp2_with fail
    refine name_calls fun W hN => ?_
    have g0 : Blk W w.heap.size #[.int .u64 p, .int .u8 pub, .int .u8 sec, .slice oa ops.length oc] 66 := by rw [hN]; exact Blk.newAt rfl
    have hB : Below w.heap.size w W := by rw [hN]; exact (Below.refl _ _).alloc (Nat.le_refl _) _
    clear hN
    refine (awake23 W).mono ?_
    rintro e w1 ⟨rfl, hb1⟩
    replace hB := below2 hB hb1
    replace g0 := g0.mono hb1
    clear hb1
    have k0 := g0.cell (j := 0) (v := .int .u64 p) rfl; have k1 := g0.cell (j := 1) (v := .int .u8 pub) rfl; have k2 := g0.cell (j := 2) (v := .int .u8 sec) rfl; have k3 := g0.cell (j := 3) (v := .slice oa ops.length oc) rfl
    go_wp2_with fail
    refine (cR w1).mono ?_
    rintro e w2 ⟨rfl, hb2⟩
    replace hB := below2 hB hb2
    replace g0 := g0.mono hb2
    clear k0 k1 k2 k3 cR hb2
    have k0 := g0.cell (j := 0) (v := .int .u64 p) rfl; have k1 := g0.cell (j := 1) (v := .int .u8 pub) rfl; have k2 := g0.cell (j := 2) (v := .int .u8 sec) rfl; have k3 := g0.cell (j := 3) (v := .slice oa ops.length oc) rfl
    go_wp2_with fail
    refine (awake23 w2).mono ?_
    rintro e w3 ⟨rfl, hb3⟩
    go_wp2
    go_ret
    exact ⟨rfl, below2 hB hb3⟩
  | true =>
    have hr2 := hr.symm
    simp only [Bool.and_eq_true, decide_eq_true_eq] at hr2
    obtain ⟨⟨⟨hv, hb1⟩, hb2⟩, hb3⟩ := hr2
    clear hr
    have hpp := vld_pos hv
    by_cases h97 : p ≤ 97
    · have h97N : ¬ 97 < p := by omega
      by_cases hl8 : l.length ≤ 8
      · have hl8I : ¬ (8 : Int) < l.length := by omega
        obtain ⟨N, hN0⟩ : ∃ N : Nat, (N : Int) = pub + sec := ⟨(pub + sec).toNat, by omega⟩
        have hNt : (pub + sec).toNat = N := by omega
        obtain ⟨I, hI⟩ : ∃ I, I = inpL p N l := ⟨_, rfl⟩
        have hIl : I.length = N := by rw [hI, inpL_len]
        have hIb : ∀ x ∈ I, 0 ≤ x ∧ x < p := by rw [hI]; exact inpL_bd (by omega) N l
        obtain ⟨Q, hQ⟩ : ∃ Q, Q = runO p ops (newS p pub sec, startL p (pub + sec).toNat) := ⟨_, rfl⟩
        have hRI : RI p pub sec I Q.1 Q.2 (0 + ops.length) := by
          rw [hQ]
          exact RI.run ops (RI.start hv hIb ⟨pb1, hb1, sb1, hb2⟩ (by rw [hIl, hN0]))
        have cq := fun W h => rRun_any p pub sec oa oc ops W hv ⟨pb1, hb1, sb1, hb2⟩ (SO.mono h) (by omega)
        rw [← hQ] at cq
        have cI := fun W h => Inputs_any p pub sec oa ops.length oc ia ic l W ⟨by omega, by omega⟩ ⟨pb1, pb2, sb1, sb2⟩ (hl.mono h) hA z2
        rw [hNt, ← hI] at cI
        obtain ⟨S, VL⟩ := Q
        have hIl8 : I.length ≤ 8 := by omega
        have hAI : AllW I := fun x hx => by have := hIb x hx; omega
        have hbd := hRI.bd
        have hbv : S.vars ≤ 4000 := by have := hbd.v; simp only at this; omega
        have hbr : S.R.length ≤ 4000 := by have := hbd.r; simp only at this; omega
        have hSp : S.p = p := hRI.pp
        have hFl := hRI.wf.fin_len
        have hFW := fin_W hRI.wf
        have hIlen := hRI.wf.ps.2.2
        have hCnt := hide (fun R H => cnt_cir (R := R) (H := H) hRI h97 (by show S.vars ≤ _; omega) (by show S.R.length ≤ _; omega))
        have hCir := hide (fun R H => cir_of (R := R) (H := H) hRI.wf (by show S.vars ≤ _; omega) (by show S.R.length ≤ _; omega))
        replace hRI := hide hRI
        replace hI := hide hI
        replace hIb := hide hIb
        replace hIl := hide hIl
        replace hN0 := hide hN0
        replace hQ := hide hQ
        replace hv := hide hv
        replace hFl := hide hFl
        replace hSp := hide hSp
        replace hIlen := hide hIlen
        clear hNt hbd
        go_enter Try.func13, Try.ntmps13
        go_wp2_with fail
        refine name_calls fun W hN => ?_
        have g0 : Blk W w.heap.size #[.int .u64 p, .int .u8 pub, .int .u8 sec, .slice oa ops.length oc] 66 := by rw [hN]; exact Blk.newAt rfl
        have hB : Below w.heap.size w W := by rw [hN]; exact (Below.refl _ _).alloc (Nat.le_refl _) _
        clear hN
        refine (awake23 W).mono ?_
        rintro e w1 ⟨rfl, hb1⟩
        replace hB := below2 hB hb1
        replace g0 := g0.mono hb1
        clear hb1
        have k0 := g0.cell (j := 0) (v := .int .u64 p) rfl; have k1 := g0.cell (j := 1) (v := .int .u8 pub) rfl; have k2 := g0.cell (j := 2) (v := .int .u8 sec) rfl; have k3 := g0.cell (j := 3) (v := .slice oa ops.length oc) rfl
        go_wp2_with fail
        refine (cR w1).mono ?_
        rintro e w2 ⟨rfl, hb2⟩
        replace hB := below2 hB hb2
        replace g0 := g0.mono hb2
        clear k0 k1 k2 k3 cR hb2
        have k0 := g0.cell (j := 0) (v := .int .u64 p) rfl; have k1 := g0.cell (j := 1) (v := .int .u8 pub) rfl; have k2 := g0.cell (j := 2) (v := .int .u8 sec) rfl; have k3 := g0.cell (j := 3) (v := .slice oa ops.length oc) rfl
        go_wp2_with fail
        refine (cq w2 hB).mono ?_
        rintro e w3 ⟨b, lv, Ls, rfl, ⟨vr, R, vh, H, bR⟩, ow, _, _, hb3⟩
        clear ow
        replace hB := below2 hB hb3
        replace g0 := g0.mono hb3
        clear k0 k1 k2 k3 cq hb3
        have k0 := g0.cell (j := 0) (v := .int .u64 p) rfl; have k1 := g0.cell (j := 1) (v := .int .u8 pub) rfl; have k2 := g0.cell (j := 2) (v := .int .u8 sec) rfl; have k3 := g0.cell (j := 3) (v := .slice oa ops.length oc) rfl
        go_wp2_with fail
        refine (cI w3 hB).mono ?_
        rintro e w4 ⟨vI, rfl, ownI, hb4⟩
        obtain ⟨fa, fc, rfl, sI, _, _⟩ := ownI.sl
        replace bR := bR.mono hb4
        replace hB := below2 hB hb4
        clear k0 k1 k2 k3 cI g0 hb4 ownI
        obtain ⟨ra, rc, rfl, slR, r1, r2, r3⟩ := bR.rows.sl
        obtain ⟨ha, hc, rfl, slH, q1, q2, q3⟩ := bR.hints.sl
        have hR : RowsP w4 ra rc R := RowsP.of_slg slR (fun r hr => ⟨(bR.rok r hr).1.ok, (bR.rok r hr).2.1.ok, (bR.rok r hr).2.2.ok⟩) r1 r2 r3
        have hH : HintsP w4 ha hc H := HintsP.of_slg slH (fun r hr => ⟨(bR.hok r hr).1.ok, (bR.hok r hr).2.1.ok, (bR.hok r hr).2.2⟩) q1 q2 q3
        have gb := bR.blk
        have hrun : runH S.p (1 :: I) H = fin S I := by rw [runH_val, bR.hv]; rfl
        obtain ⟨hc1, hc2⟩ := hCnt.out R H bR.rv bR.hv
        have hC := hCir.out R H bR.rv bR.hv
        clear bR slR slH r1 r2 r3 q1 q2 q3 hCnt hCir
        rw [hrun] at hc1
        have hT := (cir_bd hC).1
        have cS := fun W h1 wa wc h2 => rSat20_any S.p S.pub S.vars ra R rc wa wc (fin S I) W h1 h2 hFW hT hFl.out
        have cK := fun W h1 h2 => Complete_any S.p S.pub S.vars ra R rc S.sec ha H hc fa fc I W h1 h2 hAI hC hIlen.out
        have cN := fun W h1 h2 => Count_any S.p S.pub S.vars ra R rc fa fc I 5 W h1 h2 hAI (by omega) ⟨by omega, by omega⟩
        rw [hc1, hc2] at cN
        rw [hrun] at cK
        obtain ⟨q, hq⟩ : ∃ q, q = rowsSat S.p (fin S I) R := ⟨_, rfl⟩
        rw [← hq] at cN cS
        obtain ⟨F, hF⟩ : ∃ F, F = fin S I := ⟨_, rfl⟩
        rw [← hF] at cS cK
        replace hq := hide hq
        replace hF := hide hF
        replace hC := hide hC
        replace hT := hide hT
        clear hc1 hc2 hrun hFW hFl hIlen
        generalize S.p = sp at *
        generalize S.pub = spub at *
        generalize S.vars = svars at *
        generalize S.sec = ssec at *
        have kb0 := gb.cell (j := 0) (v := .int .u64 sp) rfl; have kb1 := gb.cell (j := 1) (v := .int .i64 spub) rfl; have kb2 := gb.cell (j := 2) (v := .int .i64 svars) rfl; have kb3 := gb.cell (j := 3) (v := .slice ra R.length rc) rfl
        go_wp2_with fail
        refine Rel.region_any Try.mixed fun w5 hb5 => ?_
        have hb45 : Below w4.heap.size w4 w5 := ((Below.refl _ _).alloc (Nat.le_refl _) _).trans (hb5.mono (by simp))
        have gt : Blk w5 w4.heap.size #[.int .u64 sp, .int .i64 spub, .int .i64 svars, .slice ra R.length rc] 34 := Blk.mono (Blk.new _ _ _) hb5
        replace gb := gb.mono hb45
        replace hB := below2 hB hb45
        replace hR := hR.mono hb45
        replace hH := hH.mono hb45
        replace sI := sI.mono hb45
        clear hb5 hb45 kb0 kb1 kb2 kb3
        refine Rel.any_held (fun W => (W.cell? ⟨w4.heap.size, 0, none⟩ = some (.int .u64 sp) ∧ W.cell? ⟨w4.heap.size, 1, none⟩ = some (.int .i64 spub) ∧ W.cell? ⟨w4.heap.size, 2, none⟩ = some (.int .i64 svars) ∧ W.cell? ⟨w4.heap.size, 3, none⟩ = some (.slice ra R.length rc)) ∧ (W.cell? ⟨b, 0, none⟩ = some (.int .u64 sp) ∧ W.cell? ⟨b, 1, none⟩ = some (.int .i64 spub) ∧ W.cell? ⟨b, 2, none⟩ = some (.int .i64 svars) ∧ W.cell? ⟨b, 3, none⟩ = some (.slice ra R.length rc) ∧ W.cell? ⟨b, 4, none⟩ = some (.int .i64 ssec) ∧ W.cell? ⟨b, 5, none⟩ = some (.slice ha H.length hc))) 7 ⟨⟨gt.cell (j := 0) rfl, gt.cell (j := 1) rfl, gt.cell (j := 2) rfl, gt.cell (j := 3) rfl⟩, gb.cell (j := 0) rfl, gb.cell (j := 1) rfl, gb.cell (j := 2) rfl, gb.cell (j := 3) rfl, gb.cell (j := 4) rfl, gb.cell (j := 5) rfl⟩ fun hH0 => ?_
        refine Rel.heldTake (v := ?_) 0 rfl (by kernel_rfl) (by kernel_rfl) (by kernel_rfl) (fun _ _ _ h => h) (by assumption) (by rfl) ?_ ?_
        rotate_left
        · (intro W hSw; (try dsimp only at hSw); go_simp; try with_reducible rfl)
        try simp only [Act.put, List.setIfInBounds_toArray, List.set_cons_zero, List.set_cons_succ]
        refine Rel.heldTake (v := ?_) 1 rfl (by kernel_rfl) (by kernel_rfl) (by kernel_rfl) (fun _ _ _ h => h) (by assumption) (by rfl) ?_ ?_
        rotate_left
        · (intro W hSw; (try dsimp only at hSw); go_simp; try with_reducible rfl)
        try simp only [Act.put, List.setIfInBounds_toArray, List.set_cons_zero, List.set_cons_succ]
        refine Rel.heldTake (v := ?_) 2 rfl (by kernel_rfl) (by kernel_rfl) (by kernel_rfl) (fun _ _ _ h => h) (by assumption) (by rfl) ?_ ?_
        rotate_left
        · (intro W hSw; (try dsimp only at hSw); go_simp; try with_reducible rfl)
        try simp only [Act.put, List.setIfInBounds_toArray, List.set_cons_zero, List.set_cons_succ]
        refine Rel.heldTake (v := ?_) 3 rfl (by kernel_rfl) (by kernel_rfl) (by kernel_rfl) (fun _ _ _ h => h) (by assumption) (by rfl) ?_ ?_
        rotate_left
        · (intro W hSw; (try dsimp only at hSw); go_simp; try with_reducible rfl)
        try simp only [Act.put, List.setIfInBounds_toArray, List.set_cons_zero, List.set_cons_succ]
        refine Rel.heldTake (v := ?_) 4 rfl (by kernel_rfl) (by kernel_rfl) (by kernel_rfl) (fun _ _ _ h => h) (by assumption) (by rfl) ?_ ?_
        rotate_left
        · (intro W hSw; (try dsimp only at hSw); go_simp; try with_reducible rfl)
        try simp only [Act.put, List.setIfInBounds_toArray, List.set_cons_zero, List.set_cons_succ]
        refine Rel.heldTake (v := ?_) 5 rfl (by kernel_rfl) (by kernel_rfl) (by kernel_rfl) (fun _ _ _ h => h) (by assumption) (by rfl) ?_ ?_
        rotate_left
        · (intro W hSw; (try dsimp only at hSw); go_simp; try with_reducible rfl)
        try simp only [Act.put, List.setIfInBounds_toArray, List.set_cons_zero, List.set_cons_succ]
        refine Rel.heldNext 6 rfl (by kernel_rfl) fun K hK => ?_
        go_simp
        refine (cK w5 hH sI).mono ?_
        rintro e w6 ⟨vF, rfl, ownF, hb6⟩
        obtain ⟨wa, wc, rfl, sF, _, _⟩ := ownF.sl
        replace gt := gt.mono hb6
        replace gb := gb.mono hb6
        replace hB := below2 hB hb6
        replace hR := hR.mono hb6
        replace sI := sI.mono hb6
        clear hb6 ownF cK hH
        refine hK.out _ _ ⟨⟨gt.cell (j := 0) rfl, gt.cell (j := 1) rfl, gt.cell (j := 2) rfl, gt.cell (j := 3) rfl⟩, gb.cell (j := 0) rfl, gb.cell (j := 1) rfl, gb.cell (j := 2) rfl, gb.cell (j := 3) rfl, gb.cell (j := 4) rfl, gb.cell (j := 5) rfl⟩ (fun hH1 => ?_)
        clear hK K
        try simp only [Act.put, List.setIfInBounds_toArray, List.set_cons_zero, List.set_cons_succ]
        refine Rel.heldLast 7 rfl (by kernel_rfl) rfl (by kernel_rfl) fun K hK => ?_
        go_simp
        refine (cS w6 hR wa wc sF).mono ?_
        rintro e w7 ⟨rfl, hb7⟩
        refine hK.out _ _ ?_
        clear hK K hH0 hH1 cS
        replace gt := gt.mono hb7
        replace hB := below2 hB hb7
        replace hR := hR.mono hb7
        replace sI := sI.mono hb7
        clear hb7 gb sF
        have k0 := gt.cell (j := 0) (v := .int .u64 sp) rfl; have k1 := gt.cell (j := 1) (v := .int .i64 spub) rfl; have k2 := gt.cell (j := 2) (v := .int .i64 svars) rfl; have k3 := gt.cell (j := 3) (v := .slice ra R.length rc) rfl
        cases q with
        | false =>
          go_wp2_with fail
          refine (cN w7 hR sI).mono ?_
          rintro e w8 ⟨rfl, hb8⟩
          replace hB := below2 hB hb8
          clear cN k0 k1 k2 k3 gt hb8
          go_wp2
          go_ret
          exact ⟨rfl, hB⟩
        | true =>
          go_wp2_with fail
          refine (cN w7 hR sI).mono ?_
          rintro e w8 ⟨rfl, hb8⟩
          replace hB := below2 hB hb8
          clear cN k0 k1 k2 k3 gt hb8
          go_wp2
          go_ret
          exact ⟨rfl, hB⟩
      · have hl8I : (8 : Int) < l.length := by omega
        clear hv
        go_enter Try.func13, Try.ntmps13
        go_wp2_with fail
        refine name_calls fun W hN => ?_
        have g0 : Blk W w.heap.size #[.int .u64 p, .int .u8 pub, .int .u8 sec, .slice oa ops.length oc] 66 := by rw [hN]; exact Blk.newAt rfl
        have hB : Below w.heap.size w W := by rw [hN]; exact (Below.refl _ _).alloc (Nat.le_refl _) _
        clear hN
        refine (awake23 W).mono ?_
        rintro e w1 ⟨rfl, hb1⟩
        replace hB := below2 hB hb1
        replace g0 := g0.mono hb1
        clear hb1
        have k0 := g0.cell (j := 0) (v := .int .u64 p) rfl; have k1 := g0.cell (j := 1) (v := .int .u8 pub) rfl; have k2 := g0.cell (j := 2) (v := .int .u8 sec) rfl; have k3 := g0.cell (j := 3) (v := .slice oa ops.length oc) rfl
        go_wp2_with fail
        refine (cR w1).mono ?_
        rintro e w2 ⟨rfl, hb2⟩
        replace hB := below2 hB hb2
        replace g0 := g0.mono hb2
        clear k0 k1 k2 k3 cR hb2
        have k0 := g0.cell (j := 0) (v := .int .u64 p) rfl; have k1 := g0.cell (j := 1) (v := .int .u8 pub) rfl; have k2 := g0.cell (j := 2) (v := .int .u8 sec) rfl; have k3 := g0.cell (j := 3) (v := .slice oa ops.length oc) rfl
        go_wp2_with fail
        refine (awake23 w2).mono ?_
        rintro e w3 ⟨rfl, hb3⟩
        go_wp2
        go_ret
        exact ⟨rfl, below2 hB hb3⟩
    · have h97I : 97 < p := by omega
      clear hv
      go_enter Try.func13, Try.ntmps13
      go_wp2_with fail
      refine name_calls fun W hN => ?_
      have g0 : Blk W w.heap.size #[.int .u64 p, .int .u8 pub, .int .u8 sec, .slice oa ops.length oc] 66 := by rw [hN]; exact Blk.newAt rfl
      have hB : Below w.heap.size w W := by rw [hN]; exact (Below.refl _ _).alloc (Nat.le_refl _) _
      clear hN
      refine (awake23 W).mono ?_
      rintro e w1 ⟨rfl, hb1⟩
      replace hB := below2 hB hb1
      replace g0 := g0.mono hb1
      clear hb1
      have k0 := g0.cell (j := 0) (v := .int .u64 p) rfl; have k1 := g0.cell (j := 1) (v := .int .u8 pub) rfl; have k2 := g0.cell (j := 2) (v := .int .u8 sec) rfl; have k3 := g0.cell (j := 3) (v := .slice oa ops.length oc) rfl
      go_wp2_with fail
      refine (cR w1).mono ?_
      rintro e w2 ⟨rfl, hb2⟩
      replace hB := below2 hB hb2
      replace g0 := g0.mono hb2
      clear k0 k1 k2 k3 cR hb2
      have k0 := g0.cell (j := 0) (v := .int .u64 p) rfl; have k1 := g0.cell (j := 1) (v := .int .u8 pub) rfl; have k2 := g0.cell (j := 2) (v := .int .u8 sec) rfl; have k3 := g0.cell (j := 3) (v := .slice oa ops.length oc) rfl
      go_wp2_with fail
      refine (awake23 w2).mono ?_
      rintro e w3 ⟨rfl, hb3⟩
      go_wp2
      go_ret
      exact ⟨rfl, below2 hB hb3⟩

set_option maxRecDepth 100000 in
theorem lifted (os : Os) (started : os.Started) (H : Type) (enc : TypeId × Value → H) :
    ReturnsInHanded {} Try.checked os 13 .any (Rows.exhaustiveCircuitSpec.pre6 enc Try.prog Try.f13 Rows.exhaustiveCircuitRow.domain false) (Rows.exhaustiveCircuitSpec.post enc Try.prog Try.f13 false true false false) := by
  refine returnsInHanded_of_change (C := Try.checked) own started (by kernel_rfl) Try.func13
    (ChangeSpec.witness6 (enc := enc) (C := Try.checked) false ⟨#[], #[.agg #[.int .u64 0, .int .u8 0, .int .u8 0, .slice none 0 0], .slice none 0 0], []⟩ 8 (by kernel_rfl) (by kernel_rfl) (by kernel_rfl) (by kernel_rfl)) ?_
  intro W base args ds gs before hval0 hW hcnd _
  have hval : ∀ (j : Nat) t v, Try.f13.params[j]? = some t → args[j]? = some v → Value.okWide Try.prog W .any base t v := hval0
  have hW' := hW
  obtain ⟨p, q, hA0, hV, rfl, hfz, hnd⟩ := hW
  have hA : DataW.TrodAll enc Try.prog W 0 (fun _ => true) true Try.f13.params.toList args.toList ds p := hA0
  rw [Try.params13] at hA hval
  obtain ⟨v0, vs0, d0, ds0, p0, q0, hargs, rfl, rfl, h0, r0⟩ := trodAll_cons hA
  obtain ⟨v1, vs1, d1, ds1, p1, q1, rfl, rfl, rfl, h1, r1⟩ := trodAll_cons r0
  obtain ⟨rfl, rfl, rfl⟩ := trodAll_nil r1
  obtain rfl : args = #[v0, v1] := by cases args; simp_all
  obtain ⟨rfl, rfl⟩ := trodVars_none hV
  have k0 := h0
  have k1 := h1
  obtain ⟨p0, pub0, sec0, ad0, cap0, ops0, rfl, wc0, hO0⟩ := open_script h0 (hval 0 66 v0 rfl rfl)
  obtain ⟨ad1, cap1, xs1, rfl, S1⟩ := open_slice Try.underlying54 Try.underlying22 (by kernel_rfl) h1 (hval 1 54 v1 rfl rfl) (fun x hx => hW'.lt x (by simp [hx]))
  clear hA0 hval0
  simp only [List.append_nil] at hW'
  refine (walk p0 pub0 sec0 ad0 cap0 ops0 ad1 cap1 xs1 W wc0 hO0 S1).mono fun e W' ⟨he, hg⟩ => ?_
  subst he
  exact ⟨_, rfl, post_of_below (pv := []) hW' (fun _ _ _ => (trodAll_cons_mk (shut_bool Try.underlying4 _) trodAll_mk0))
    (fun sp _ hsp => by subst hsp; exact (trodAll_cons_mk (Below.trod Try.laidOut (by kernel_rfl) (of_decide_eq_true (by kernel_rfl)) k0 hg (fun x hx => hW'.lt x (by simp [hx]))) (trodAll_cons_mk (Below.trod Try.laidOut (by kernel_rfl) (of_decide_eq_true (by kernel_rfl)) k1 hg (fun x hx => hW'.lt x (by simp [hx]))) trodAll_mk0))) (fun _ _ => rfl) (by simp) hg⟩

theorem closed : joinedFacts Try.prog 13 Try.f13 Rows.exhaustiveCircuitSpec Rows.exhaustiveCircuitRow = true := by
  unfold joinedFacts
  rw [Try.mayEnter, Try.liftsFinal, Try.make]
  kernel_rfl

theorem proved : Rows.ExhaustiveCircuitSaid :=
  OpenClaim.holds_of_wide 13 Try.f13 rfl rfl rfl rfl rfl rfl rfl ⟨rfl, rfl, rfl, rfl, rfl⟩ rfl rfl rfl rfl rfl (by kernel_rfl) Try.func13 closed
    (of_decide_eq_true (by kernel_rfl)) (by unfold Func.isWrapper; first | (rw [if_pos (by decide +kernel)]; kernel_rfl) | (rw [if_neg (by decide +kernel)]; exact ⟨rfl, rfl⟩))
    (fun os started H enc _ => lifted os started H enc)
#print axioms proved
end exhaustiveCircuit
end Go.Proofs.Ytlgjnidphldiiaa
