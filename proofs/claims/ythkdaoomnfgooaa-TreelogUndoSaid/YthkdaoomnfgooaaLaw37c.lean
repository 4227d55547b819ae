/- TreelogUndo: Further leaves that are removed again leave no trace. -/
import Derived.Test.YthkdaoomnfgooaaTreeZ
namespace Go.Proofs.Ythkdaoomnfgooaa
open Go.ChangeShapes Go.WideShapes Go.ChangeAt Go.RowKit
namespace treelogUndo

/-- Leaves are appended, as far as they go. -/
def growL (n : Nat) (m xs : List Int) : List Int := xs.foldl (tappL n) m
theorem tapp_len (n : Nat) (m : List Int) (x : Int) : m.length ≤ (tappL n m x).length := by
  unfold tappL; split
  · split
    · exact Nat.le_refl _
    · simp
  · exact Nat.le_refl _
theorem tapp_take (n : Nat) (m : List Int) (x : Int) {k : Nat} (h : k ≤ m.length) : (tappL n m x).take k = m.take k := by
  unfold tappL; split
  · split
    · rfl
    · rw [List.take_append_of_le_length h]
  · rfl
theorem grow_len (n : Nat) : ∀ (xs m : List Int), m.length ≤ (growL n m xs).length
  | [], _ => Nat.le_refl _
  | x :: xs, m => Nat.le_trans (tapp_len n m x) (grow_len n xs (tappL n m x))
theorem grow_take' (n : Nat) : ∀ (xs m : List Int) (k : Nat), k ≤ m.length → (growL n m xs).take k = m.take k
  | [], _, _, _ => rfl
  | x :: xs, m, k, h => by
    show (growL n (tappL n m x) xs).take k = _
    rw [grow_take' n xs _ k (Nat.le_trans h (tapp_len n m x)), tapp_take n m x h]
theorem grow_take (n : Nat) (m xs : List Int) : (growL n m xs).take m.length = m := by
  rw [grow_take' n xs m _ (Nat.le_refl _), List.take_length]
theorem grow_ok {n : Nat} : ∀ {xs m : List Int}, okL n m → AllW xs → okL n (growL n m xs)
  | [], _, h, _ => h
  | x :: xs, m, h, hw => grow_ok (xs := xs) (m := tappL n m x) (app_ok h (hw x List.mem_cons_self).1) fun y hy => hw y (List.mem_cons_of_mem _ hy)
theorem grow_step {n : Nat} {m xs : List Int} {i : Nat} (h : i < xs.length) : growL n m (xs.take (i + 1)) = tappL n (growL n m (xs.take i)) (xs.getD i 0) := by
  unfold growL
  rw [take_succ_getD xs 0 h, List.foldl_append]; rfl

set_option maxRecDepth 10000 in
set_option maxHeartbeats 4000000 in
theorem walk (d : Int) (ad : Option Addr) (cap : Nat) (ops : List (Bool × Int)) (bd : Option Addr) (cbp : Nat) (more : List Int) (w : World) (_ : (Lit.int .i64 d).wf = true) (S : OpP w ad cap ops) (U : SlP w .u64 bd cbp more) :
    Calls Try.prog 14 #[.int .i64 d, .slice ad ops.length cap, .slice bd more.length cbp] w fun e w' => e = .returned (.bool true) ∧ Below w.heap.size w w' := by
  by_cases h40 : 30 < ops.length
  · have h40' : (30 : Int) < ops.length := by omega
    clear S U
    go_enter Try.func14, Try.ntmps14
    go_wp2_with fail
    refine (awake37 _).mono ?_
    rintro ew1 w1 ⟨rfl, hb1⟩
    go_wp2_with fail
    refine (awake37 _).mono ?_
    rintro ew2 w2 ⟨rfl, hb2⟩
    go_wp2
    go_ret
    exact ⟨rfl, below2 hb1 hb2⟩
  have h40' : (ops.length : Int) ≤ 30 := by omega
  by_cases h20 : 20 < more.length
  · have h20' : (20 : Int) < more.length := by omega
    clear S U
    go_enter Try.func14, Try.ntmps14
    go_wp2_with fail
    refine (awake37 _).mono ?_
    rintro ew1 w1 ⟨rfl, hb1⟩
    go_wp2_with fail
    refine (awake37 _).mono ?_
    rintro ew2 w2 ⟨rfl, hb2⟩
    go_wp2
    go_ret
    exact ⟨rfl, below2 hb1 hb2⟩
  have h20' : (more.length : Int) ≤ 20 := by omega
  have ht := U.sl
  have hwt := wfs_u64 U.wf
  clear U
  by_cases hd : 1 ≤ d ∧ d ≤ 12
  · obtain ⟨n, rfl⟩ := Int.eq_ofNat_of_zero_le (show 0 ≤ d by omega)
    have h1 : 1 ≤ n := by omega
    have h2 : n ≤ 12 := by omega
    have cP := fun (W : World) hs => play_any n ad cap ops W hs S.w h1 h2 (by omega)
    have hok := play_ok (d := n) S.w
    have hs := S.s
    generalize playL n ops = m at *
    have hm4 : m.length ≤ 4096 := Nat.le_trans hok.1 (pow_le12 h2).2
    have hmW := okL_W hok
    clear S hd
    go_enter Try.func14, Try.ntmps14
    go_wp2_with fail
    refine (awake37 _).mono ?_
    rintro ew1 w1 ⟨rfl, hb1⟩
    go_wp2_with fail
    refine (cP w1 (hs.mono hb1)).mono ?_
    rintro e w2 ⟨bL, bV, vs, v, rfl, I⟩
    obtain ⟨a, c, rfl, sm, hmc, _⟩ := Own.sl I.O
    have hB := below2 hb1 I.B
    have T := I.T
    clear cP
    have cT := fun (W : World) (vs : Nat → Value) h hz => TTruncate_any W w1.heap.size bL bV n vs (growL n m more) m.length h h1 h2 (Nat.le_trans (grow_ok hok hwt).1 (pow_le12 h2).2) (okL_W (grow_ok hok hwt)) hz
    have hin2 : 0 ≤ (m.length : Int) ∧ (m.length : Int) ≤ (growL n m more).length := ⟨by omega, by have := grow_len n more m; omega⟩
    unfold tcutE tcutL at cT
    simp only [if_pos hin2, Int.toNat_natCast, grow_take] at cT
    have cS := fun (W : World) (vs : Nat → Value) h hs => same37_any W w1.heap.size bL bV n vs m a c h hs hok h1 h2
    have cA : ∀ (i : Nat) (_ : i < more.length) (vs : Nat → Value) (W : World), (LogS W w1.heap.size bL bV n vs fun k => lev k (growL n m (more.take i))) → w1.heap.size ≤ W.heap.size → Calls Try.prog 45 #[.pointer (some ⟨bL, 0, none⟩), .int .u64 (more.getD i 0)] W fun e w' => e = .returned (.int .i64 (tappE n (growL n m (more.take i)) (more.getD i 0))) ∧ LogR W w' w1.heap.size bL bV n vs fun k => lev k (growL n m (more.take (i + 1))) := fun i hi vs W h hz => by
      have hg : okL n (growL n m (more.take i)) := grow_ok hok fun x hx => hwt x (List.mem_of_mem_take hx)
      rw [grow_step hi]
      exact TAppend_any W w1.heap.size bL bV n vs _ _ h h1 h2 (hwt.get hi) hg.1 (okL_W hg) hz
    have I0 : LogS w2 w1.heap.size bL bV n vs fun k => lev k (growL n m (more.take 0)) := T
    have hn0 := hide I.n
    have hO := I.O
    have hz2 := I.B.size
    clear hok hmW hin2 T sm I hmc
    go_wp2_with fail
    go_loopw [41] (fun t41 wr => ∃ (i : Nat) (vs : Nat → Value), i ≤ more.length ∧ t41 = .int .i64 i ∧ (LogS wr w1.heap.size bL bV n vs fun k => lev k (growL n m (more.take i))) ∧ Own wr w1.heap.size 30 .u64 (.slice a m.length c) m ∧ Hid (∀ g, (Value.slice a m.length c).ownBlock = some g → ¬ inLog bV n vs g) ∧ Below w.heap.size w wr ∧ w1.heap.size ≤ wr.heap.size) (fun t41 _ => more.length - (intOf t41).toNat)
    case atStart => exact ⟨0, vs, by omega, rfl, I0, hO, hn0, hB, hz2⟩
    case round =>
      clear I0 hO hn0 hB hz2
      obtain ⟨i, vs, hi, rfl, T, hO, hn, hB, hz⟩ := hrel
      by_cases hlt : i < more.length
      · have hlt' : (i : Int) < more.length := by omega
        have cA2 := cA i hlt vs
        obtain ⟨b, off, rfl, _, hc⟩ := (ht.mono hB).get hlt
        obtain ⟨x, hx⟩ : ∃ x, x = more.getD i 0 := ⟨_, rfl⟩
        rw [← hx] at hc cA2
        generalize tappE n (growL n m (more.take i)) x = E at *
        clear hx cA cT cS
        go_wp2_with fail
        refine (cA2 wr T hz).mono ?_
        rintro e w5 ⟨rfl, vs5, T5, i5, k5⟩
        have o5 := keep_own k5 i5 hO hn.out
        have hB5 := k5.below hB (fun i hi => Nat.le_trans hb1.size (T.low i hi)) hB.size
        have hz5 := Nat.le_trans hz k5.size
        have n5 := hide o5.2
        replace o5 := o5.1
        clear cA2 T i5 k5 hO hB hz hn
        go_wp2
        go_roundw
        case rel => exact ⟨i + 1, vs5, by omega, by go_num, T5, o5, n5, hB5, hz5⟩
        case measure => simp [intOf]; omega
      · obtain rfl : i = more.length := by omega
        rw [List.take_length] at T
        clear cA
        go_wp2_with fail
        refine (cT wr vs T hz).mono ?_
        rintro e w5 ⟨rfl, vs5, T5, i5, k5⟩
        have o5 := (keep_own k5 i5 hO hn.out).1
        obtain ⟨_, _, he, s5, _, _⟩ := Own.sl o5
        injection he with he1 he2 he3
        subst he1
        clear he2 he3
        have hB5 := k5.below hB (fun i hi => Nat.le_trans hb1.size (T.low i hi)) hB.size
        clear cT
        go_wp2_with fail
        refine (cS w5 vs5 T5 s5).mono ?_
        rintro e w6 ⟨rfl, hb6⟩
        clear cS
        go_wp2
        go_ret
        exact ⟨rfl, below2 hB5 hb6⟩
  · have cP := fun W : World => play_bad d ad ops.length cap W (by omega)
    clear S hd
    go_enter Try.func14, Try.ntmps14
    go_wp2_with fail
    refine (awake37 _).mono ?_
    rintro ew1 w1 ⟨rfl, hb1⟩
    go_wp2_with fail
    refine (cP w1).mono ?_
    rintro e w2 ⟨rfl, hb2⟩
    clear cP
    go_wp2
    go_ret
    exact ⟨rfl, below2 hb1 hb2⟩

set_option maxRecDepth 100000 in
theorem lifted (os : Os) (started : os.Started) (H : Type) (enc : TypeId × Value → H) :
    ReturnsInHanded {} Try.checked os 14 .any (Rows.treelogUndoSpec.pre6 enc Try.prog Try.f14 Rows.treelogUndoRow.domain false) (Rows.treelogUndoSpec.post enc Try.prog Try.f14 false true false false) := by
  refine returnsInHanded_of_change (C := Try.checked) own started (by kernel_rfl) Try.func14
    (ChangeSpec.witness6 (enc := enc) (C := Try.checked) false ⟨#[], #[.int .i64 0, .slice none 0 0, .slice none 0 0], []⟩ 8 (by kernel_rfl) (by kernel_rfl) (by kernel_rfl) (by kernel_rfl)) ?_
  intro W base args ds gs before hval0 hW hcnd _
  have hval : ∀ (j : Nat) t v, Try.f14.params[j]? = some t → args[j]? = some v → Value.okWide Try.prog W .any base t v := hval0
  have hW' := hW
  obtain ⟨p, q, hA0, hV, rfl, hfz, hnd⟩ := hW
  have hA : DataW.TrodAll enc Try.prog W 0 (fun _ => true) true Try.f14.params.toList args.toList ds p := hA0
  rw [Try.params14] at hA hval
  obtain ⟨v0, vs0, d0, ds0, p0, q0, hargs, rfl, rfl, h0, r0⟩ := trodAll_cons hA
  obtain ⟨v1, vs1, d1, ds1, p1, q1, rfl, rfl, rfl, h1, r1⟩ := trodAll_cons r0
  obtain ⟨v2, vs2, d2, ds2, p2, q2, rfl, rfl, rfl, h2, r2⟩ := trodAll_cons r1
  obtain ⟨rfl, rfl, rfl⟩ := trodAll_nil r2
  obtain rfl : args = #[v0, v1, v2] := by cases args; simp_all
  obtain ⟨rfl, rfl⟩ := trodVars_none hV
  have k1 := h1
  have k2 := h2
  obtain ⟨a0, rfl, rfl, rfl, w0⟩ := open_int Try.underlying3 (hval 0 3 v0 rfl rfl) h0
  obtain ⟨ad1, cap1, ops1, rfl, S1⟩ := open_ops Try.underlying57 Try.underlying85 (by kernel_rfl) rfl rfl (by kernel_rfl) (by kernel_rfl) Try.underlying4 Try.underlying30 h1 (hval 1 57 v1 rfl rfl)
  obtain ⟨ad2, cap2, xs2, rfl, S2⟩ := open_slice Try.underlying22 Try.underlying30 (by kernel_rfl) h2 (hval 2 22 v2 rfl rfl) (fun x hx => hW'.lt x (by simp [hx]))
  clear hA0 hval0
  simp only [List.append_nil] at hW'
  refine (walk a0 ad1 cap1 ops1 ad2 cap2 xs2 W w0 S1 S2).mono fun e W' ⟨he, hg⟩ => ?_
  subst he
  exact ⟨_, rfl, post_of_below (pv := []) hW' (fun _ _ _ => (trodAll_cons_mk (shut_bool Try.underlying4 _) trodAll_mk0))
    (fun sp _ hsp => by subst hsp; exact (trodAll_cons_mk (shut_int Try.underlying3 w0) (trodAll_cons_mk (Below.trod Try.laidOut (by kernel_rfl) (of_decide_eq_true (by kernel_rfl)) k1 hg (fun x hx => hW'.lt x (by simp [hx]))) (trodAll_cons_mk (Below.trod Try.laidOut (by kernel_rfl) (of_decide_eq_true (by kernel_rfl)) k2 hg (fun x hx => hW'.lt x (by simp [hx]))) trodAll_mk0)))) (fun _ _ => rfl) (by simp) hg⟩

theorem closed : joinedFacts Try.prog 14 Try.f14 Rows.treelogUndoSpec Rows.treelogUndoRow = true := by
  unfold joinedFacts
  rw [Try.mayEnter, Try.liftsFinal, Try.make]
  kernel_rfl

theorem proved : Rows.TreelogUndoSaid :=
  OpenClaim.holds_of_wide 14 Try.f14 rfl rfl rfl rfl rfl rfl rfl ⟨rfl, rfl, rfl, rfl, rfl⟩ rfl rfl rfl rfl rfl (by kernel_rfl) Try.func14 closed
    (of_decide_eq_true (by kernel_rfl)) (by unfold Func.isWrapper; first | (rw [if_pos (by decide +kernel)]; kernel_rfl) | (rw [if_neg (by decide +kernel)]; exact ⟨rfl, rfl⟩))
    (fun os started H enc _ => lifted os started H enc)
#print axioms proved
end treelogUndo
end Go.Proofs.Ythkdaoomnfgooaa
