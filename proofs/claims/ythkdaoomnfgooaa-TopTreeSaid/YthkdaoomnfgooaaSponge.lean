/- The sponge: what absorbing computes, in plain Lean, and the program's walk. -/
import Derived.Test.YthkdaoomnfgooaaPermuteR
import Derived.Test.YthkdaoomnfgooaaSlice2
import Derived.Test.YthkdaoomnfgooaaNew
namespace Go.Proofs.Ythkdaoomnfgooaa
open Go.RowKit

def absL (p : Int) : List Int → T3 → T3
  | [], s => s
  | [x], s => permute p ⟨fadd p s.a x, s.b, s.c⟩
  | x :: y :: r, s => absL p r (permute p ⟨fadd p s.a x, fadd p s.b y, s.c⟩)
def absI (p lb n : Int) : T3 := ⟨0, 0, fadd p (fmul p lb 65536) n⟩
/-- What is still to be done at element number i. -/
def absF (p : Int) (xs : List Int) (i : Nat) (s : T3) : T3 := if i = 0 ∧ xs = [] then permute p s else absL p (xs.drop i) s
def absorb (p lb : Int) (xs : List Int) : T3 := absF p xs 0 (absI p lb xs.length)

theorem absI_W3 (p lb n : Int) : W3 (absI p lb n) := ⟨⟨Int.le_refl 0, by simp [absI]⟩, ⟨Int.le_refl 0, by simp [absI]⟩, fadd_bd _ _ _⟩

theorem absL_W3 (p : Int) : ∀ (xs : List Int) (s : T3), W3 s → W3 (absL p xs s)
  | [], _, h => h
  | [_], _, h => permute_W3 _ _ ⟨fadd_bd _ _ _, h.2.1, h.2.2⟩
  | _ :: _ :: r, _, h => absL_W3 p r _ (permute_W3 _ _ ⟨fadd_bd _ _ _, fadd_bd _ _ _, h.2.2⟩)

theorem absorb_W3 (p lb : Int) (xs : List Int) : W3 (absorb p lb xs) := by
  unfold absorb absF
  split
  · exact permute_W3 _ _ (absI_W3 _ _ _)
  · exact absL_W3 _ _ _ (absI_W3 _ _ _)

theorem absF_two (p : Int) (xs : List Int) (i : Nat) (s : T3) (h : i + 1 < xs.length) :
    absF p xs i s = absF p xs (i + 2) (permute p ⟨fadd p s.a (xs.getD i 0), fadd p s.b (xs.getD (i + 1) 0), s.c⟩) := by
  have hne : xs ≠ [] := by intro e; subst e; simp at h
  unfold absF
  rw [if_neg (fun h => hne h.2), if_neg (fun h => hne h.2)]
  have e : xs.drop i = xs.getD i 0 :: xs.getD (i + 1) 0 :: xs.drop (i + 2) := by
    rw [List.drop_eq_getElem_cons (by omega), List.drop_eq_getElem_cons (show i + 1 < xs.length by omega)]
    simp [List.getD_eq_getElem?_getD, List.getElem?_eq_getElem (show i < xs.length by omega), List.getElem?_eq_getElem h]
  rw [e, absL]

theorem absF_one (p : Int) (xs : List Int) (i : Nat) (s : T3) (h : i < xs.length) (h2 : ¬ i + 1 < xs.length) :
    absF p xs i s = absF p xs (i + 2) (permute p ⟨fadd p s.a (xs.getD i 0), s.b, s.c⟩) := by
  have hne : xs ≠ [] := by intro e; subst e; simp at h
  unfold absF
  rw [if_neg (fun h => hne h.2), if_neg (fun h => hne h.2)]
  have e : xs.drop i = [xs.getD i 0] := by
    rw [List.drop_eq_getElem_cons (by omega), List.drop_of_length_le (by omega)]
    simp [List.getD_eq_getElem?_getD, List.getElem?_eq_getElem h]
  rw [e, absL, List.drop_of_length_le (by omega), absL]

theorem absF_end (p : Int) (xs : List Int) (i : Nat) (s : T3) (h : xs.length ≤ i) (h0 : i ≠ 0) : absF p xs i s = s := by
  unfold absF
  rw [if_neg (fun h => h0 h.1), List.drop_of_length_le h, absL]

theorem absF_none (p : Int) (xs : List Int) (s : T3) (h : xs = []) : absF p xs 0 s = permute p s := by
  unfold absF
  rw [if_pos ⟨rfl, h⟩]

/-- The result's block, the field's, the state's. -/
structure AS (pr : Bool) (p : Int) (w wr : World) (bf bs : Nat) (s : T3) : Prop where
  res : Blk wr w.heap.size (A3 ⟨0, 0, 0⟩) 95
  fld : pr = true → Blk wr bf #[.int .u64 p] 94
  st : Blk wr bs (A3 s) 95
  b : Below w.heap.size w wr
  n : w.heap.size < bs
  df : bs ≠ bf

theorem AS.mono {pr : Bool} {p : Int} {w wr w2 : World} {bf bs : Nat} {x : T3} (H : AS pr p w wr bf bs x) (hb : Below wr.heap.size wr w2) : AS pr p w w2 bf bs x :=
  ⟨H.res.mono hb, fun h => (H.fld h).mono hb, H.st.mono hb, below2 H.b hb, H.n, H.df⟩

theorem AS.set {pr : Bool} {p : Int} {w wr : World} {bf bs : Nat} {x y : T3} (H : AS pr p w wr bf bs x) (k : Nat) (v : Value) (he : (A3 x).setIfInBounds k v = A3 y) : AS pr p w (wr.setCell ⟨bs, k, none⟩ v) bf bs y :=
  ⟨H.res.other (by have := H.n; omega) _ _, fun h => (H.fld h).other H.df _ _, by have := H.st.set k v; rwa [he] at this, H.b.setCell (Nat.le_of_lt H.n) _, H.n, H.df⟩

theorem AS.set3 {pr : Bool} {p : Int} {w wr : World} {bf bs : Nat} {x y : T3} (H : AS pr p w wr bf bs x) : AS pr p w (((wr.setCell ⟨bs, 0, none⟩ (.int .u64 y.a)).setCell ⟨bs, 1, none⟩ (.int .u64 y.b)).setCell ⟨bs, 2, none⟩ (.int .u64 y.c)) bf bs y :=
  ((H.set (y := ⟨y.a, x.b, x.c⟩) 0 _ rfl).set (y := ⟨y.a, y.b, x.c⟩) 1 _ rfl).set (y := y) 2 _ rfl

theorem AS.end_ {pr : Bool} {p : Int} {w wr : World} {bf bs : Nat} {x : T3} (H : AS pr p w wr bf bs x) (u v z : Value) :
    Below w.heap.size w (((wr.setCell ⟨w.heap.size, 0, none⟩ u).setCell ⟨w.heap.size, 1, none⟩ v).setCell ⟨w.heap.size, 2, none⟩ z) :=
  below_set3 H.b (Nat.le_refl _) _ _ _

set_option maxRecDepth 10000 in
set_option maxHeartbeats 4000000 in
theorem absorb_any (p lb : Int) (ad : Option Addr) (c : Nat) (xs : List Int) (w : World) (l0 : 0 ≤ lb) (l1 : lb < 18446744073709551616) (hs : Sl w .u64 ad xs) (hw : AllW xs) (hl : xs.length < 1099511627776) :
    Calls Try.prog 69 #[.int .u64 p, .int .u64 lb, .slice ad xs.length c] w fun e w' => e = .returned (.agg #[.int .u64 (absorb p lb xs).a, .int .u64 (absorb p lb xs).b, .int .u64 (absorb p lb xs).c]) ∧ Below w.heap.size w w' := by
  obtain ⟨R, hR⟩ : ∃ R, R = absorb p lb xs := ⟨_, rfl⟩
  rw [← hR]
  obtain ⟨s0, hs0⟩ : ∃ s0, s0 = absI p lb xs.length := ⟨_, rfl⟩
  have hW0 : W3 s0 := by rw [hs0]; exact absI_W3 _ _ _
  replace hR : absF p xs 0 s0 = R := by rw [hR, hs0]; rfl
  have m0 := fmul_bd p lb 65536
  obtain ⟨n, hn⟩ : ∃ n : Int, n = xs.length := ⟨_, rfl⟩
  have n0 : 0 ≤ n := by omega
  have n1 : n < 1099511627776 := by omega
  have sa : s0.a = 0 := by rw [hs0]; rfl
  have sb : s0.b = 0 := by rw [hs0]; rfl
  have sc : fadd p (fmul p lb 65536) n = s0.c := by rw [hs0, hn]; rfl
  have hcv : IntKind.u64.wrap (xs.length : Int) = n := by rw [IntKind.wrap_u64]; omega
  replace hR := hide hR
  clear hs0 hn
  go_enter Try.func69, Try.ntmps69
  go_wp2_with fail
  refine name_world fun W hW => ?_
  have g0 : Blk W w.heap.size (A3 ⟨0, 0, 0⟩) 95 := by rw [hW]; exact (Blk.newAt rfl).alloc _
  have g1 : Blk W (w.heap.size + 1) #[.int .u64 p] 94 := by rw [hW]; exact Blk.newAt (by simp)
  have hB : Below w.heap.size w W := by rw [hW]; exact ((Below.refl _ _).alloc (Nat.le_refl _) _).alloc (by simp) _
  have hz := hide (show W.heap.size = w.heap.size + 2 by rw [hW]; simp)
  clear hW
  have k0 := cell_later' (g1.cell (j := 0) (v := .int .u64 p) rfl)
  refine Rel.wp_region_mix 10 [9] [(9, NewA W.heap.size (A3 ⟨0, 0, 0⟩) 95)] Try.mixed (by kernel_rfl) (by kernel_rfl) ?_ ?_
  rotate_left
  simp only [List.take_succ_cons, List.take_zero, List.drop_succ_cons, List.drop_zero, List.map_cons, List.map_nil]
  repeat (first | (refine Rel.wpA_b (by rfl) ?_) | (refine Rel.wpA_step (by rfl) fun K hK => ?_; go_simp; first | (refine hK _ ?_; clear hK K) | (apply Exists.intro; refine ⟨fun _ => ?_, hK _ ?_⟩; (first | (go_at_call 74; exact Mul_any _ _ _ _ (by omega) (by omega) (by omega) (by omega)) | (go_at_call 73; exact Add_any _ _ _ _ (by omega) (by omega) (by omega) (by omega))); clear hK K)))
  refine Rel.wpA_nil ?_
  rotate_left
  · intro z hz v u u' h1 h2
    simp only [List.mem_cons, List.not_mem_nil, or_false] at hz
    subst hz
    exact NewA.keep h1 h2
  refine Rel.wpB_step _ rfl rfl (fun p' hc => ?_) (fun v9 => ?_)
  · go_simp
    exact rUpon_alloc3 _ _ _ _
  refine Rel.wpB_nil ?_
  intro p' hctx hfr
  simp only [List.nil_append, List.mem_cons, List.not_mem_nil, or_false, forall_eq] at hctx
  obtain ⟨bs, rfl, n9, g9⟩ := hctx
  have hb2 : Below W.heap.size W (later W p') := below_later _ _
  clear hfr k0 hcv
  generalize later W p' = w2 at *
  have hz1 := hz.out
  have H0 : AS true p w w2 (w.heap.size + 1) bs ⟨0, 0, 0⟩ := ⟨g0.mono hb2, fun _ => g1.mono hb2, g9, below2 hB hb2, by omega, by omega⟩
  clear hb2 g0 g1 g9 hB hz hz1 n9
  have q0 := H0.st.cell (j := 0) (v := .int .u64 0) rfl; have q1 := H0.st.cell (j := 1) (v := .int .u64 0) rfl; have q2 := H0.st.cell (j := 2) (v := .int .u64 0) rfl
  have f9 := H0.st.free
  have H : AS true p w (((w2.setCell ⟨bs, 0, none⟩ (.int .u64 0)).setCell ⟨bs, 1, none⟩ (.int .u64 0)).setCell ⟨bs, 2, none⟩ (.int .u64 s0.c)) (w.heap.size + 1) bs s0 := by
    have := H0.set3 (y := s0)
    rwa [sa, sb] at this
  have hP0 : ∀ W : World, Calls Try.prog 75 #[.int .u64 p, .agg #[.int .u64 0, .int .u64 0, .int .u64 s0.c]] W fun e w' => e = .returned (.agg #[.int .u64 (permute p s0).a, .int .u64 (permute p s0).b, .int .u64 (permute p s0).c]) ∧ Below W.heap.size W w' := fun W => by
    have := Permute_any p s0 W hW0
    rwa [sa, sb] at this
  clear sa sb sc m0
  by_cases he : xs.length = 0
  · have hR' : permute p s0 = R := by rw [← hR.out, absF_none p xs s0 (List.eq_nil_of_length_eq_zero he)]
    rw [hR'] at hP0
    clear hR hR' hW0
    go_wp2_with fail
    refine name_calls fun W' hW' => ?_
    rw [← hW'] at H
    refine (hP0 W').mono ?_
    clear hW' q0 q1 q2 f9 H0
    rintro e w3 ⟨rfl, hb3⟩
    replace H := H.mono hb3
    have y0 := H.res.cell (j := 0) (v := .int .u64 0) rfl
    have y1 := H.res.cell (j := 1) (v := .int .u64 0) rfl
    have y2 := H.res.cell (j := 2) (v := .int .u64 0) rfl
    have f := H.res.free
    go_wp2
    exact bodyPost_ret (v := .agg #[.int .u64 R.a, .int .u64 R.b, .int .u64 R.c]) (by simp [results, Try.results69, go_sem, y0, y1, y2]) rfl ⟨rfl, H.end_ _ _ _⟩
  · clear hP0
    have hne : ((xs.length : Int) == 0) = false := by
      rw [beq_eq_false_iff_ne]
      omega
    go_wp2_with fail
    clear hne q0 q1 q2 f9 H0
    go_loopw [9] (fun t9 wr => ∃ i : Nat, i ≤ xs.length + 1 ∧ t9 = .int .i64 i ∧ ∃ s, W3 s ∧ AS true p w wr (w.heap.size + 1) bs s ∧ Hid (absF p xs i s = R)) (fun t9 _ => xs.length + 1 - (intOf t9).toNat)
    case atStart => exact ⟨0, by omega, rfl, s0, hW0, H, hR⟩
    case round =>
      obtain ⟨i, hi, rfl, s, sW, G, hG⟩ := hrel
      clear H hR
      by_cases hlt : i < xs.length
      · obtain ⟨b, off, rfl, hbl, hc⟩ := (hs.mono G.b).get hlt
        obtain ⟨x0, x1⟩ := hw.get hlt
        obtain ⟨x, hx⟩ : ∃ x, x = xs.getD i 0 := ⟨_, rfl⟩
        rw [← hx] at hc x0 x1
        have k0 := cell_later' ((G.fld rfl).cell (j := 0) (v := .int .u64 p) rfl)
        have k1 := cell_later' (G.st.cell (j := 0) (v := .int .u64 s.a) rfl)
        have k2 := cell_later' hc
        obtain ⟨⟨s1, s2⟩, ⟨s3, s4⟩, s5⟩ := sW
        have y' := G.st.cell (j := 0) (v := .int .u64 s.a) rfl
        by_cases h2 : i + 1 < xs.length
        · obtain ⟨y0, y1⟩ := hw.get h2
          obtain ⟨y, hy⟩ : ∃ y, y = xs.getD (i + 1) 0 := ⟨_, rfl⟩
          have hst := absF_two p xs i s h2
          rw [← hx, ← hy, hG.out] at hst
          obtain ⟨s', hs'⟩ : ∃ s' : T3, s' = ⟨fadd p s.a x, fadd p s.b y, s.c⟩ := ⟨_, rfl⟩
          have sW' : W3 s' := by rw [hs']; exact ⟨fadd_bd _ _ _, fadd_bd _ _ _, s5⟩
          have pW' : W3 (permute p s') := permute_W3 p s' sW'
          have ea : fadd p s.a x = s'.a := by rw [hs']
          have eb : fadd p s.b y = s'.b := by rw [hs']
          have ec : s'.c = s.c := by rw [hs']
          rw [← hs'] at hst
          have hP : ∀ W : World, Calls Try.prog 75 #[.int .u64 p, .agg #[.int .u64 s'.a, .int .u64 s'.b, .int .u64 s.c]] W fun e w' => e = .returned (.agg #[.int .u64 (permute p s').a, .int .u64 (permute p s').b, .int .u64 (permute p s').c]) ∧ Below W.heap.size W w' := fun W => by rw [← ec]; exact Permute_any p s' W sW'
          obtain ⟨q, hq⟩ : ∃ q, q = permute p s' := ⟨_, rfl⟩
          rw [← hq] at hst hP pW'
          have Hst := hide hst.symm
          clear hq
          rw [← hy] at y0 y1
          replace hy := hide hy
          clear hst hs' hx hG y'
          go_wp2_with fail
          refine Rel.wp_region_later_tail 8 Try.mixed (by kernel_rfl) ?_
          simp only [List.take_succ_cons, List.take_zero, List.drop_succ_cons, List.drop_zero]
          repeat (first | go_big_quiet_step (first | (go_at_call 73; exact Calls.later_of (Add_any _ _ _ _ (by omega) (by omega) (by omega) (by omega)))) | quiet_step (first | (go_at_call 73; exact Calls.later_of (Add_any _ _ _ _ (by omega) (by omega) (by omega) (by omega)))))
          refine wpQuiet_nil ?_
          intro w3 hb3
          replace hb3 := below_of_later hb3
          replace G := G.mono hb3
          have y' := G.st.cell (j := 0) (v := .int .u64 s.a) rfl
          have f := G.st.free
          clear k0 k1 k2 hb3
          go_wp2_with fail
          refine name_world fun W2 hW2 => ?_
          have G2 : AS true p w W2 (w.heap.size + 1) bs ⟨s'.a, s.b, s.c⟩ := by rw [hW2]; exact G.set 0 _ rfl
          clear hW2 y' f G
          obtain ⟨b', off', hbb, _, hc'⟩ := (hs.mono G2.b).get h2
          cases hbb
          rw [← hy.out] at hc'
          have k0 := cell_later' ((G2.fld rfl).cell (j := 0) (v := .int .u64 p) rfl)
          have k1 := cell_later' (G2.st.cell (j := 1) (v := .int .u64 s.b) rfl)
          have k2 := cell_later' hc'
          refine Rel.wp_region_later_tail 9 Try.mixed (by kernel_rfl) ?_
          simp only [List.take_succ_cons, List.take_zero, List.drop_succ_cons, List.drop_zero]
          repeat (first | go_big_quiet_step (first | (go_at_call 73; exact Calls.later_of (Add_any _ _ _ _ (by omega) (by omega) (by omega) (by omega)))) | quiet_step (first | (go_at_call 73; exact Calls.later_of (Add_any _ _ _ _ (by omega) (by omega) (by omega) (by omega)))))
          refine wpQuiet_nil ?_
          intro w4 hb4
          replace hb4 := below_of_later hb4
          replace G2 := G2.mono hb4
          have c0 := G2.st.cell (j := 0) (v := .int .u64 s'.a) rfl; have c1 := G2.st.cell (j := 1) (v := .int .u64 s.b) rfl; have c2 := G2.st.cell (j := 2) (v := .int .u64 s.c) rfl
          have f := G2.st.free
          have G3 : AS true p w (w4.setCell ⟨bs, 1, none⟩ (.int .u64 s'.b)) (w.heap.size + 1) bs s' := by
            refine G2.set 1 _ ?_
            have : A3 s' = #[.int .u64 s'.a, .int .u64 s'.b, .int .u64 s.c] := by rw [A3, ec]
            rw [this]
            rfl
          clear k0 k1 k2 hb4 G2
          go_wp2_with fail
          refine name_calls fun W3' hW3 => ?_
          clear c0 c1 c2 f ec
          rw [← hW3] at G3
          refine (hP W3').mono ?_
          clear hW3
          rintro e w5 ⟨rfl, hb5⟩
          replace G3 := G3.mono hb5
          clear hb5
          have c0 := G3.st.cell (j := 0) (v := .int .u64 s'.a) rfl; have c1 := G3.st.cell (j := 1) (v := .int .u64 s'.b) rfl; have c2 := G3.st.cell (j := 2) (v := .int .u64 s'.c) rfl
          have f5 := G3.st.free
          go_wp2
          go_roundw
          case rel => exact ⟨i + 2, by omega, by go_num, q, pW', G3.set3, Hst⟩
          case measure => simp [intOf]; omega
        · have hst := absF_one p xs i s hlt h2
          rw [← hx, hG.out] at hst
          obtain ⟨s', hs'⟩ : ∃ s' : T3, s' = ⟨fadd p s.a x, s.b, s.c⟩ := ⟨_, rfl⟩
          have sW' : W3 s' := by rw [hs']; exact ⟨fadd_bd _ _ _, ⟨s3, s4⟩, s5⟩
          have pW' : W3 (permute p s') := permute_W3 p s' sW'
          have ea : fadd p s.a x = s'.a := by rw [hs']
          have eb : s'.b = s.b := by rw [hs']
          have ec : s'.c = s.c := by rw [hs']
          rw [← hs'] at hst
          have hP : ∀ W : World, Calls Try.prog 75 #[.int .u64 p, .agg #[.int .u64 s'.a, .int .u64 s.b, .int .u64 s.c]] W fun e w' => e = .returned (.agg #[.int .u64 (permute p s').a, .int .u64 (permute p s').b, .int .u64 (permute p s').c]) ∧ Below W.heap.size W w' := fun W => by rw [← ec, ← eb]; exact Permute_any p s' W sW'
          obtain ⟨q, hq⟩ : ∃ q, q = permute p s' := ⟨_, rfl⟩
          rw [← hq] at hst hP pW'
          have Hst := hide hst.symm
          clear hq hst hs' hx hG y'
          go_wp2_with fail
          refine Rel.wp_region_later_tail 8 Try.mixed (by kernel_rfl) ?_
          simp only [List.take_succ_cons, List.take_zero, List.drop_succ_cons, List.drop_zero]
          repeat (first | go_big_quiet_step (first | (go_at_call 73; exact Calls.later_of (Add_any _ _ _ _ (by omega) (by omega) (by omega) (by omega)))) | quiet_step (first | (go_at_call 73; exact Calls.later_of (Add_any _ _ _ _ (by omega) (by omega) (by omega) (by omega)))))
          refine wpQuiet_nil ?_
          intro w3 hb3
          replace hb3 := below_of_later hb3
          replace G := G.mono hb3
          have c0 := G.st.cell (j := 0) (v := .int .u64 s.a) rfl; have c1 := G.st.cell (j := 1) (v := .int .u64 s.b) rfl; have c2 := G.st.cell (j := 2) (v := .int .u64 s.c) rfl
          have f := G.st.free
          have G3 : AS true p w (w3.setCell ⟨bs, 0, none⟩ (.int .u64 s'.a)) (w.heap.size + 1) bs s' := by
            refine G.set 0 _ ?_
            have : A3 s' = #[.int .u64 s'.a, .int .u64 s.b, .int .u64 s.c] := by rw [A3, ec, eb]
            rw [this]
            rfl
          clear k0 k1 k2 hb3 G
          go_wp2_with fail
          refine name_calls fun W3' hW3 => ?_
          clear c0 c1 c2 f ec eb
          rw [← hW3] at G3
          refine (hP W3').mono ?_
          clear hW3
          rintro e w5 ⟨rfl, hb5⟩
          replace G3 := G3.mono hb5
          clear hb5
          have c0 := G3.st.cell (j := 0) (v := .int .u64 s'.a) rfl; have c1 := G3.st.cell (j := 1) (v := .int .u64 s'.b) rfl; have c2 := G3.st.cell (j := 2) (v := .int .u64 s'.c) rfl
          have f5 := G3.st.free
          go_wp2
          go_roundw
          case rel => exact ⟨i + 2, by omega, by go_num, q, pW', G3.set3, Hst⟩
          case measure => simp [intOf]; omega
      · have hRs : s = R := by rw [← hG.out, absF_end p xs i s (by omega) (by omega)]
        subst hRs
        have c0 := G.st.cell (j := 0) (v := .int .u64 s.a) rfl; have c1 := G.st.cell (j := 1) (v := .int .u64 s.b) rfl; have c2 := G.st.cell (j := 2) (v := .int .u64 s.c) rfl
        have y0 := G.res.cell (j := 0) (v := .int .u64 0) rfl
        have y1 := G.res.cell (j := 1) (v := .int .u64 0) rfl
        have y2 := G.res.cell (j := 2) (v := .int .u64 0) rfl
        have f := G.res.free
        go_wp2
        exact bodyPost_ret (v := .agg #[.int .u64 s.a, .int .u64 s.b, .int .u64 s.c]) (by simp [results, Try.results69, go_sem, y0, y1, y2]) rfl ⟨rfl, G.end_ _ _ _⟩

end Go.Proofs.Ythkdaoomnfgooaa
