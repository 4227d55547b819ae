/- The permutation: what it computes, in plain Lean, and the walks of the program and of the reference. -/
import Derived.Test.YtalmgeefkcebdaaGreatDoorQ05
namespace Go.Proofs.YtalmgeefkcebdaaGreatDoor
open Go.RowKit

def sbox (p r i x : Int) : Int := fpow p (fadd p x (fconst p r i)) (fexp p)
def sub3 (p r : Int) (s : T3) : T3 := ⟨sbox p r 0 s.a, sbox p r 1 s.b, sbox p r 2 s.c⟩
def permN (p : Int) : Nat → T3 → T3
  | 0, s => s
  | k + 1, s => mix p (sub3 p k (permN p k s))
def permute (p : Int) (s : T3) : T3 := if vld p then permN p 8 s else ⟨0, 0, 0⟩

theorem sub3_W3 (p r : Int) (s : T3) : W3 (sub3 p r s) := ⟨fpow_bd _ _ _, fpow_bd _ _ _, fpow_bd _ _ _⟩
theorem permN_W3 (p : Int) : ∀ (n : Nat) (s : T3), W3 s → W3 (permN p n s)
  | 0, _, h => h
  | _ + 1, _, _ => mix_W3 _ _
theorem permute_W3 (p : Int) (s : T3) (h : W3 s) : W3 (permute p s) := by
  unfold permute
  split
  · exact permN_W3 _ _ _ h
  · exact ⟨by decide, by decide, by decide⟩

theorem permN_succ (p r : Int) (s : T3) (h : 0 ≤ r) : permN p (r + 1).toNat s = mix p (sub3 p r (permN p r.toNat s)) := by
  obtain ⟨n, rfl⟩ := Int.eq_ofNat_of_zero_le h
  rfl

theorem fexp_bd (p : Int) : 0 ≤ fexp p ∧ fexp p < 18446744073709551616 := by
  unfold fexp fnum
  split <;> (try decide)
  repeat (split <;> (try decide))

/-- The first k elements of t, the others of s. -/
def upto (k : Nat) (s t : T3) : T3 := ⟨if 0 < k then t.a else s.a, if 1 < k then t.b else s.b, if 2 < k then t.c else s.c⟩

/-- A state in its block, the result's block behind it, the field in a third. -/
structure PS (pr : Bool) (p : Int) (w wr : World) (x : T3) : Prop where
  src : Blk wr w.heap.size (A3 x) 24
  res : Blk wr (w.heap.size + 1) (A3 ⟨0, 0, 0⟩) 24
  fld : pr = true → Blk wr (w.heap.size + 2) #[.int .u64 p] 72
  b : Below w.heap.size w wr

theorem PS.mono {pr : Bool} {p : Int} {w wr w2 : World} {x : T3} (H : PS pr p w wr x) (hb : Below wr.heap.size wr w2) : PS pr p w w2 x :=
  ⟨H.src.mono hb, H.res.mono hb, fun h => (H.fld h).mono hb, below2 H.b hb⟩

theorem PS.set {pr : Bool} {p : Int} {w wr : World} {x y : T3} (H : PS pr p w wr x) (k : Nat) (v : Value) (he : (A3 x).setIfInBounds k v = A3 y) : PS pr p w (wr.setCell ⟨w.heap.size, k, none⟩ v) y :=
  ⟨by have := H.src.set k v; rwa [he] at this, H.res.other (by omega) _ _, fun h => (H.fld h).other (by omega) _ _, H.b.setCell (Nat.le_refl _) _⟩

theorem PS.set3 {pr : Bool} {p : Int} {w wr : World} {x y : T3} (H : PS pr p w wr x) : PS pr p w (((wr.setCell ⟨w.heap.size, 0, none⟩ (.int .u64 y.a)).setCell ⟨w.heap.size, 1, none⟩ (.int .u64 y.b)).setCell ⟨w.heap.size, 2, none⟩ (.int .u64 y.c)) y :=
  ((H.set (y := ⟨y.a, x.b, x.c⟩) 0 _ rfl).set (y := ⟨y.a, y.b, x.c⟩) 1 _ rfl).set (y := y) 2 _ rfl

theorem PS.end_ {pr : Bool} {p : Int} {w wr : World} {x : T3} (H : PS pr p w wr x) (u v z : Value) :
    Below w.heap.size w (((wr.setCell ⟨w.heap.size + 1, 0, none⟩ u).setCell ⟨w.heap.size + 1, 1, none⟩ v).setCell ⟨w.heap.size + 1, 2, none⟩ z) :=
  ((H.b.setCell (by simp) _).setCell (by simp) _).setCell (by simp) _


set_option maxRecDepth 10000 in
set_option maxHeartbeats 4000000 in
theorem rPermute_any (p : Int) (s : T3) (w : World) (hs : W3 s) :
    Calls Tryz.prog 57 #[.int .u64 p, .agg #[.int .u64 s.a, .int .u64 s.b, .int .u64 s.c]] w fun e w' => e = .returned (.agg #[.int .u64 (permute p s).a, .int .u64 (permute p s).b, .int .u64 (permute p s).c]) ∧ Below w.heap.size w w' := by
  obtain ⟨R, hR⟩ : ∃ R, R = permute p s := ⟨_, rfl⟩
  rw [← hR]
  by_cases hv : vld p = true
  · replace hR : R = permN p 8 s := by rw [hR, permute, if_pos hv]
    replace hR := hide hR
    go_enter Tryz.func57, Tryz.ntmps57
    go_wp2_with fail
    refine name_calls fun W hW => ?_
    have H : PS false p w W s := by
      rw [hW]
      exact ⟨(Blk.newAt rfl).alloc _, Blk.newAt (by simp), fun h => (by cases h), ((Below.refl _ _).alloc (Nat.le_refl _) _).alloc (by simp) _⟩
    clear hW
    refine (rValid_any p W).mono ?_
    rintro e1 w1 ⟨rfl, hb1⟩
    replace H := H.mono hb1
    clear hb1
    rw [hv]
    have E := fexp_bd p
    obtain ⟨ex, hex⟩ : ∃ ex, ex = fexp p := ⟨_, rfl⟩
    have hE : ∀ W : World, Calls Tryz.prog 111 #[.int .u64 p] W fun e w' => e = .returned (.int .u64 ex) ∧ Below W.heap.size W w' := fun W => by rw [hex]; exact rExponent_any p W
    rw [← hex] at E
    replace hex := hide hex
    go_wp2_with fail
    go_loopw [5] (fun t5 wr => ∃ r : Int, 0 ≤ r ∧ r ≤ 8 ∧ t5 = .int .i64 r ∧ PS false p w wr (permN p r.toNat s)) (fun t5 _ => 8 - (intOf t5).toNat)
    case atStart => exact ⟨0, by omega, by omega, rfl, H⟩
    case round =>
      obtain ⟨r, r0, r8, rfl, G⟩ := hrel
      clear H
      by_cases hlt : r < 8
      · have hnext := permN_succ p r s r0
        obtain ⟨x, hx⟩ : ∃ x, x = permN p r.toNat s := ⟨_, rfl⟩
        have hxW : W3 x := by rw [hx]; exact permN_W3 _ _ _ hs
        rw [← hx] at G hnext
        obtain ⟨y, hy⟩ : ∃ y, y = sub3 p r x := ⟨_, rfl⟩
        have hyW : W3 y := by rw [hy]; exact sub3_W3 _ _ _
        have ya : fpow p (fadd p x.a (fconst p r 0)) ex = y.a := by rw [hy, hex.out]; rfl
        have yb : fpow p (fadd p x.b (fconst p r 1)) ex = y.b := by rw [hy, hex.out]; rfl
        have yc : fpow p (fadd p x.c (fconst p r 2)) ex = y.c := by rw [hy, hex.out]; rfl
        rw [← hy] at hnext
        replace hnext := hide hnext
        clear hx hy
        have G0 : PS false p w wr (upto 0 x y) := G
        clear G
        go_wp2_with fail
        go_loopw [6] (fun t6 wr2 => ∃ k : Nat, k ≤ 3 ∧ t6 = .int .i64 k ∧ PS false p w wr2 (upto k x y)) (fun t6 _ => 3 - (intOf t6).toNat)
        case atStart => exact ⟨0, by omega, rfl, G0⟩
        case round =>
          obtain ⟨k, hk, rfl, G⟩ := hrel
          clear G0
          obtain ⟨⟨x0, x1⟩, ⟨x2, x3⟩, x4, x5⟩ := hxW
          by_cases hlt3 : k < 3
          · obtain rfl | rfl | rfl : k = 0 ∨ k = 1 ∨ k = 2 := by omega
            · have k0 := cell_later' (G.src.cell (j := 0) (v := .int .u64 x.a) rfl)
              have n1 := fconst_bd p r 0
              have n2 := fadd_bd p x.a (fconst p r 0)
              go_wp2_with fail
              refine Rel.wp_region_later_tail 14 Tryz.mixed (by kernel_rfl) ?_
              simp only [List.take_succ_cons, List.take_zero, List.drop_succ_cons, List.drop_zero]
              repeat (first | go_big_quiet_step (first | (go_at_call 110; exact Calls.later_of (rConstant_any _ _ _ _)) | (go_at_call 55; exact Calls.later_of (rAdd_any _ _ _ _ (by omega) (by omega) (by omega) (by omega))) | (go_at_call 111; exact Calls.later_of (hE _)) | (go_at_call 109; exact Calls.later_of (rPow_any _ _ _ _ (by omega) (by omega) (by omega) (by omega)))) | quiet_step (first | (go_at_call 110; exact Calls.later_of (rConstant_any _ _ _ _)) | (go_at_call 55; exact Calls.later_of (rAdd_any _ _ _ _ (by omega) (by omega) (by omega) (by omega))) | (go_at_call 111; exact Calls.later_of (hE _)) | (go_at_call 109; exact Calls.later_of (rPow_any _ _ _ _ (by omega) (by omega) (by omega) (by omega)))))
              refine wpQuiet_nil ?_
              intro w3 hb3
              replace hb3 := below_of_later hb3
              replace G := G.mono hb3
              have y' := G.src.cell (j := 0) (v := .int .u64 x.a) rfl
              have f := G.src.free 0
              go_wp2
              go_roundw
              case rel => exact ⟨1, by omega, rfl, G.set 0 _ (by rfl)⟩
              case measure => simp [intOf]

            · have k0 := cell_later' (G.src.cell (j := 1) (v := .int .u64 x.b) rfl)
              have n1 := fconst_bd p r 1
              have n2 := fadd_bd p x.b (fconst p r 1)
              go_wp2_with fail
              refine Rel.wp_region_later_tail 14 Tryz.mixed (by kernel_rfl) ?_
              simp only [List.take_succ_cons, List.take_zero, List.drop_succ_cons, List.drop_zero]
              repeat (first | go_big_quiet_step (first | (go_at_call 110; exact Calls.later_of (rConstant_any _ _ _ _)) | (go_at_call 55; exact Calls.later_of (rAdd_any _ _ _ _ (by omega) (by omega) (by omega) (by omega))) | (go_at_call 111; exact Calls.later_of (hE _)) | (go_at_call 109; exact Calls.later_of (rPow_any _ _ _ _ (by omega) (by omega) (by omega) (by omega)))) | quiet_step (first | (go_at_call 110; exact Calls.later_of (rConstant_any _ _ _ _)) | (go_at_call 55; exact Calls.later_of (rAdd_any _ _ _ _ (by omega) (by omega) (by omega) (by omega))) | (go_at_call 111; exact Calls.later_of (hE _)) | (go_at_call 109; exact Calls.later_of (rPow_any _ _ _ _ (by omega) (by omega) (by omega) (by omega)))))
              refine wpQuiet_nil ?_
              intro w3 hb3
              replace hb3 := below_of_later hb3
              replace G := G.mono hb3
              have y' := G.src.cell (j := 1) (v := .int .u64 x.b) rfl
              have f := G.src.free 1
              go_wp2
              go_roundw
              case rel => exact ⟨2, by omega, rfl, G.set 1 _ (by rfl)⟩
              case measure => simp [intOf]

            · have k0 := cell_later' (G.src.cell (j := 2) (v := .int .u64 x.c) rfl)
              have n1 := fconst_bd p r 2
              have n2 := fadd_bd p x.c (fconst p r 2)
              go_wp2_with fail
              refine Rel.wp_region_later_tail 14 Tryz.mixed (by kernel_rfl) ?_
              simp only [List.take_succ_cons, List.take_zero, List.drop_succ_cons, List.drop_zero]
              repeat (first | go_big_quiet_step (first | (go_at_call 110; exact Calls.later_of (rConstant_any _ _ _ _)) | (go_at_call 55; exact Calls.later_of (rAdd_any _ _ _ _ (by omega) (by omega) (by omega) (by omega))) | (go_at_call 111; exact Calls.later_of (hE _)) | (go_at_call 109; exact Calls.later_of (rPow_any _ _ _ _ (by omega) (by omega) (by omega) (by omega)))) | quiet_step (first | (go_at_call 110; exact Calls.later_of (rConstant_any _ _ _ _)) | (go_at_call 55; exact Calls.later_of (rAdd_any _ _ _ _ (by omega) (by omega) (by omega) (by omega))) | (go_at_call 111; exact Calls.later_of (hE _)) | (go_at_call 109; exact Calls.later_of (rPow_any _ _ _ _ (by omega) (by omega) (by omega) (by omega)))))
              refine wpQuiet_nil ?_
              intro w3 hb3
              replace hb3 := below_of_later hb3
              replace G := G.mono hb3
              have y' := G.src.cell (j := 2) (v := .int .u64 x.c) rfl
              have f := G.src.free 2
              go_wp2
              go_roundw
              case rel => exact ⟨3, by omega, rfl, G.set 2 _ (by rfl)⟩
              case measure => simp [intOf]

          · obtain rfl : k = 3 := by omega
            replace G : PS false p w wr y := G
            have m0 := G.src.cell (j := 0) (v := .int .u64 y.a) rfl
            have m1 := G.src.cell (j := 1) (v := .int .u64 y.b) rfl
            have m2 := G.src.cell (j := 2) (v := .int .u64 y.c) rfl
            go_wp2_with fail
            refine (rMix_any p y _ hyW).mono ?_
            rintro e w4 ⟨rfl, hb4⟩
            replace G := G.mono hb4
            have f := G.src.free
            clear m0 m1 m2
            have m0 := G.src.cell (j := 0) (v := .int .u64 y.a) rfl
            have m1 := G.src.cell (j := 1) (v := .int .u64 y.b) rfl
            have m2 := G.src.cell (j := 2) (v := .int .u64 y.c) rfl
            go_wp2
            go_roundw
            case rel => exact ⟨r + 1, by omega, by omega, rfl, by rw [hnext.out]; exact G.set3⟩
            case measure => simp [intOf]; omega
      · obtain rfl : r = 8 := by omega
        have G' : PS false p w wr R := by rw [hR.out]; exact G
        clear G
        have m0 := G'.src.cell (j := 0) (v := .int .u64 R.a) rfl
        have m1 := G'.src.cell (j := 1) (v := .int .u64 R.b) rfl
        have m2 := G'.src.cell (j := 2) (v := .int .u64 R.c) rfl
        have y0 := G'.res.cell (j := 0) (v := .int .u64 0) rfl
        have y1 := G'.res.cell (j := 1) (v := .int .u64 0) rfl
        have y2 := G'.res.cell (j := 2) (v := .int .u64 0) rfl
        have f := G'.res.free
        go_wp2
        exact bodyPost_ret (v := .agg #[.int .u64 R.a, .int .u64 R.b, .int .u64 R.c]) (by simp [results, Tryz.results57, go_sem, y0, y1, y2]) rfl ⟨rfl, G'.end_ _ _ _⟩
  · have hv := vld_no hv
    replace hR : R = ⟨0, 0, 0⟩ := by rw [hR, permute, hv]; rfl
    subst hR
    go_enter Tryz.func57, Tryz.ntmps57
    go_wp2_with fail
    refine name_calls fun W hW => ?_
    have H : PS false p w W s := by
      rw [hW]
      exact ⟨(Blk.newAt rfl).alloc _, Blk.newAt (by simp), fun h => (by cases h), ((Below.refl _ _).alloc (Nat.le_refl _) _).alloc (by simp) _⟩
    clear hW
    refine (rValid_any p W).mono ?_
    rintro e1 w1 ⟨rfl, hb1⟩
    replace H := H.mono hb1
    clear hb1
    rw [hv]
    have y0 := H.res.cell (j := 0) (v := .int .u64 0) rfl
    have y1 := H.res.cell (j := 1) (v := .int .u64 0) rfl
    have y2 := H.res.cell (j := 2) (v := .int .u64 0) rfl
    have f := H.res.free
    go_wp2
    exact bodyPost_ret (v := .agg #[.int .u64 0, .int .u64 0, .int .u64 0]) (by simp [results, Tryz.results57, go_sem, y0, y1, y2]) rfl ⟨rfl, H.end_ _ _ _⟩


def absL (p : Int) : List Int → T3 → T3
  | [], s => s
  | [x], s => permute p ⟨fadd p s.a x, s.b, s.c⟩
  | x :: y :: r, s => absL p r (permute p ⟨fadd p s.a x, fadd p s.b y, s.c⟩)
def absI (p lb n : Int) : T3 := ⟨0, 0, fadd p (fmul p lb 65536) n⟩
/-- What is still to be done at element number i. -/
def absF (p : Int) (xs : List Int) (i : Nat) (s : T3) : T3 := if i = 0 ∧ xs = [] then permute p s else absL p (xs.drop i) s
def absorb (p lb : Int) (xs : List Int) : T3 := absF p xs 0 (absI p lb xs.length)

theorem absI_W3 (p lb n : Int) : W3 (absI p lb n) := ⟨⟨Int.le_refl 0, by simp [absI]⟩, ⟨Int.le_refl 0, by simp [absI]⟩, fadd_bd _ _ _⟩

theorem absL_W3 (p : Int) : ∀ (xs : List Int) (s : T3), W3 s → W3 (absL p xs s)
  | [], _, h => h
  | [_], _, h => permute_W3 _ _ ⟨fadd_bd _ _ _, h.2.1, h.2.2⟩
  | _ :: _ :: r, _, h => absL_W3 p r _ (permute_W3 _ _ ⟨fadd_bd _ _ _, fadd_bd _ _ _, h.2.2⟩)

theorem absorb_W3 (p lb : Int) (xs : List Int) : W3 (absorb p lb xs) := by
  unfold absorb absF
  split
  · exact permute_W3 _ _ (absI_W3 _ _ _)
  · exact absL_W3 _ _ _ (absI_W3 _ _ _)

theorem absF_two (p : Int) (xs : List Int) (i : Nat) (s : T3) (h : i + 1 < xs.length) :
    absF p xs i s = absF p xs (i + 2) (permute p ⟨fadd p s.a (xs.getD i 0), fadd p s.b (xs.getD (i + 1) 0), s.c⟩) := by
  have hne : xs ≠ [] := by intro e; subst e; simp at h
  unfold absF
  rw [if_neg (fun h => hne h.2), if_neg (fun h => hne h.2)]
  have e : xs.drop i = xs.getD i 0 :: xs.getD (i + 1) 0 :: xs.drop (i + 2) := by
    rw [List.drop_eq_getElem_cons (by omega), List.drop_eq_getElem_cons (show i + 1 < xs.length by omega)]
    simp [List.getD_eq_getElem?_getD, List.getElem?_eq_getElem (show i < xs.length by omega), List.getElem?_eq_getElem h]
  rw [e, absL]

theorem absF_one (p : Int) (xs : List Int) (i : Nat) (s : T3) (h : i < xs.length) (h2 : ¬ i + 1 < xs.length) :
    absF p xs i s = absF p xs (i + 2) (permute p ⟨fadd p s.a (xs.getD i 0), s.b, s.c⟩) := by
  have hne : xs ≠ [] := by intro e; subst e; simp at h
  unfold absF
  rw [if_neg (fun h => hne h.2), if_neg (fun h => hne h.2)]
  have e : xs.drop i = [xs.getD i 0] := by
    rw [List.drop_eq_getElem_cons (by omega), List.drop_of_length_le (by omega)]
    simp [List.getD_eq_getElem?_getD, List.getElem?_eq_getElem h]
  rw [e, absL, List.drop_of_length_le (by omega), absL]

theorem absF_end (p : Int) (xs : List Int) (i : Nat) (s : T3) (h : xs.length ≤ i) (h0 : i ≠ 0) : absF p xs i s = s := by
  unfold absF
  rw [if_neg (fun h => h0 h.1), List.drop_of_length_le h, absL]

theorem absF_none (p : Int) (xs : List Int) (s : T3) (h : xs = []) : absF p xs 0 s = permute p s := by
  unfold absF
  rw [if_pos ⟨rfl, h⟩]

/-- The result's block, the field's, the state's. -/
structure AS (pr : Bool) (p : Int) (w wr : World) (bf bs : Nat) (s : T3) : Prop where
  res : Blk wr w.heap.size (A3 ⟨0, 0, 0⟩) 24
  fld : pr = true → Blk wr bf #[.int .u64 p] 72
  st : Blk wr bs (A3 s) 24
  b : Below w.heap.size w wr
  n : w.heap.size < bs
  df : bs ≠ bf

theorem AS.mono {pr : Bool} {p : Int} {w wr w2 : World} {bf bs : Nat} {x : T3} (H : AS pr p w wr bf bs x) (hb : Below wr.heap.size wr w2) : AS pr p w w2 bf bs x :=
  ⟨H.res.mono hb, fun h => (H.fld h).mono hb, H.st.mono hb, below2 H.b hb, H.n, H.df⟩

theorem AS.set {pr : Bool} {p : Int} {w wr : World} {bf bs : Nat} {x y : T3} (H : AS pr p w wr bf bs x) (k : Nat) (v : Value) (he : (A3 x).setIfInBounds k v = A3 y) : AS pr p w (wr.setCell ⟨bs, k, none⟩ v) bf bs y :=
  ⟨H.res.other (by have := H.n; omega) _ _, fun h => (H.fld h).other H.df _ _, by have := H.st.set k v; rwa [he] at this, H.b.setCell (Nat.le_of_lt H.n) _, H.n, H.df⟩

theorem AS.set3 {pr : Bool} {p : Int} {w wr : World} {bf bs : Nat} {x y : T3} (H : AS pr p w wr bf bs x) : AS pr p w (((wr.setCell ⟨bs, 0, none⟩ (.int .u64 y.a)).setCell ⟨bs, 1, none⟩ (.int .u64 y.b)).setCell ⟨bs, 2, none⟩ (.int .u64 y.c)) bf bs y :=
  ((H.set (y := ⟨y.a, x.b, x.c⟩) 0 _ rfl).set (y := ⟨y.a, y.b, x.c⟩) 1 _ rfl).set (y := y) 2 _ rfl

theorem AS.end_ {pr : Bool} {p : Int} {w wr : World} {bf bs : Nat} {x : T3} (H : AS pr p w wr bf bs x) (u v z : Value) :
    Below w.heap.size w (((wr.setCell ⟨w.heap.size, 0, none⟩ u).setCell ⟨w.heap.size, 1, none⟩ v).setCell ⟨w.heap.size, 2, none⟩ z) :=
  below_set3 H.b (Nat.le_refl _) _ _ _


set_option maxRecDepth 10000 in
set_option maxHeartbeats 4000000 in
theorem rAbsorb_any (p lb : Int) (ad : Option Addr) (c : Nat) (xs : List Int) (w : World) (l0 : 0 ≤ lb) (l1 : lb < 18446744073709551616) (hs : Sl w .u64 ad xs) (hw : AllW xs) (hl : xs.length < 1099511627776) :
    Calls Tryz.prog 23 #[.int .u64 p, .int .u64 lb, .slice ad xs.length c] w fun e w' => e = .returned (.agg #[.int .u64 (absorb p lb xs).a, .int .u64 (absorb p lb xs).b, .int .u64 (absorb p lb xs).c]) ∧ Below w.heap.size w w' := by
  obtain ⟨R, hR⟩ : ∃ R, R = absorb p lb xs := ⟨_, rfl⟩
  rw [← hR]
  obtain ⟨s0, hs0⟩ : ∃ s0, s0 = absI p lb xs.length := ⟨_, rfl⟩
  have hW0 : W3 s0 := by rw [hs0]; exact absI_W3 _ _ _
  replace hR : absF p xs 0 s0 = R := by rw [hR, hs0]; rfl
  have m0 := fmul_bd p lb 65536
  obtain ⟨n, hn⟩ : ∃ n : Int, n = xs.length := ⟨_, rfl⟩
  have n0 : 0 ≤ n := by omega
  have n1 : n < 1099511627776 := by omega
  have sa : s0.a = 0 := by rw [hs0]; rfl
  have sb : s0.b = 0 := by rw [hs0]; rfl
  have sc : fadd p (fmul p lb 65536) n = s0.c := by rw [hs0, hn]; rfl
  have hcv : IntKind.u64.wrap (xs.length : Int) = n := by rw [IntKind.wrap_u64]; omega
  replace hR := hide hR
  clear hs0 hn
  go_enter Tryz.func23, Tryz.ntmps23
  go_wp2_with fail
  refine name_calls fun W hW => ?_
  have g0 : Blk W w.heap.size (A3 ⟨0, 0, 0⟩) 24 := by rw [hW]; exact Blk.newAt rfl
  have hB : Below w.heap.size w W := by rw [hW]; exact (Below.refl _ _).alloc (Nat.le_refl _) _
  clear hW
  refine (rMul_any p lb 65536 _ (by omega) (by omega) (by omega) (by omega)).mono ?_
  rintro e1 w1 ⟨rfl, hb1⟩
  replace hB := below2 hB hb1
  replace g0 := g0.mono hb1
  clear hb1
  go_wp2_with fail
  refine (rAdd_any p (fmul p lb 65536) n _ (by omega) (by omega) (by omega) (by omega)).mono ?_
  rintro e1 w2 ⟨rfl, hb1⟩
  replace hB := below2 hB hb1
  replace g0 := g0.mono hb1
  have l0 := g0.lt
  clear hb1 hcv
  have H : AS false p w (w2.alloc (.cells #[.int .u64 0, .int .u64 0, .int .u64 s0.c] 24)) 0 w2.heap.size s0 := by
    refine ⟨g0.alloc _, fun h => (by cases h), ?_, hB.alloc (by omega) _, l0, by omega⟩
    have : A3 s0 = #[.int .u64 0, .int .u64 0, .int .u64 s0.c] := by rw [A3, sa, sb]
    rw [this]
    exact Blk.newAt rfl
  clear sa sb m0 g0 hB l0
  go_wp2_with fail
  clear sc
  generalize w2.heap.size = bs at *
  go_loopw [8] (fun t8 wr => ∃ i : Nat, i ≤ xs.length + 2 ∧ t8 = .int .i64 i ∧ ∃ s, W3 s ∧ AS false p w wr 0 bs s ∧ Hid (absF p xs i s = R)) (fun t8 _ => xs.length + 2 - (intOf t8).toNat)
  case atStart => exact ⟨0, by omega, rfl, s0, hW0, H, hR⟩
  case round =>
    obtain ⟨i, hi, rfl, s, sW, G, hG⟩ := hrel
    clear H hR
    by_cases hlt : i < xs.length
    · obtain ⟨b, off, rfl, hbl, hc⟩ := (hs.mono G.b).get hlt
      obtain ⟨x0, x1⟩ := hw.get hlt
      obtain ⟨x, hx⟩ : ∃ x, x = xs.getD i 0 := ⟨_, rfl⟩
      rw [← hx] at hc x0 x1
      have k1 := cell_later' (G.st.cell (j := 0) (v := .int .u64 s.a) rfl)
      have k2 := cell_later' hc
      obtain ⟨⟨s1, s2⟩, ⟨s3, s4⟩, s5⟩ := sW
      have y' := G.st.cell (j := 0) (v := .int .u64 s.a) rfl
      obtain hz | hz : i = 0 ∨ i ≠ 0 := by omega
      · have hg : ((i : Int) == 0) = true := by simpa using hz
        replace hz := hide hz
        by_cases h2 : i + 1 < xs.length
        · obtain ⟨y0, y1⟩ := hw.get h2
          obtain ⟨y, hy⟩ : ∃ y, y = xs.getD (i + 1) 0 := ⟨_, rfl⟩
          have hst := absF_two p xs i s h2
          rw [← hx, ← hy, hG.out] at hst
          obtain ⟨s', hs'⟩ : ∃ s' : T3, s' = ⟨fadd p s.a x, fadd p s.b y, s.c⟩ := ⟨_, rfl⟩
          have sW' : W3 s' := by rw [hs']; exact ⟨fadd_bd _ _ _, fadd_bd _ _ _, s5⟩
          have pW' : W3 (permute p s') := permute_W3 p s' sW'
          have ea : fadd p s.a x = s'.a := by rw [hs']
          have eb : fadd p s.b y = s'.b := by rw [hs']
          have ec : s'.c = s.c := by rw [hs']
          rw [← hs'] at hst
          have hP : ∀ W : World, Calls Tryz.prog 57 #[.int .u64 p, .agg #[.int .u64 s'.a, .int .u64 s'.b, .int .u64 s.c]] W fun e w' => e = .returned (.agg #[.int .u64 (permute p s').a, .int .u64 (permute p s').b, .int .u64 (permute p s').c]) ∧ Below W.heap.size W w' := fun W => by rw [← ec]; exact rPermute_any p s' W sW'
          obtain ⟨q, hq⟩ : ∃ q, q = permute p s' := ⟨_, rfl⟩
          rw [← hq] at hst hP pW'
          have Hst := hide hst.symm
          clear hq
          rw [← hy] at y0 y1
          replace hy := hide hy
          clear hst hs' hx hG y'
          go_wp2_with fail
          refine Rel.wp_region_later_tail 8 Tryz.mixed (by kernel_rfl) ?_
          simp only [List.take_succ_cons, List.take_zero, List.drop_succ_cons, List.drop_zero]
          repeat (first | go_big_quiet_step (first | (go_at_call 55; exact Calls.later_of (rAdd_any _ _ _ _ (by omega) (by omega) (by omega) (by omega)))) | quiet_step (first | (go_at_call 55; exact Calls.later_of (rAdd_any _ _ _ _ (by omega) (by omega) (by omega) (by omega)))))
          refine wpQuiet_nil ?_
          intro w3 hb3
          replace hb3 := below_of_later hb3
          replace G := G.mono hb3
          have y' := G.st.cell (j := 0) (v := .int .u64 s.a) rfl
          have f := G.st.free
          clear k1 k2 hb3
          go_wp2_with fail
          refine name_world fun W2 hW2 => ?_
          have G2 : AS false p w W2 0 bs ⟨s'.a, s.b, s.c⟩ := by rw [hW2]; exact G.set 0 _ rfl
          clear hW2 y' f G
          obtain ⟨b', off', hbb, _, hc'⟩ := (hs.mono G2.b).get h2
          cases hbb
          rw [← hy.out] at hc'
          have k1 := cell_later' (G2.st.cell (j := 1) (v := .int .u64 s.b) rfl)
          have k2 := cell_later' hc'
          refine Rel.wp_region_later_tail 9 Tryz.mixed (by kernel_rfl) ?_
          simp only [List.take_succ_cons, List.take_zero, List.drop_succ_cons, List.drop_zero]
          repeat (first | go_big_quiet_step (first | (go_at_call 55; exact Calls.later_of (rAdd_any _ _ _ _ (by omega) (by omega) (by omega) (by omega)))) | quiet_step (first | (go_at_call 55; exact Calls.later_of (rAdd_any _ _ _ _ (by omega) (by omega) (by omega) (by omega)))))
          refine wpQuiet_nil ?_
          intro w4 hb4
          replace hb4 := below_of_later hb4
          replace G2 := G2.mono hb4
          have c0 := G2.st.cell (j := 0) (v := .int .u64 s'.a) rfl; have c1 := G2.st.cell (j := 1) (v := .int .u64 s.b) rfl; have c2 := G2.st.cell (j := 2) (v := .int .u64 s.c) rfl
          have f := G2.st.free
          have G3 : AS false p w (w4.setCell ⟨bs, 1, none⟩ (.int .u64 s'.b)) 0 bs s' := by
            refine G2.set 1 _ ?_
            have : A3 s' = #[.int .u64 s'.a, .int .u64 s'.b, .int .u64 s.c] := by rw [A3, ec]
            rw [this]
            rfl
          clear k1 k2 hb4 G2
          go_wp2_with fail
          refine name_calls fun W3' hW3 => ?_
          clear c0 c1 c2 f ec
          rw [← hW3] at G3
          refine (hP W3').mono ?_
          clear hW3
          rintro e w5 ⟨rfl, hb5⟩
          replace G3 := G3.mono hb5
          clear hb5
          have c0 := G3.st.cell (j := 0) (v := .int .u64 s'.a) rfl; have c1 := G3.st.cell (j := 1) (v := .int .u64 s'.b) rfl; have c2 := G3.st.cell (j := 2) (v := .int .u64 s'.c) rfl
          have f5 := G3.st.free
          go_wp2
          go_roundw
          case rel => exact ⟨i + 2, by omega, by go_num, q, pW', G3.set3, Hst⟩
          case measure => simp [intOf]; omega
        · have hst := absF_one p xs i s hlt h2
          rw [← hx, hG.out] at hst
          obtain ⟨s', hs'⟩ : ∃ s' : T3, s' = ⟨fadd p s.a x, s.b, s.c⟩ := ⟨_, rfl⟩
          have sW' : W3 s' := by rw [hs']; exact ⟨fadd_bd _ _ _, ⟨s3, s4⟩, s5⟩
          have pW' : W3 (permute p s') := permute_W3 p s' sW'
          have ea : fadd p s.a x = s'.a := by rw [hs']
          have eb : s'.b = s.b := by rw [hs']
          have ec : s'.c = s.c := by rw [hs']
          rw [← hs'] at hst
          have hP : ∀ W : World, Calls Tryz.prog 57 #[.int .u64 p, .agg #[.int .u64 s'.a, .int .u64 s.b, .int .u64 s.c]] W fun e w' => e = .returned (.agg #[.int .u64 (permute p s').a, .int .u64 (permute p s').b, .int .u64 (permute p s').c]) ∧ Below W.heap.size W w' := fun W => by rw [← ec, ← eb]; exact rPermute_any p s' W sW'
          obtain ⟨q, hq⟩ : ∃ q, q = permute p s' := ⟨_, rfl⟩
          rw [← hq] at hst hP pW'
          have Hst := hide hst.symm
          clear hq hst hs' hx hG y'
          go_wp2_with fail
          refine Rel.wp_region_later_tail 8 Tryz.mixed (by kernel_rfl) ?_
          simp only [List.take_succ_cons, List.take_zero, List.drop_succ_cons, List.drop_zero]
          repeat (first | go_big_quiet_step (first | (go_at_call 55; exact Calls.later_of (rAdd_any _ _ _ _ (by omega) (by omega) (by omega) (by omega)))) | quiet_step (first | (go_at_call 55; exact Calls.later_of (rAdd_any _ _ _ _ (by omega) (by omega) (by omega) (by omega)))))
          refine wpQuiet_nil ?_
          intro w3 hb3
          replace hb3 := below_of_later hb3
          replace G := G.mono hb3
          have c0 := G.st.cell (j := 0) (v := .int .u64 s.a) rfl; have c1 := G.st.cell (j := 1) (v := .int .u64 s.b) rfl; have c2 := G.st.cell (j := 2) (v := .int .u64 s.c) rfl
          have f := G.st.free
          have G3 : AS false p w (w3.setCell ⟨bs, 0, none⟩ (.int .u64 s'.a)) 0 bs s' := by
            refine G.set 0 _ ?_
            have : A3 s' = #[.int .u64 s'.a, .int .u64 s.b, .int .u64 s.c] := by rw [A3, ec, eb]
            rw [this]
            rfl
          clear k1 k2 hb3 G
          go_wp2_with fail
          refine name_calls fun W3' hW3 => ?_
          clear c0 c1 c2 f ec eb
          rw [← hW3] at G3
          refine (hP W3').mono ?_
          clear hW3
          rintro e w5 ⟨rfl, hb5⟩
          replace G3 := G3.mono hb5
          clear hb5
          have c0 := G3.st.cell (j := 0) (v := .int .u64 s'.a) rfl; have c1 := G3.st.cell (j := 1) (v := .int .u64 s'.b) rfl; have c2 := G3.st.cell (j := 2) (v := .int .u64 s'.c) rfl
          have f5 := G3.st.free
          go_wp2
          go_roundw
          case rel => exact ⟨i + 2, by omega, by go_num, q, pW', G3.set3, Hst⟩
          case measure => simp [intOf]; omega

      · have hg : ((i : Int) == 0) = false := by simpa using hz
        replace hz := hide hz
        by_cases h2 : i + 1 < xs.length
        · obtain ⟨y0, y1⟩ := hw.get h2
          obtain ⟨y, hy⟩ : ∃ y, y = xs.getD (i + 1) 0 := ⟨_, rfl⟩
          have hst := absF_two p xs i s h2
          rw [← hx, ← hy, hG.out] at hst
          obtain ⟨s', hs'⟩ : ∃ s' : T3, s' = ⟨fadd p s.a x, fadd p s.b y, s.c⟩ := ⟨_, rfl⟩
          have sW' : W3 s' := by rw [hs']; exact ⟨fadd_bd _ _ _, fadd_bd _ _ _, s5⟩
          have pW' : W3 (permute p s') := permute_W3 p s' sW'
          have ea : fadd p s.a x = s'.a := by rw [hs']
          have eb : fadd p s.b y = s'.b := by rw [hs']
          have ec : s'.c = s.c := by rw [hs']
          rw [← hs'] at hst
          have hP : ∀ W : World, Calls Tryz.prog 57 #[.int .u64 p, .agg #[.int .u64 s'.a, .int .u64 s'.b, .int .u64 s.c]] W fun e w' => e = .returned (.agg #[.int .u64 (permute p s').a, .int .u64 (permute p s').b, .int .u64 (permute p s').c]) ∧ Below W.heap.size W w' := fun W => by rw [← ec]; exact rPermute_any p s' W sW'
          obtain ⟨q, hq⟩ : ∃ q, q = permute p s' := ⟨_, rfl⟩
          rw [← hq] at hst hP pW'
          have Hst := hide hst.symm
          clear hq
          rw [← hy] at y0 y1
          replace hy := hide hy
          clear hst hs' hx hG y'
          go_wp2_with fail
          refine Rel.wp_region_later_tail 8 Tryz.mixed (by kernel_rfl) ?_
          simp only [List.take_succ_cons, List.take_zero, List.drop_succ_cons, List.drop_zero]
          repeat (first | go_big_quiet_step (first | (go_at_call 55; exact Calls.later_of (rAdd_any _ _ _ _ (by omega) (by omega) (by omega) (by omega)))) | quiet_step (first | (go_at_call 55; exact Calls.later_of (rAdd_any _ _ _ _ (by omega) (by omega) (by omega) (by omega)))))
          refine wpQuiet_nil ?_
          intro w3 hb3
          replace hb3 := below_of_later hb3
          replace G := G.mono hb3
          have y' := G.st.cell (j := 0) (v := .int .u64 s.a) rfl
          have f := G.st.free
          clear k1 k2 hb3
          go_wp2_with fail
          refine name_world fun W2 hW2 => ?_
          have G2 : AS false p w W2 0 bs ⟨s'.a, s.b, s.c⟩ := by rw [hW2]; exact G.set 0 _ rfl
          clear hW2 y' f G
          obtain ⟨b', off', hbb, _, hc'⟩ := (hs.mono G2.b).get h2
          cases hbb
          rw [← hy.out] at hc'
          have k1 := cell_later' (G2.st.cell (j := 1) (v := .int .u64 s.b) rfl)
          have k2 := cell_later' hc'
          refine Rel.wp_region_later_tail 9 Tryz.mixed (by kernel_rfl) ?_
          simp only [List.take_succ_cons, List.take_zero, List.drop_succ_cons, List.drop_zero]
          repeat (first | go_big_quiet_step (first | (go_at_call 55; exact Calls.later_of (rAdd_any _ _ _ _ (by omega) (by omega) (by omega) (by omega)))) | quiet_step (first | (go_at_call 55; exact Calls.later_of (rAdd_any _ _ _ _ (by omega) (by omega) (by omega) (by omega)))))
          refine wpQuiet_nil ?_
          intro w4 hb4
          replace hb4 := below_of_later hb4
          replace G2 := G2.mono hb4
          have c0 := G2.st.cell (j := 0) (v := .int .u64 s'.a) rfl; have c1 := G2.st.cell (j := 1) (v := .int .u64 s.b) rfl; have c2 := G2.st.cell (j := 2) (v := .int .u64 s.c) rfl
          have f := G2.st.free
          have G3 : AS false p w (w4.setCell ⟨bs, 1, none⟩ (.int .u64 s'.b)) 0 bs s' := by
            refine G2.set 1 _ ?_
            have : A3 s' = #[.int .u64 s'.a, .int .u64 s'.b, .int .u64 s.c] := by rw [A3, ec]
            rw [this]
            rfl
          clear k1 k2 hb4 G2
          go_wp2_with fail
          refine name_calls fun W3' hW3 => ?_
          clear c0 c1 c2 f ec
          rw [← hW3] at G3
          refine (hP W3').mono ?_
          clear hW3
          rintro e w5 ⟨rfl, hb5⟩
          replace G3 := G3.mono hb5
          clear hb5
          have c0 := G3.st.cell (j := 0) (v := .int .u64 s'.a) rfl; have c1 := G3.st.cell (j := 1) (v := .int .u64 s'.b) rfl; have c2 := G3.st.cell (j := 2) (v := .int .u64 s'.c) rfl
          have f5 := G3.st.free
          go_wp2
          go_roundw
          case rel => exact ⟨i + 2, by omega, by go_num, q, pW', G3.set3, Hst⟩
          case measure => simp [intOf]; omega
        · have hst := absF_one p xs i s hlt h2
          rw [← hx, hG.out] at hst
          obtain ⟨s', hs'⟩ : ∃ s' : T3, s' = ⟨fadd p s.a x, s.b, s.c⟩ := ⟨_, rfl⟩
          have sW' : W3 s' := by rw [hs']; exact ⟨fadd_bd _ _ _, ⟨s3, s4⟩, s5⟩
          have pW' : W3 (permute p s') := permute_W3 p s' sW'
          have ea : fadd p s.a x = s'.a := by rw [hs']
          have eb : s'.b = s.b := by rw [hs']
          have ec : s'.c = s.c := by rw [hs']
          rw [← hs'] at hst
          have hP : ∀ W : World, Calls Tryz.prog 57 #[.int .u64 p, .agg #[.int .u64 s'.a, .int .u64 s.b, .int .u64 s.c]] W fun e w' => e = .returned (.agg #[.int .u64 (permute p s').a, .int .u64 (permute p s').b, .int .u64 (permute p s').c]) ∧ Below W.heap.size W w' := fun W => by rw [← ec, ← eb]; exact rPermute_any p s' W sW'
          obtain ⟨q, hq⟩ : ∃ q, q = permute p s' := ⟨_, rfl⟩
          rw [← hq] at hst hP pW'
          have Hst := hide hst.symm
          clear hq hst hs' hx hG y'
          go_wp2_with fail
          refine Rel.wp_region_later_tail 8 Tryz.mixed (by kernel_rfl) ?_
          simp only [List.take_succ_cons, List.take_zero, List.drop_succ_cons, List.drop_zero]
          repeat (first | go_big_quiet_step (first | (go_at_call 55; exact Calls.later_of (rAdd_any _ _ _ _ (by omega) (by omega) (by omega) (by omega)))) | quiet_step (first | (go_at_call 55; exact Calls.later_of (rAdd_any _ _ _ _ (by omega) (by omega) (by omega) (by omega)))))
          refine wpQuiet_nil ?_
          intro w3 hb3
          replace hb3 := below_of_later hb3
          replace G := G.mono hb3
          have c0 := G.st.cell (j := 0) (v := .int .u64 s.a) rfl; have c1 := G.st.cell (j := 1) (v := .int .u64 s.b) rfl; have c2 := G.st.cell (j := 2) (v := .int .u64 s.c) rfl
          have f := G.st.free
          have G3 : AS false p w (w3.setCell ⟨bs, 0, none⟩ (.int .u64 s'.a)) 0 bs s' := by
            refine G.set 0 _ ?_
            have : A3 s' = #[.int .u64 s'.a, .int .u64 s.b, .int .u64 s.c] := by rw [A3, ec, eb]
            rw [this]
            rfl
          clear k1 k2 hb3 G
          go_wp2_with fail
          refine name_calls fun W3' hW3 => ?_
          clear c0 c1 c2 f ec eb
          rw [← hW3] at G3
          refine (hP W3').mono ?_
          clear hW3
          rintro e w5 ⟨rfl, hb5⟩
          replace G3 := G3.mono hb5
          clear hb5
          have c0 := G3.st.cell (j := 0) (v := .int .u64 s'.a) rfl; have c1 := G3.st.cell (j := 1) (v := .int .u64 s'.b) rfl; have c2 := G3.st.cell (j := 2) (v := .int .u64 s'.c) rfl
          have f5 := G3.st.free
          go_wp2
          go_roundw
          case rel => exact ⟨i + 2, by omega, by go_num, q, pW', G3.set3, Hst⟩
          case measure => simp [intOf]; omega

    · by_cases hz : i = 0
      · have hg : ((i : Int) == 0) = true := by simpa using hz
        have h2 : ¬ i + 1 < xs.length := by omega
        have hne : xs = [] := List.eq_nil_of_length_eq_zero (by omega)
        have hst : permute p s = R := by rw [← hG.out, hz, absF_none p xs s hne]
        have hP : ∀ W : World, Calls Tryz.prog 57 #[.int .u64 p, .agg #[.int .u64 s.a, .int .u64 s.b, .int .u64 s.c]] W fun e w' => e = .returned (.agg #[.int .u64 R.a, .int .u64 R.b, .int .u64 R.c]) ∧ Below W.heap.size W w' := fun W => by rw [← hst]; exact rPermute_any p s W sW
        have RW : W3 R := by rw [← hst]; exact permute_W3 p s sW
        have hR : Hid (absF p xs (i + 2) R = R) := hide (absF_end p xs (i + 2) R (by omega) (by omega))
        replace hz := hide hz
        clear hst hG hne
        have c0 := G.st.cell (j := 0) (v := .int .u64 s.a) rfl; have c1 := G.st.cell (j := 1) (v := .int .u64 s.b) rfl; have c2 := G.st.cell (j := 2) (v := .int .u64 s.c) rfl
        go_wp2_with fail
        refine (hP _).mono ?_
        rintro ew5 w5 ⟨rfl, hb5⟩
        replace G := G.mono hb5
        clear hb5 c0 c1 c2
        have c0 := G.st.cell (j := 0) (v := .int .u64 s.a) rfl; have c1 := G.st.cell (j := 1) (v := .int .u64 s.b) rfl; have c2 := G.st.cell (j := 2) (v := .int .u64 s.c) rfl
        have f5 := G.st.free
        go_wp2
        go_roundw
        case rel => exact ⟨i + 2, by have := hz.out; omega, by go_num, R, RW, G.set3, hR⟩
        case measure => have := hz.out; simp [intOf]; omega
      · have hg : ((i : Int) == 0) = false := by simpa using hz
        have hRs : s = R := by rw [← hG.out, absF_end p xs i s (by omega) (by omega)]
        subst hRs
        have c0 := G.st.cell (j := 0) (v := .int .u64 s.a) rfl; have c1 := G.st.cell (j := 1) (v := .int .u64 s.b) rfl; have c2 := G.st.cell (j := 2) (v := .int .u64 s.c) rfl
        have y0 := G.res.cell (j := 0) (v := .int .u64 0) rfl
        have y1 := G.res.cell (j := 1) (v := .int .u64 0) rfl
        have y2 := G.res.cell (j := 2) (v := .int .u64 0) rfl
        have f := G.res.free
        go_wp2
        exact bodyPost_ret (v := .agg #[.int .u64 s.a, .int .u64 s.b, .int .u64 s.c]) (by simp [results, Tryz.results23, go_sem, y0, y1, y2]) rfl ⟨rfl, G.end_ _ _ _⟩


def hash (p lb : Int) (xs : List Int) : Int := if vld p then (absorb p lb xs).a else 0

theorem hash_bd (p lb : Int) (xs : List Int) : 0 ≤ hash p lb xs ∧ hash p lb xs < 18446744073709551616 := by
  unfold hash
  split
  · exact (absorb_W3 p lb xs).1
  · exact ⟨Int.le_refl 0, by decide⟩

set_option maxHeartbeats 1000000 in
theorem rHash_any (p lb : Int) (ad : Option Addr) (c : Nat) (xs : List Int) (w : World) (l0 : 0 ≤ lb) (l1 : lb < 18446744073709551616) (hs : Sl w .u64 ad xs) (hw : AllW xs) (hl : xs.length < 1099511627776) :
    Calls Tryz.prog 8 #[.int .u64 p, .int .u64 lb, .slice ad xs.length c] w fun e w' => e = .returned (.int .u64 (hash p lb xs)) ∧ Below w.heap.size w w' := by
  obtain ⟨R, hR⟩ : ∃ R, R = hash p lb xs := ⟨_, rfl⟩
  rw [← hR]
  go_enter Tryz.func8, Tryz.ntmps8
  by_cases hv : vld p = true
  · replace hR := hide (show (absorb p lb xs).a = R by rw [hR, hash, if_pos hv])
    go_wp2_with fail
    refine (rValid_any p _).mono ?_
    rintro ew1 w1 ⟨rfl, hb1⟩
    rw [hv]
    go_wp2_with fail
    refine (rAbsorb_any p lb ad c xs _ l0 l1 (hs.mono hb1) hw hl).mono ?_
    rintro e w2 ⟨rfl, hb2⟩
    go_wp2
    go_ret
    exact ⟨ret_int hR.out, below2 hb1 hb2⟩
  · have hv := vld_no hv
    replace hR := hide (show 0 = R by rw [hR, hash, hv]; rfl)
    go_wp2_with fail
    refine (rValid_any p _).mono ?_
    rintro ew1 w1 ⟨rfl, hb1⟩
    rw [hv]
    go_wp2
    go_ret
    exact ⟨ret_int hR.out, hb1⟩

end Go.Proofs.YtalmgeefkcebdaaGreatDoor

