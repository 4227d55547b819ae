/- The contracts of the permutation's constants and mixing, of the program and of the reference. -/
import Derived.Test.YtlgjnidphldiiaaRef1X
import Derived.Test.YtlgjnidphldiiaaRelX
import Derived.ProofKit
import Derived.OpenShut
namespace Go.Proofs.Ytlgjnidphldiiaa
open Go.RowKit

/-- A round constant. -/
def fconst (p r i : Int) : Int := if 0 ≤ r ∧ r < 8 ∧ 0 ≤ i ∧ i ≤ 2 then fred p (((3 * r + i + 1) * 11400714819323198485) % 18446744073709551616) else 0

theorem fconst_bd (p r i : Int) : 0 ≤ fconst p r i ∧ fconst p r i < 18446744073709551616 := by
  unfold fconst
  split
  · exact fred_bd _ _
  · decide

set_option maxHeartbeats 400000 in
theorem Constant_any (p r i : Int) (w : World) :
    Calls Try.prog 114 #[.int .u64 p, .int .i64 r, .int .i64 i] w fun e w' => e = .returned (.int .u64 (fconst p r i)) ∧ Below w.heap.size w w' := by
  by_cases h : 0 ≤ r ∧ r < 8 ∧ 0 ≤ i ∧ i ≤ 2
  · obtain ⟨h1, h2, h3, h4⟩ := h
    have hr : fconst p r i = fred p (((3 * r + i + 1) * 11400714819323198485) % 18446744073709551616) := by rw [fconst, if_pos ⟨h1, h2, h3, h4⟩]
    have e1 : IntKind.u64.wrap (3 * r + i + 1) = 3 * r + i + 1 := by rw [IntKind.wrap_u64]; omega
    have e2 : IntKind.u64.wrap ((3 * r + i + 1) * 11400714819323198485) = ((3 * r + i + 1) * 11400714819323198485) % 18446744073709551616 := by rw [IntKind.wrap_u64]
    obtain ⟨n, hn⟩ : ∃ n, n = ((3 * r + i + 1) * 11400714819323198485) % 18446744073709551616 := ⟨_, rfl⟩
    have n0 : 0 ≤ n := by omega
    have n1 : n < 18446744073709551616 := by omega
    rw [← hn] at hr e2
    have Hr := hide hr
    clear hr hn
    go_enter Try.func114, Try.ntmps114
    go_wp2_with fail
    refine (Reduce_any p n _ n0 n1).mono ?_
    rintro ew1 w1 ⟨rfl, hb⟩
    go_wp2
    go_ret
    exact ⟨ret_int Hr.out.symm, hb⟩
  · have hr : fconst p r i = 0 := by rw [fconst, if_neg h]
    have Hr := hide hr
    have Hh := hide h
    clear h hr
    go_enter Try.func114, Try.ntmps114
    go_wp2_with fail
    all_goals first
      | (exact absurd ⟨by omega, by omega, by omega, by omega⟩ Hh.out)
      | (go_wp2; go_ret; exact ⟨ret_int Hr.out.symm, Below.refl _ _⟩)

set_option maxHeartbeats 400000 in
theorem rConstant_any (p r i : Int) (w : World) :
    Calls Try.prog 122 #[.int .u64 p, .int .i64 r, .int .i64 i] w fun e w' => e = .returned (.int .u64 (fconst p r i)) ∧ Below w.heap.size w w' := by
  by_cases h : 0 ≤ r ∧ r < 8 ∧ 0 ≤ i ∧ i ≤ 2
  · obtain ⟨h1, h2, h3, h4⟩ := h
    have hr : fconst p r i = fred p (((3 * r + i + 1) * 11400714819323198485) % 18446744073709551616) := by rw [fconst, if_pos ⟨h1, h2, h3, h4⟩]
    have e1 : IntKind.u64.wrap (3 * r + i + 1) = 3 * r + i + 1 := by rw [IntKind.wrap_u64]; omega
    have e2 : IntKind.u64.wrap ((3 * r + i + 1) * 11400714819323198485) = ((3 * r + i + 1) * 11400714819323198485) % 18446744073709551616 := by rw [IntKind.wrap_u64]
    obtain ⟨n, hn⟩ : ∃ n, n = ((3 * r + i + 1) * 11400714819323198485) % 18446744073709551616 := ⟨_, rfl⟩
    have n0 : 0 ≤ n := by omega
    have n1 : n < 18446744073709551616 := by omega
    rw [← hn] at hr e2
    have Hr := hide hr
    clear hr hn
    by_cases hv : vld p = true
    · have hp := vld_pos hv
      have h5 : fred p n = n % p := by rw [fred, if_pos hv]
      have H5 := hide h5
      clear h5
      go_enter Try.func122, Try.ntmps122
      go_wp2_with fail
      refine (rValid_any p _).mono ?_
      rintro ew1 w1 ⟨rfl, hb⟩
      go_wp2
      go_ret
      exact ⟨ret_int (by rw [Hr.out, H5.out]), hb⟩
    · have hv := vld_no hv
      have h5 : fred p n = 0 := by rw [fred, hv]; rfl
      have H5 := hide h5
      clear h5
      go_enter Try.func122, Try.ntmps122
      go_wp2_with fail
      refine (rValid_any p _).mono ?_
      rintro ew1 w1 ⟨rfl, hb⟩
      go_wp2
      go_ret
      exact ⟨ret_int (by rw [Hr.out, H5.out]), hb⟩
  · have hr : fconst p r i = 0 := by rw [fconst, if_neg h]
    have Hr := hide hr
    have Hh := hide h
    clear h hr
    go_enter Try.func122, Try.ntmps122
    cases hv : vld p with
    | true =>
      go_wp2_with fail
      refine (rValid_any p _).mono ?_
      rintro ew1 w1 ⟨rfl, hb⟩
      go_wp2
      all_goals first
        | (exact absurd ⟨by omega, by omega, by omega, by omega⟩ Hh.out)
        | (go_ret; exact ⟨ret_int Hr.out.symm, hb⟩)
    | false =>
      go_wp2_with fail
      refine (rValid_any p _).mono ?_
      rintro ew1 w1 ⟨rfl, hb⟩
      go_wp2
      all_goals first
        | (exact absurd ⟨by omega, by omega, by omega, by omega⟩ Hh.out)
        | (go_ret; exact ⟨ret_int Hr.out.symm, hb⟩)

/-- A state. -/
structure T3 where
  a : Int
  b : Int
  c : Int
  deriving DecidableEq

def W3 (s : T3) : Prop := (0 ≤ s.a ∧ s.a < 18446744073709551616) ∧ (0 ≤ s.b ∧ s.b < 18446744073709551616) ∧ (0 ≤ s.c ∧ s.c < 18446744073709551616)

def sum3 (p : Int) (s : T3) : Int := fadd p (fadd p s.a s.b) s.c
def mix (p : Int) (s : T3) : T3 := ⟨fadd p s.a (sum3 p s), fadd p s.b (sum3 p s), fadd p s.c (sum3 p s)⟩
def unmix (p : Int) (s : T3) : T3 := ⟨fsub p s.a (fdiv p (sum3 p s) 4), fsub p s.b (fdiv p (sum3 p s) 4), fsub p s.c (fdiv p (sum3 p s) 4)⟩
def red3 (p : Int) (s : T3) : T3 := ⟨fred p s.a, fred p s.b, fred p s.c⟩

theorem mix_W3 (p : Int) (s : T3) : W3 (mix p s) := ⟨fadd_bd _ _ _, fadd_bd _ _ _, fadd_bd _ _ _⟩
theorem unmix_W3 (p : Int) (s : T3) : W3 (unmix p s) := ⟨fsub_bd _ _ _, fsub_bd _ _ _, fsub_bd _ _ _⟩
theorem red3_W3 (p : Int) (s : T3) : W3 (red3 p s) := ⟨fred_bd _ _, fred_bd _ _, fred_bd _ _⟩

/-- The array of which the first k elements are set. -/
def outA (m : T3) (k : Nat) : Array Value := #[.int .u64 (if 0 < k then m.a else 0), .int .u64 (if 1 < k then m.b else 0), .int .u64 (if 2 < k then m.c else 0)]
def A3 (m : T3) : Array Value := #[.int .u64 m.a, .int .u64 m.b, .int .u64 m.c]

theorem fadd0 (p a b : Int) : fadd p (fadd p 0 a) b = fadd p a b := by
  unfold fadd
  split
  · rw [Int.zero_add, Int.emod_add_emod]
  · rfl
theorem fsum3 (p : Int) (s : T3) : fsum p [s.a, s.b, s.c] = sum3 p s := by
  simp only [fsum, sum3, List.foldl, fadd0]

/-- A slice of three words, in a block that is known. -/
theorem sl3 {w : World} {b : Nat} {T : TypeId} {x y z : Int} (h : Blk w b #[.int .u64 x, .int .u64 y, .int .u64 z] T) : Sl w .u64 (some ⟨b, 0, none⟩) [x, y, z] := fun _ =>
  ⟨b, 0, rfl, h.lt, fun i hi => by
    rw [Nat.zero_add]
    match i, hi with
    | 0, _ => exact h.cell rfl
    | 1, _ => exact h.cell rfl
    | 2, _ => exact h.cell rfl⟩

/-- What holds at the head of the loop that fills an array of three. -/
structure FillAt (w wr : World) (b0 b1 bo : Nat) (s m : T3) (k : Nat) : Prop where
  src : Blk wr b0 (A3 s) 112
  res : Blk wr b1 (A3 ⟨0, 0, 0⟩) 112
  out : Blk wr bo (outA m k) 112
  b : Below w.heap.size w wr
  n0 : w.heap.size ≤ b0
  n1 : w.heap.size ≤ b1
  no : w.heap.size ≤ bo
  d0 : bo ≠ b0
  d1 : bo ≠ b1

theorem name_calls {P : Program} {f : FuncId} {args : Array Value} {R : Ending → World → Prop} {w0 : World} (h : ∀ W, W = w0 → Calls P f args W R) : Calls P f args w0 R := h _ rfl

end Go.Proofs.Ytlgjnidphldiiaa

/- The contracts of mixing in the reference, and of unmixing. -/
namespace Go.Proofs.Ytlgjnidphldiiaa
open Go.RowKit

theorem FillAt.next {w wr w2 : World} {b0 b1 bo : Nat} {s m : T3} {k : Nat} (H : FillAt w wr b0 b1 bo s m k) (hb : Below wr.heap.size wr w2) (v : Value) (he : (outA m k).setIfInBounds k v = outA m (k + 1)) :
    FillAt w (w2.setCell ⟨bo, k, none⟩ v) b0 b1 bo s m (k + 1) :=
  ⟨(H.src.mono hb).other H.d0 _ _, (H.res.mono hb).other H.d1 _ _, by have := (H.out.mono hb).set k v; rwa [he] at this,
    (H.b.trans (hb.mono H.b.size)).setCell (by exact H.no) _, H.n0, H.n1, H.no, H.d0, H.d1⟩

/-- The end: the array that has been filled is copied into the result. -/
theorem FillAt.end_ {w wr : World} {b0 b1 bo : Nat} {s m : T3} (H : FillAt w wr b0 b1 bo s m 3) (x y z : Value) :
    Below w.heap.size w (((wr.setCell ⟨b1, 0, none⟩ x).setCell ⟨b1, 1, none⟩ y).setCell ⟨b1, 2, none⟩ z) :=
  ((H.b.setCell (by exact H.n1) _).setCell (by exact H.n1) _).setCell (by exact H.n1) _

set_option maxHeartbeats 1000000 in
theorem rMix_any (p : Int) (s : T3) (w : World) (hs : W3 s) :
    Calls Try.prog 139 #[.int .u64 p, .agg #[.int .u64 s.a, .int .u64 s.b, .int .u64 s.c]] w fun e w' => e = .returned (.agg #[.int .u64 (mix p s).a, .int .u64 (mix p s).b, .int .u64 (mix p s).c]) ∧ Below w.heap.size w w' := by
  obtain ⟨⟨a0, a1⟩, ⟨b0, b1⟩, c0, c1⟩ := hs
  have s1 : 0 ≤ sum3 p s ∧ sum3 p s < 18446744073709551616 := fadd_bd _ _ _
  have hsum := fsum3 p s
  go_enter Try.func139, Try.ntmps139
  go_wp2_with fail
  refine name_calls fun W hW => ?_
  have g0 : Blk W w.heap.size (A3 s) 112 := by rw [hW]; exact ((Blk.newAt rfl).alloc _).alloc _
  have g1 : Blk W (w.heap.size + 1) (A3 ⟨0, 0, 0⟩) 112 := by rw [hW]; exact (Blk.newAt (by simp)).alloc _
  have g2 : Blk W (w.heap.size + 2) #[.int .u64 s.a, .int .u64 s.b, .int .u64 s.c] 22 := by rw [hW]; exact Blk.newAt (by simp)
  have hB : Below w.heap.size w W := by rw [hW]; exact (((Below.refl _ _).alloc (Nat.le_refl _) _).alloc (by simp) _).alloc (by simp; omega) _
  clear hW
  refine (rSum_any p (some ⟨w.heap.size + 2, 0, none⟩) 3 [s.a, s.b, s.c] _ (sl3 g2) (by intro x hx; simp at hx; omega) (by simp)).mono ?_
  rintro e w1 ⟨rfl, hb1⟩
  rw [hsum]
  replace hB := below2 hB hb1
  replace g0 := g0.mono hb1
  replace g1 := g1.mono hb1
  clear g2 hb1 hsum
  have l0 := g0.lt; have l1 := g1.lt
  have F0 : FillAt w (w1.alloc (.cells #[.int .u64 0, .int .u64 0, .int .u64 0] 112)) w.heap.size (w.heap.size + 1) w1.heap.size s (mix p s) 0 :=
    ⟨g0.alloc _, g1.alloc _, Blk.new _ _ _, hB.alloc (by omega) _, by omega, by omega, by omega, by omega, by omega⟩
  clear g0 g1 hB
  go_wp2
  go_loopw [7] (fun t7 wr => ∃ k : Nat, k ≤ 3 ∧ t7 = .int .i64 k ∧ FillAt w wr w.heap.size (w.heap.size + 1) w1.heap.size s (mix p s) k) (fun t7 _ => 3 - (intOf t7).toNat)
  case atStart => exact ⟨0, by omega, rfl, F0⟩
  case round =>
    obtain ⟨k, hk, rfl, H⟩ := hrel
    by_cases hlt : k < 3
    · have q0 := H.src.cell (j := 0) (v := .int .u64 s.a) rfl
      have q1 := H.src.cell (j := 1) (v := .int .u64 s.b) rfl
      have q2 := H.src.cell (j := 2) (v := .int .u64 s.c) rfl
      obtain rfl | rfl | rfl : k = 0 ∨ k = 1 ∨ k = 2 := by omega
      · go_wp2_with fail
        refine (rAdd_any p s.a (sum3 p s) _ a0 a1 s1.1 s1.2).mono ?_
        rintro e w2 ⟨rfl, hb2⟩
        have y := (H.out.mono hb2).cell (j := 0) (v := .int .u64 0) rfl
        have f := (H.out.mono hb2).free 0
        go_wp2
        go_roundw
        case rel => exact ⟨1, by omega, rfl, H.next hb2 _ rfl⟩
        case measure => simp [intOf]
      · go_wp2_with fail
        refine (rAdd_any p s.b (sum3 p s) _ b0 b1 s1.1 s1.2).mono ?_
        rintro e w2 ⟨rfl, hb2⟩
        have y := (H.out.mono hb2).cell (j := 1) (v := .int .u64 0) rfl
        have f := (H.out.mono hb2).free 1
        go_wp2
        go_roundw
        case rel => exact ⟨2, by omega, rfl, H.next hb2 _ rfl⟩
        case measure => simp [intOf]
      · go_wp2_with fail
        refine (rAdd_any p s.c (sum3 p s) _ c0 c1 s1.1 s1.2).mono ?_
        rintro e w2 ⟨rfl, hb2⟩
        have y := (H.out.mono hb2).cell (j := 2) (v := .int .u64 0) rfl
        have f := (H.out.mono hb2).free 2
        go_wp2
        go_roundw
        case rel => exact ⟨3, by omega, rfl, H.next hb2 _ rfl⟩
        case measure => simp [intOf]
    · obtain rfl : k = 3 := by omega
      have m0 := H.out.cell (j := 0) (v := .int .u64 (mix p s).a) rfl
      have m1 := H.out.cell (j := 1) (v := .int .u64 (mix p s).b) rfl
      have m2 := H.out.cell (j := 2) (v := .int .u64 (mix p s).c) rfl
      have y0 := H.res.cell (j := 0) (v := .int .u64 0) rfl
      have y1 := H.res.cell (j := 1) (v := .int .u64 0) rfl
      have y2 := H.res.cell (j := 2) (v := .int .u64 0) rfl
      have f := H.res.free
      go_wp2
      exact bodyPost_ret (v := .agg #[.int .u64 (mix p s).a, .int .u64 (mix p s).b, .int .u64 (mix p s).c]) (by simp [results, Try.results139, go_sem, y0, y1, y2]) rfl ⟨rfl, H.end_ _ _ _⟩

end Go.Proofs.Ytlgjnidphldiiaa

/- Equality of states; the reference's reduction; the examples of the chapter hold. -/
namespace Go.Proofs.Ytlgjnidphldiiaa
open Go.RowKit

theorem Try.part0 (x0 x1 x2 : Value) (w : World) : (part 22 #[x0, x1, x2] 0).run Try.prog w = .ok x0 w := by kernel_rfl
theorem Try.part1 (x0 x1 x2 : Value) (w : World) : (part 22 #[x0, x1, x2] 1).run Try.prog w = .ok x1 w := by kernel_rfl
theorem Try.part2 (x0 x1 x2 : Value) (w : World) : (part 22 #[x0, x1, x2] 2).run Try.prog w = .ok x2 w := by kernel_rfl

theorem eq3D (D : Nat) (hD : ∀ a b w, (Op.equalIn D 22 (.int .u64 a) (.int .u64 b)).run Try.prog w = .ok (a == b) w) (a b c x y z : Int) (w : World) :
    (Op.equalIn (D + 1) 112 (.agg #[.int .u64 a, .int .u64 b, .int .u64 c]) (.agg #[.int .u64 x, .int .u64 y, .int .u64 z])).run Try.prog w = .ok (a == x && (b == y && c == z)) w := by
  have hu := Try.underlying112
  simp [Op.equalIn, run_underlying hu, List.range', Try.part0, Try.part1, Try.part2, hD]
  by_cases h1 : a = x <;> by_cases h2 : b = y <;> by_cases h3 : c = z <;> simp [h1, h2, h3]

/-- Are two states equal? -/
def eq3 (a b c x y z : Int) : Bool := a == x && (b == y && c == z)

@[go_sem] theorem run_equalIn3 (a b c x y z : Int) (w : World) :
    (Op.equalIn 10000 112 (.agg #[.int .u64 a, .int .u64 b, .int .u64 c]) (.agg #[.int .u64 x, .int .u64 y, .int .u64 z])).run Try.prog w = .ok (eq3 a b c x y z) w :=
  eq3D 9999 (fun a b w => run_equalIn_int w 9998 22 .u64 .u64 a b Try.underlying22) a b c x y z w

theorem eq3_self (a b c : Int) : eq3 a b c a b c = true := by simp [eq3]
theorem eq3_iff (s t : T3) : eq3 s.a s.b s.c t.a t.b t.c = decide (s.a = t.a ∧ s.b = t.b ∧ s.c = t.c) := by
  unfold eq3
  rw [Bool.eq_iff_iff]
  simp

theorem ex0 : fconst 17 0 0 = 15 := by decide
theorem ex1 : fconst 17 0 1 = 12 := by decide
theorem ex2 : fconst 17 0 2 = 10 := by decide
theorem ex3 : mix 17 ⟨1, 2, 3⟩ = ⟨7, 8, 9⟩ := by decide +kernel

end Go.Proofs.Ytlgjnidphldiiaa
