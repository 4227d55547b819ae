/- The contracts of the permutation's constants and mixing, of the program and of the reference. -/
import Derived.Test.YtalmgeefkcebdaaGreatDoorQ04
import Derived.ProofKit
import Derived.OpenShut
import Derived.JoinedOf
import Derived.KernelRfl
import Derived.Laws.IdiomArrays
import Derived.ChangeSlices
import Derived.Carry
import Derived.Deep.RegionWith
import Derived.Maps.AppendAt
import Derived.Laws.AppendOwnNone
import Derived.Lib.SmallJoins
namespace Go.Proofs.YtalmgeefkcebdaaGreatDoor
open Go.RowKit

/-- A round constant. -/
def fconst (p r i : Int) : Int := if 0 ≤ r ∧ r < 8 ∧ 0 ≤ i ∧ i ≤ 2 then fred p (((3 * r + i + 1) * 11400714819323198485) % 18446744073709551616) else 0

theorem fconst_bd (p r i : Int) : 0 ≤ fconst p r i ∧ fconst p r i < 18446744073709551616 := by
  unfold fconst
  split
  · exact fred_bd _ _
  · decide

set_option maxHeartbeats 400000 in
theorem Constant_any (p r i : Int) (w : World) :
    Calls Tryz.prog 226 #[.int .u64 p, .int .i64 r, .int .i64 i] w fun e w' => e = .returned (.int .u64 (fconst p r i)) ∧ Below w.heap.size w w' := by
  by_cases h : 0 ≤ r ∧ r < 8 ∧ 0 ≤ i ∧ i ≤ 2
  · obtain ⟨h1, h2, h3, h4⟩ := h
    have hr : fconst p r i = fred p (((3 * r + i + 1) * 11400714819323198485) % 18446744073709551616) := by rw [fconst, if_pos ⟨h1, h2, h3, h4⟩]
    have e1 : IntKind.u64.wrap (3 * r + i + 1) = 3 * r + i + 1 := by rw [IntKind.wrap_u64]; omega
    have e2 : IntKind.u64.wrap ((3 * r + i + 1) * 11400714819323198485) = ((3 * r + i + 1) * 11400714819323198485) % 18446744073709551616 := by rw [IntKind.wrap_u64]
    obtain ⟨n, hn⟩ : ∃ n, n = ((3 * r + i + 1) * 11400714819323198485) % 18446744073709551616 := ⟨_, rfl⟩
    have n0 : 0 ≤ n := by omega
    have n1 : n < 18446744073709551616 := by omega
    rw [← hn] at hr e2
    have Hr := hide hr
    clear hr hn
    go_enter Tryz.func226, Tryz.ntmps226
    go_wp2_with fail
    refine (Reduce_any p n _ n0 n1).mono ?_
    rintro ew1 w1 ⟨rfl, hb⟩
    go_wp2
    go_ret
    exact ⟨ret_int Hr.out.symm, hb⟩
  · have hr : fconst p r i = 0 := by rw [fconst, if_neg h]
    have Hr := hide hr
    have Hh := hide h
    clear h hr
    go_enter Tryz.func226, Tryz.ntmps226
    go_wp2_with fail
    all_goals first
      | (exact absurd ⟨by omega, by omega, by omega, by omega⟩ Hh.out)
      | (go_wp2; go_ret; exact ⟨ret_int Hr.out.symm, Below.refl _ _⟩)

set_option maxHeartbeats 400000 in
theorem rConstant_any (p r i : Int) (w : World) :
    Calls Tryz.prog 110 #[.int .u64 p, .int .i64 r, .int .i64 i] w fun e w' => e = .returned (.int .u64 (fconst p r i)) ∧ Below w.heap.size w w' := by
  by_cases h : 0 ≤ r ∧ r < 8 ∧ 0 ≤ i ∧ i ≤ 2
  · obtain ⟨h1, h2, h3, h4⟩ := h
    have hr : fconst p r i = fred p (((3 * r + i + 1) * 11400714819323198485) % 18446744073709551616) := by rw [fconst, if_pos ⟨h1, h2, h3, h4⟩]
    have e1 : IntKind.u64.wrap (3 * r + i + 1) = 3 * r + i + 1 := by rw [IntKind.wrap_u64]; omega
    have e2 : IntKind.u64.wrap ((3 * r + i + 1) * 11400714819323198485) = ((3 * r + i + 1) * 11400714819323198485) % 18446744073709551616 := by rw [IntKind.wrap_u64]
    obtain ⟨n, hn⟩ : ∃ n, n = ((3 * r + i + 1) * 11400714819323198485) % 18446744073709551616 := ⟨_, rfl⟩
    have n0 : 0 ≤ n := by omega
    have n1 : n < 18446744073709551616 := by omega
    rw [← hn] at hr e2
    have Hr := hide hr
    clear hr hn
    by_cases hv : vld p = true
    · have hp := vld_pos hv
      have h5 : fred p n = n % p := by rw [fred, if_pos hv]
      have H5 := hide h5
      clear h5
      go_enter Tryz.func110, Tryz.ntmps110
      go_wp2_with fail
      refine (rValid_any p _).mono ?_
      rintro ew1 w1 ⟨rfl, hb⟩
      go_wp2
      go_ret
      exact ⟨ret_int (by rw [Hr.out, H5.out]), hb⟩
    · have hv := vld_no hv
      have h5 : fred p n = 0 := by rw [fred, hv]; rfl
      have H5 := hide h5
      clear h5
      go_enter Tryz.func110, Tryz.ntmps110
      go_wp2_with fail
      refine (rValid_any p _).mono ?_
      rintro ew1 w1 ⟨rfl, hb⟩
      go_wp2
      go_ret
      exact ⟨ret_int (by rw [Hr.out, H5.out]), hb⟩
  · have hr : fconst p r i = 0 := by rw [fconst, if_neg h]
    have Hr := hide hr
    have Hh := hide h
    clear h hr
    go_enter Tryz.func110, Tryz.ntmps110
    cases hv : vld p with
    | true =>
      go_wp2_with fail
      refine (rValid_any p _).mono ?_
      rintro ew1 w1 ⟨rfl, hb⟩
      go_wp2
      all_goals first
        | (exact absurd ⟨by omega, by omega, by omega, by omega⟩ Hh.out)
        | (go_ret; exact ⟨ret_int Hr.out.symm, hb⟩)
    | false =>
      go_wp2_with fail
      refine (rValid_any p _).mono ?_
      rintro ew1 w1 ⟨rfl, hb⟩
      go_wp2
      all_goals first
        | (exact absurd ⟨by omega, by omega, by omega, by omega⟩ Hh.out)
        | (go_ret; exact ⟨ret_int Hr.out.symm, hb⟩)

/-- A state. -/
structure T3 where
  a : Int
  b : Int
  c : Int
  deriving DecidableEq

def W3 (s : T3) : Prop := (0 ≤ s.a ∧ s.a < 18446744073709551616) ∧ (0 ≤ s.b ∧ s.b < 18446744073709551616) ∧ (0 ≤ s.c ∧ s.c < 18446744073709551616)

def sum3 (p : Int) (s : T3) : Int := fadd p (fadd p s.a s.b) s.c
def mix (p : Int) (s : T3) : T3 := ⟨fadd p s.a (sum3 p s), fadd p s.b (sum3 p s), fadd p s.c (sum3 p s)⟩
theorem mix_W3 (p : Int) (s : T3) : W3 (mix p s) := ⟨fadd_bd _ _ _, fadd_bd _ _ _, fadd_bd _ _ _⟩
/-- The array of which the first k elements are set. -/
def outA (m : T3) (k : Nat) : Array Value := #[.int .u64 (if 0 < k then m.a else 0), .int .u64 (if 1 < k then m.b else 0), .int .u64 (if 2 < k then m.c else 0)]
def A3 (m : T3) : Array Value := #[.int .u64 m.a, .int .u64 m.b, .int .u64 m.c]

theorem fadd0 (p a b : Int) : fadd p (fadd p 0 a) b = fadd p a b := by
  unfold fadd
  split
  · rw [Int.zero_add, Int.emod_add_emod]
  · rfl
theorem fsum3 (p : Int) (s : T3) : fsum p [s.a, s.b, s.c] = sum3 p s := by
  simp only [fsum, sum3, List.foldl, fadd0]

/-- A slice of three words, in a block that is known. -/
theorem sl3 {w : World} {b : Nat} {T : TypeId} {x y z : Int} (h : Blk w b #[.int .u64 x, .int .u64 y, .int .u64 z] T) : Sl w .u64 (some ⟨b, 0, none⟩) [x, y, z] := fun _ =>
  ⟨b, 0, rfl, h.lt, fun i hi => by
    rw [Nat.zero_add]
    match i, hi with
    | 0, _ => exact h.cell rfl
    | 1, _ => exact h.cell rfl
    | 2, _ => exact h.cell rfl⟩

/-- What holds at the head of the loop that fills an array of three. -/
structure FillAt (w wr : World) (b0 b1 bo : Nat) (s m : T3) (k : Nat) : Prop where
  src : Blk wr b0 (A3 s) 24
  res : Blk wr b1 (A3 ⟨0, 0, 0⟩) 24
  out : Blk wr bo (outA m k) 24
  b : Below w.heap.size w wr
  n0 : w.heap.size ≤ b0
  n1 : w.heap.size ≤ b1
  no : w.heap.size ≤ bo
  d0 : bo ≠ b0
  d1 : bo ≠ b1

theorem name_calls {P : Program} {f : FuncId} {args : Array Value} {R : Ending → World → Prop} {w0 : World} (h : ∀ W, W = w0 → Calls P f args W R) : Calls P f args w0 R := h _ rfl

end Go.Proofs.YtalmgeefkcebdaaGreatDoor

/- The contracts of mixing in the reference, and of unmixing. -/
namespace Go.Proofs.YtalmgeefkcebdaaGreatDoor
open Go.RowKit

theorem FillAt.next {w wr w2 : World} {b0 b1 bo : Nat} {s m : T3} {k : Nat} (H : FillAt w wr b0 b1 bo s m k) (hb : Below wr.heap.size wr w2) (v : Value) (he : (outA m k).setIfInBounds k v = outA m (k + 1)) :
    FillAt w (w2.setCell ⟨bo, k, none⟩ v) b0 b1 bo s m (k + 1) :=
  ⟨(H.src.mono hb).other H.d0 _ _, (H.res.mono hb).other H.d1 _ _, by have := (H.out.mono hb).set k v; rwa [he] at this,
    (H.b.trans (hb.mono H.b.size)).setCell (by exact H.no) _, H.n0, H.n1, H.no, H.d0, H.d1⟩

/-- The end: the array that has been filled is copied into the result. -/
theorem FillAt.end_ {w wr : World} {b0 b1 bo : Nat} {s m : T3} (H : FillAt w wr b0 b1 bo s m 3) (x y z : Value) :
    Below w.heap.size w (((wr.setCell ⟨b1, 0, none⟩ x).setCell ⟨b1, 1, none⟩ y).setCell ⟨b1, 2, none⟩ z) :=
  ((H.b.setCell (by exact H.n1) _).setCell (by exact H.n1) _).setCell (by exact H.n1) _

set_option maxHeartbeats 1000000 in
theorem rMix_any (p : Int) (s : T3) (w : World) (hs : W3 s) :
    Calls Tryz.prog 112 #[.int .u64 p, .agg #[.int .u64 s.a, .int .u64 s.b, .int .u64 s.c]] w fun e w' => e = .returned (.agg #[.int .u64 (mix p s).a, .int .u64 (mix p s).b, .int .u64 (mix p s).c]) ∧ Below w.heap.size w w' := by
  obtain ⟨⟨a0, a1⟩, ⟨b0, b1⟩, c0, c1⟩ := hs
  have s1 : 0 ≤ sum3 p s ∧ sum3 p s < 18446744073709551616 := fadd_bd _ _ _
  have hsum := fsum3 p s
  go_enter Tryz.func112, Tryz.ntmps112
  go_wp2_with fail
  refine name_calls fun W hW => ?_
  have g0 : Blk W w.heap.size (A3 s) 24 := by rw [hW]; exact ((Blk.newAt rfl).alloc _).alloc _
  have g1 : Blk W (w.heap.size + 1) (A3 ⟨0, 0, 0⟩) 24 := by rw [hW]; exact (Blk.newAt (by simp)).alloc _
  have g2 : Blk W (w.heap.size + 2) #[.int .u64 s.a, .int .u64 s.b, .int .u64 s.c] 23 := by rw [hW]; exact Blk.newAt (by simp)
  have hB : Below w.heap.size w W := by rw [hW]; exact (((Below.refl _ _).alloc (Nat.le_refl _) _).alloc (by simp) _).alloc (by simp; omega) _
  clear hW
  refine (rSum_any p (some ⟨w.heap.size + 2, 0, none⟩) 3 [s.a, s.b, s.c] _ (sl3 g2) (by intro x hx; simp at hx; omega) (by simp)).mono ?_
  rintro e w1 ⟨rfl, hb1⟩
  rw [hsum]
  replace hB := below2 hB hb1
  replace g0 := g0.mono hb1
  replace g1 := g1.mono hb1
  clear g2 hb1 hsum
  have l0 := g0.lt; have l1 := g1.lt
  have F0 : FillAt w (w1.alloc (.cells #[.int .u64 0, .int .u64 0, .int .u64 0] 24)) w.heap.size (w.heap.size + 1) w1.heap.size s (mix p s) 0 :=
    ⟨g0.alloc _, g1.alloc _, Blk.new _ _ _, hB.alloc (by omega) _, by omega, by omega, by omega, by omega, by omega⟩
  clear g0 g1 hB
  go_wp2
  go_loopw [7] (fun t7 wr => ∃ k : Nat, k ≤ 3 ∧ t7 = .int .i64 k ∧ FillAt w wr w.heap.size (w.heap.size + 1) w1.heap.size s (mix p s) k) (fun t7 _ => 3 - (intOf t7).toNat)
  case atStart => exact ⟨0, by omega, rfl, F0⟩
  case round =>
    obtain ⟨k, hk, rfl, H⟩ := hrel
    by_cases hlt : k < 3
    · have q0 := H.src.cell (j := 0) (v := .int .u64 s.a) rfl
      have q1 := H.src.cell (j := 1) (v := .int .u64 s.b) rfl
      have q2 := H.src.cell (j := 2) (v := .int .u64 s.c) rfl
      obtain rfl | rfl | rfl : k = 0 ∨ k = 1 ∨ k = 2 := by omega
      · go_wp2_with fail
        refine (rAdd_any p s.a (sum3 p s) _ a0 a1 s1.1 s1.2).mono ?_
        rintro e w2 ⟨rfl, hb2⟩
        have y := (H.out.mono hb2).cell (j := 0) (v := .int .u64 0) rfl
        have f := (H.out.mono hb2).free 0
        go_wp2
        go_roundw
        case rel => exact ⟨1, by omega, rfl, H.next hb2 _ rfl⟩
        case measure => simp [intOf]
      · go_wp2_with fail
        refine (rAdd_any p s.b (sum3 p s) _ b0 b1 s1.1 s1.2).mono ?_
        rintro e w2 ⟨rfl, hb2⟩
        have y := (H.out.mono hb2).cell (j := 1) (v := .int .u64 0) rfl
        have f := (H.out.mono hb2).free 1
        go_wp2
        go_roundw
        case rel => exact ⟨2, by omega, rfl, H.next hb2 _ rfl⟩
        case measure => simp [intOf]
      · go_wp2_with fail
        refine (rAdd_any p s.c (sum3 p s) _ c0 c1 s1.1 s1.2).mono ?_
        rintro e w2 ⟨rfl, hb2⟩
        have y := (H.out.mono hb2).cell (j := 2) (v := .int .u64 0) rfl
        have f := (H.out.mono hb2).free 2
        go_wp2
        go_roundw
        case rel => exact ⟨3, by omega, rfl, H.next hb2 _ rfl⟩
        case measure => simp [intOf]
    · obtain rfl : k = 3 := by omega
      have m0 := H.out.cell (j := 0) (v := .int .u64 (mix p s).a) rfl
      have m1 := H.out.cell (j := 1) (v := .int .u64 (mix p s).b) rfl
      have m2 := H.out.cell (j := 2) (v := .int .u64 (mix p s).c) rfl
      have y0 := H.res.cell (j := 0) (v := .int .u64 0) rfl
      have y1 := H.res.cell (j := 1) (v := .int .u64 0) rfl
      have y2 := H.res.cell (j := 2) (v := .int .u64 0) rfl
      have f := H.res.free
      go_wp2
      exact bodyPost_ret (v := .agg #[.int .u64 (mix p s).a, .int .u64 (mix p s).b, .int .u64 (mix p s).c]) (by simp [results, Tryz.results112, go_sem, y0, y1, y2]) rfl ⟨rfl, H.end_ _ _ _⟩

end Go.Proofs.YtalmgeefkcebdaaGreatDoor

/- Equality of states; the reference's reduction; the examples of the chapter hold. -/
namespace Go.Proofs.YtalmgeefkcebdaaGreatDoor
open Go.RowKit

theorem Tryz.part0 (x0 x1 x2 : Value) (w : World) : (part 23 #[x0, x1, x2] 0).run Tryz.prog w = .ok x0 w := by kernel_rfl
theorem Tryz.part1 (x0 x1 x2 : Value) (w : World) : (part 23 #[x0, x1, x2] 1).run Tryz.prog w = .ok x1 w := by kernel_rfl
theorem Tryz.part2 (x0 x1 x2 : Value) (w : World) : (part 23 #[x0, x1, x2] 2).run Tryz.prog w = .ok x2 w := by kernel_rfl

theorem eq3D (D : Nat) (hD : ∀ a b w, (Op.equalIn D 23 (.int .u64 a) (.int .u64 b)).run Tryz.prog w = .ok (a == b) w) (a b c x y z : Int) (w : World) :
    (Op.equalIn (D + 1) 24 (.agg #[.int .u64 a, .int .u64 b, .int .u64 c]) (.agg #[.int .u64 x, .int .u64 y, .int .u64 z])).run Tryz.prog w = .ok (a == x && (b == y && c == z)) w := by
  have hu := Tryz.underlying24
  simp [Op.equalIn, run_underlying hu, List.range', Tryz.part0, Tryz.part1, Tryz.part2, hD]
  by_cases h1 : a = x <;> by_cases h2 : b = y <;> by_cases h3 : c = z <;> simp [h1, h2, h3]

/-- Are two states equal? -/
def eq3 (a b c x y z : Int) : Bool := a == x && (b == y && c == z)

@[go_sem] theorem run_equalIn3 (a b c x y z : Int) (w : World) :
    (Op.equalIn 10000 24 (.agg #[.int .u64 a, .int .u64 b, .int .u64 c]) (.agg #[.int .u64 x, .int .u64 y, .int .u64 z])).run Tryz.prog w = .ok (eq3 a b c x y z) w :=
  eq3D 9999 (fun a b w => run_equalIn_int w 9998 23 .u64 .u64 a b Tryz.underlying23) a b c x y z w

end Go.Proofs.YtalmgeefkcebdaaGreatDoor


/- Closed facts on the translation's head, reckoned once, so that each row's look is cheap. -/
namespace Go.Proofs.YtalmgeefkcebdaaGreatDoor
open Go

/-- The head's signs. -/
def Tryz.signs : List Char := List.map Char.ofNat [104, 97, 114, 110, 101, 115, 115, 32, 52, 52, 50, 56, 57, 48, 99, 98, 98, 98, 101, 98, 51, 51, 97, 102, 52, 55, 56, 100, 101, 51, 55, 52, 97, 100, 50, 54, 100, 49, 98, 48, 102, 102, 101, 53, 100, 99, 101, 49, 57, 50, 49, 100, 50, 101, 100, 49, 51, 55, 57, 102, 100, 51, 53, 51, 49, 54, 51, 99, 49, 55, 54, 98, 32, 99, 117, 116, 32, 97, 116, 32, 109, 111, 105, 100, 111, 114, 101, 47, 109, 111, 105, 100, 111, 114, 101, 116, 111, 112, 46, 84, 111, 112, 72, 97, 115, 104, 82, 101, 108, 97, 116, 105, 111, 110]
theorem Tryz.order : Tryz.prog.initOrder.toList = Tryz.signs := by
  have h : Tryz.prog.initOrder = String.ofList Tryz.signs := by kernel_rfl
  rw [h, String.toList_ofList]
theorem Tryz.first : (behindMainWord (wordsSigns Tryz.signs)).head? = some "cut".toList := by kernel_rfl
theorem Tryz.head : ∃ rest, behindMainWord (wordsSigns Tryz.prog.initOrder.toList) = "cut".toList :: rest := by
  rw [Tryz.order]
  have h := Tryz.first
  generalize behindMainWord (wordsSigns Tryz.signs) = l at h
  cases l with
  | nil => cases h
  | cons c rest => simp only [List.head?_cons, Option.some.injEq] at h; exact ⟨rest, by rw [h]⟩
theorem strip_cut (rest : List (List Char)) : stripLifts liftWords ("cut".toList :: rest) = ([], "cut".toList :: rest) := by kernel_rfl
theorem Tryz.laysLater : Tryz.prog.laysLater = false := by kernel_rfl
theorem Tryz.bearsReflect : Tryz.prog.bearsReflect = false := by kernel_rfl
theorem Tryz.doorFits : Tryz.prog.doorFits [] = true := by kernel_rfl
theorem cut_gc : (("cut".toList : List Char) == "gc".toList) = false := by kernel_rfl
theorem cut_spec : (("cut".toList : List Char) == "spec".toList) = false := by kernel_rfl
theorem cut_carried : (("cut".toList : List Char) == "carried".toList) = false := by kernel_rfl
theorem cut_cut : (("cut".toList : List Char) == "cut".toList) = true := by kernel_rfl

/-! Over any program: nothing of the program is reckoned here. -/
theorem mayEnter_of {P : Program} {rest : List (List Char)} (h : behindMainWord (wordsSigns P.initOrder.toList) = "cut".toList :: rest) (h1 : P.laysLater = false) (h2 : P.bearsReflect = false) (h3 : P.doorFits [] = true) : P.mayEnter = true := by
  unfold Program.mayEnter
  rw [h]
  simp only [strip_cut, cut_gc, cut_spec, cut_carried, h1, h2, h3, Bool.false_or, Bool.false_and, Bool.not_false, Bool.or_true, Bool.and_true, List.head?_cons]
  have : (some "cut".toList == some "cut".toList) = true := by kernel_rfl
  rw [this]
  rfl
theorem headLifts_of {P : Program} {rest : List (List Char)} (h : behindMainWord (wordsSigns P.initOrder.toList) = "cut".toList :: rest) : P.headLifts = [] := by
  unfold Program.headLifts
  rw [h]
  simp only [strip_cut]
  split <;> rfl
theorem liftsFinal_of {P : Program} {rest : List (List Char)} (h : behindMainWord (wordsSigns P.initOrder.toList) = "cut".toList :: rest) : P.liftsFinal = false := by
  unfold Program.liftsFinal
  rw [h, headLifts_of h]
  simp only [List.head?_cons]
  have : (some "cut".toList == some "carried".toList) = false := by kernel_rfl
  rw [this]
  rfl
theorem make_of {P : Program} {rest : List (List Char)} (h : behindMainWord (wordsSigns P.initOrder.toList) = "cut".toList :: rest) : P.make = some .cut := by
  unfold Program.make
  rw [h]
  simp only [cut_gc, cut_spec, cut_cut, Bool.or_false, Bool.true_or, if_true, Bool.false_eq_true, if_false]

theorem Tryz.mayEnter : Tryz.prog.mayEnter = true := Tryz.head.elim fun _ h => mayEnter_of h Tryz.laysLater Tryz.bearsReflect Tryz.doorFits
theorem Tryz.liftsFinal : Tryz.prog.liftsFinal = false := Tryz.head.elim fun _ h => liftsFinal_of h
theorem Tryz.make : Tryz.prog.make = some .cut := Tryz.head.elim fun _ h => make_of h

end Go.Proofs.YtalmgeefkcebdaaGreatDoor

/- What the frames of the laws share: opening and shutting arguments, the post of a law that changes nothing. -/
namespace Go.Proofs.YtalmgeefkcebdaaGreatDoor
open Go.ChangeShapes Go.WideShapes Go.ChangeAt Go.RowKit

theorem own : ownKnob Tryz.prog.godebug = none := by kernel_rfl
theorem Tryz.laidOut : laidOutB Tryz.prog = true := by kernel_rfl

/-- Behind a call that changes nothing that was there: the post of a row that is not asked to be called again. -/
theorem post_of_below {H : Type} {enc : TypeId × Value → H} {P : Program} {f : Func} {s : ChangeSpec} {apart fresh handsOn : Bool} {W W' : World} {args : Array Value} {v : Value} {ds gs : List (DataW H)} {before pa pv : List MemPlace}
    (hW : DataW.Whole enc P f.params.toList s.vars apart W args.toList ds gs before)
    (hres : ∀ (b : Nat) (sp : Nat → Bool) (hd : Bool), DataW.TrodAll enc P W' b sp hd f.resultTypes.toList (v.resultList f.resultTypes.size) (s.fn H (ds ++ gs)).results [])
    (hargs : ∀ sp : Nat → Bool, (∀ p ∈ before, sp p.block = true) → (sp = fun b => decide (b < W.heap.size)) → DataW.TrodAll enc P W' 0 sp true f.params.toList args.toList (s.fn H (ds ++ gs)).args pa)
    (hvars : ∀ sp : Nat → Bool, (∀ p ∈ before, sp p.block = true) → DataW.TrodVars enc P W' sp s.vars (s.fn H (ds ++ gs)).vars pv)
    (hps : before = pa ++ pv) (hb : Below W.heap.size W W') :
    s.post enc P f apart fresh handsOn false W args v W' := by
  have hold : ∀ p ∈ before, (fun b => decide (b < W.heap.size)) p.block = true := fun p hp => by simpa using hW.lt p hp
  refine ⟨ds, gs, before, [], pa, pv, hW, hres _ _ _, hargs _ hold rfl, hvars _ hold, World.keptBut_mono (fun p hp => ⟨hp, ?_⟩) (hb.frame (· ∈ before)), fun h => by cases h⟩
  rw [hps, List.mem_append] at hp
  exact Or.inr hp

section
variable {H : Type} {enc : TypeId × Value → H} {P : Program} {w : World} {base : Nat} {spare : Nat → Bool} {held : Bool}

/-- An array of three words of 64 bits. -/
theorem open_arr3 {r : Reach} {b0 : Nat} {t e : TypeId} {v : Value} {d : DataW H} {ps : List MemPlace} (ht : P.underlying t = some (.array 3 e)) (he : P.underlying e = some (.int .u64)) (hc : P.cellsOf e = 1) (hs : P.cellsOf t = 3)
    (hval : Value.okWide P w r b0 t v) (hd : DataW.Trod enc P w base spare held t v d ps) :
    ∃ x y z, v = .agg #[.int .u64 x, .int .u64 y, .int .u64 z] ∧ d = .agg [.lit (.int .u64 x), .lit (.int .u64 y), .lit (.int .u64 z)] ∧ ps = [] ∧ (Lit.int .u64 x).wf = true ∧ (Lit.int .u64 y).wf = true ∧ (Lit.int .u64 z).wf = true := by
  have h1 : ∃ cs : Array Value, v = .agg cs ∧ cs.size = 3 := by
    simp only [Value.okWide, ht] at hval
    obtain ⟨cs, h1, h2, _⟩ := hval
    exact ⟨cs, h1, by rw [h2, hs]⟩
  obtain ⟨cs, rfl, hn⟩ := h1
  obtain ⟨fuel, hf⟩ := hd
  obtain ⟨c0, c1, c2, hcs⟩ : ∃ c0 c1 c2, cs.toList = [c0, c1, c2] := by
    match h : cs.toList, (by simpa using hn : cs.toList.length = 3) with
    | [a, b, c], _ => exact ⟨a, b, c, rfl⟩
  obtain rfl : cs = #[c0, c1, c2] := by cases cs; simp_all
  have hcells : (Value.agg #[c0, c1, c2]).cells.toList = [c0, c1, c2] := by simp [Value.cells]
  rw [hcells] at hf
  obtain ⟨y0, y1, y2, n, hx, h0, h1, h2⟩ := trod_array3 ht hc hf
  obtain ⟨x, hx0, rfl, wx⟩ := DataW.trod_int he h0
  obtain ⟨y, hx1, rfl, wy⟩ := DataW.trod_int he h1
  obtain ⟨z, hx2, rfl, wz⟩ := DataW.trod_int he h2
  simp only [List.cons.injEq, and_true] at hx0 hx1 hx2
  subst hx0 hx1 hx2
  simp only [Prod.mk.injEq, List.append_nil] at hx
  exact ⟨x, y, z, rfl, hx.1, hx.2, wx, wy, wz⟩

theorem wf_u64 {x : Int} (h : (Lit.int .u64 x).wf = true) : 0 ≤ x ∧ x < 18446744073709551616 := by
  simp [Lit.wf, IntKind.min, IntKind.max, IntKind.signed, IntKind.bits] at h
  omega
end
end Go.Proofs.YtalmgeefkcebdaaGreatDoor


/- Slices of integers as a law's parameters. -/
namespace Go.Proofs.YtalmgeefkcebdaaGreatDoor
open Go.ChangeShapes Go.WideShapes Go.ChangeAt Go.RowKit

section
variable {H : Type} {enc : TypeId × Value → H} {P : Program} {w : World}

end

end Go.Proofs.YtalmgeefkcebdaaGreatDoor

/- New arrays of three, and stores of whole arrays. -/
namespace Go.Proofs.YtalmgeefkcebdaaGreatDoor
open Go.RowKit

theorem below_set3 {w w' : World} {n c : Nat} (h : Below n w w') (hc : n ≤ c) (x y z : Value) : Below n w (((w'.setCell ⟨c, 0, none⟩ x).setCell ⟨c, 1, none⟩ y).setCell ⟨c, 2, none⟩ z) :=
  ((h.setCell (by exact hc) _).setCell (by exact hc) _).setCell (by exact hc) _

end Go.Proofs.YtalmgeefkcebdaaGreatDoor

/- Slices of integers that a call makes: what it is to own one, and append, for the walk. -/
namespace Go.Proofs.YtalmgeefkcebdaaGreatDoor
open Go.RowKit

/-- v is a slice of the call's own (its block is number base or later), of elements of type E, integers of kind k: the list xs. -/
def Own (w : World) (base : Nat) (E : TypeId) (k : IntKind) (v : Value) (xs : List Int) : Prop := w.ownsRow base E 1 v xs.length (xs.map (Value.int k))

section
variable {w w' : World} {base : Nat} {E : TypeId} {k : IntKind} {v : Value} {xs : List Int}

theorem Own.nil (w : World) (base : Nat) (E : TypeId) (k : IntKind) : Own w base E k (.slice none 0 0) [] := World.ownsRow_nil w base E 1

theorem Own.lt (h : Own w base E k v xs) {b : Nat} (hb : v.ownBlock = some b) : base ≤ b ∧ b < w.heap.size := World.ownsRow.lt h b hb

theorem Own.form (h : Own w base E k v xs) : (v = .slice none 0 0 ∧ xs = []) ∨ ∃ g cap cur, v = .slice (some ⟨g, 0, none⟩) xs.length cap ∧ base ≤ g ∧ Blk w g cur E ∧ xs.length ≤ cap ∧ cap ≤ maxLen ∧ cur.size = cap ∧ cur.toList.take xs.length = xs.map (Value.int k) := by
  obtain ⟨_, h2⟩ := h
  rcases h2 with ⟨h3, h4⟩ | ⟨g, cap, cur, h3, h4, h5, h6, h7, h8, h9⟩
  · exact .inl ⟨h3, List.eq_nil_of_length_eq_zero h4⟩
  · exact .inr ⟨g, cap, cur, h3, h4, h5, h6, h7, by omega, by simpa using h9⟩

theorem Own.of_blk {g cap : Nat} {cur : Array Value} (hb : base ≤ g) (h : Blk w g cur E) (h1 : xs.length ≤ cap) (h2 : cap ≤ maxLen) (h3 : cur.size = cap) (h4 : cur.toList.take xs.length = xs.map (Value.int k)) : Own w base E k (.slice (some ⟨g, 0, none⟩) xs.length cap) xs :=
  ⟨by simp, .inr ⟨g, cap, cur, rfl, hb, h, h1, h2, by omega, by simpa using h4⟩⟩

theorem Own.mono (h : Own w base E k v xs) (hb : Below w.heap.size w w') : Own w' base E k v xs := by
  rcases h.form with ⟨rfl, rfl⟩ | ⟨g, cap, cur, rfl, h1, h2, h3, h4, h5, h6⟩
  · exact Own.nil _ _ _ _
  · exact Own.of_blk h1 (h2.mono hb) h3 h4 h5 h6

theorem Own.alloc (h : Own w base E k v xs) (o : Obj) : Own (w.alloc o) base E k v xs := h.mono ((Below.refl _ _).alloc (Nat.le_refl _) o)

theorem Own.low (h : Own w base E k v xs) {b : Nat} (hb : b ≤ base) : Own w b E k v xs := by
  rcases h.form with ⟨rfl, rfl⟩ | ⟨g, cap, cur, rfl, h1, h2, h3, h4, h5, h6⟩
  · exact Own.nil _ _ _ _
  · exact Own.of_blk (Nat.le_trans hb h1) h2 h3 h4 h5 h6

theorem Own.other (h : Own w base E k v xs) {b j : Nat} (hn : v.ownBlock ≠ some b) (u : Value) : Own (w.setCell ⟨b, j, none⟩ u) base E k v xs := by
  rcases h.form with ⟨rfl, rfl⟩ | ⟨g, cap, cur, rfl, h1, h2, h3, h4, h5, h6⟩
  · exact Own.nil _ _ _ _
  · exact Own.of_blk h1 (h2.other (fun e => hn (by simp [Value.ownBlock, e])) _ _) h3 h4 h5 h6

/-- As a slice that holds the list. -/
theorem Own.sl (h : Own w base E k v xs) : ∃ ad c, v = .slice ad xs.length c ∧ Sl w k ad xs ∧ xs.length ≤ c ∧ c ≤ maxLen := by
  rcases h.form with ⟨rfl, rfl⟩ | ⟨g, cap, cur, rfl, h1, h2, h3, h4, h5, h6⟩
  · exact ⟨none, 0, rfl, Sl.nil _ _ _, Nat.le_refl _, by simp⟩
  · refine ⟨_, cap, rfl, fun h0 => ⟨g, 0, rfl, h2.lt, fun i hi => ?_⟩, h3, h4⟩
    refine h2.cell ?_
    have e : cur.toList[i]? = some (Value.int k (xs.getD i 0)) := by
      have : (cur.toList.take xs.length)[i]? = (xs.map (Value.int k))[i]? := by rw [h6]
      rw [List.getElem?_take_of_lt hi] at this
      rw [this]
      simp [List.getD_eq_getElem?_getD, List.getElem?_eq_getElem hi]
    simpa using e

/-- Element number j is stored. -/
theorem Own.set {g n cap : Nat} (h : Own w base E k (.slice (some ⟨g, 0, none⟩) n cap) xs) (j : Nat) (x : Int) : Own (w.setCell ⟨g, j, none⟩ (.int k x)) base E k (.slice (some ⟨g, 0, none⟩) n cap) (xs.set j x) := by
  rcases h.form with ⟨h0, _⟩ | ⟨g', cap', cur, h0, h1, h2, h3, h4, h5, h6⟩
  · cases h0
  · cases h0
    have := Own.of_blk (w := w.setCell ⟨g, j, none⟩ (.int k x)) (k := k) (xs := xs.set j x) (cap := cap) h1 (h2.set j (.int k x)) (by simpa using h3) h4 (by simpa using h5) (by
      rw [Array.toList_setIfInBounds, List.length_set, List.map_set, ← h6, List.take_set])
    simpa using this

theorem Own.len {g : Addr} {n cap : Nat} (h : Own w base E k (.slice (some g) n cap) xs) : n = xs.length ∧ n ≤ cap := by
  rcases h.form with ⟨h0, _⟩ | ⟨g', cap', cur, h0, h1, h2, h3, _⟩
  · cases h0
  · cases h0
    exact ⟨rfl, h3⟩

theorem Own.cell {g n cap : Nat} (h : Own w base E k (.slice (some ⟨g, 0, none⟩) n cap) xs) {j : Nat} (hj : j < n) : w.cell? ⟨g, j, none⟩ = some (.int k (xs.getD j 0)) := by
  obtain ⟨rfl, _⟩ := h.len
  obtain ⟨ad, c, h1, h2, _⟩ := h.sl
  cases h1
  obtain ⟨b, off, e, _, hc⟩ := h2.get hj
  cases e
  simpa using hc

theorem Own.free {g n cap : Nat} (h : Own w base E k (.slice (some ⟨g, 0, none⟩) n cap) xs) (j : Nat) : w.frozen? ⟨g, j, none⟩ = false := by
  rcases h.form with ⟨h0, _⟩ | ⟨g', cap', cur, h0, h1, h2, _⟩
  · cases h0
  · cases h0
    exact h2.free j

theorem Own.made {cap : Nat} (z : Int) (hb : base ≤ w.heap.size) (hm : cap ≤ maxLen) : Own (w.alloc (.cells (madeCells #[.int k z] cap) E)) base E k (.slice (some ⟨w.heap.size, 0, none⟩) cap cap) (List.replicate cap z) := by
  have h : (madeCells #[.int k z] cap) = (List.replicate cap (Value.int k z)).toArray := by
    unfold madeCells
    apply Array.ext'
    rw [Array.toList_map]
    refine List.ext_getElem (by simp) fun i h1 h2 => ?_
    have e : i % 1 = 0 := Nat.mod_one i
    simp [e]
  have := Own.of_blk (k := k) (xs := List.replicate cap z) (cap := cap) hb (Blk.new w (madeCells #[.int k z] cap) E) (by simp) hm (by rw [h]; simp) (by rw [h]; simp)
  simpa using this

end

/-- One new cell. -/
theorem Sl.one (w : World) (k : IntKind) (x : Int) (T : TypeId) : Sl (w.alloc (.cells #[.int k x] T)) k (some ⟨w.heap.size, 0, none⟩) [x] := fun _ =>
  ⟨w.heap.size, 0, rfl, by simp, fun i hi => by
    have : i = 0 := by simpa using hi
    subst this
    exact (Blk.new w #[.int k x] T).cell (j := 0) rfl⟩

theorem Blk.grown {w w' : World} {b : Nat} {cs : Array Value} {T : TypeId} {row : Option Nat} (h : Blk w b cs T) (hg : w.grownBy w' row) (hn : row ≠ some b) : Blk w' b cs T := by
  have := hg.block b h.lt (fun e => hn e.symm)
  unfold Blk at *
  rw [this]; exact h

theorem own_ne {w : World} {v v' : Value} {b : Nat} (hat : v'.ownBlock = v.ownBlock ∨ v'.ownBlock = some w.heap.size) (hn : v.ownBlock ≠ some b) (hb : b < w.heap.size) : v'.ownBlock ≠ some b := by
  rcases hat with h | h
  · rw [h]; exact hn
  · rw [h]; intro e; cases e; exact absurd hb (Nat.lt_irrefl _)

theorem below_grown {B base : Nat} {a w w' : World} {E : TypeId} {k : IntKind} {v : Value} {xs : List Int} (h : Below B a w) (hown : Own w base E k v xs) (hg : w.grownBy w' v.ownBlock) (hB : B ≤ base) (hs : B ≤ w.heap.size) : Below B a w' :=
  h.grown hg hs fun _ hb => Nat.le_trans hB (hown.lt hb).1

/-- w' is w behind an append that turned v into v'. -/
structure Grew (w w' : World) (v v' : Value) : Prop where
  by_ : w.grownBy w' v.ownBlock
  ne : ∀ b, b < w.heap.size → v.ownBlock ≠ some b → v'.ownBlock ≠ some b

theorem Grew.of {w w' : World} {v v' : Value} (hg : w.grownBy w' v.ownBlock) (hat : v'.ownBlock = v.ownBlock ∨ v'.ownBlock = some w.heap.size) : Grew w w' v v' := ⟨hg, fun _ hb hn => own_ne hat hn hb⟩

theorem Grew.below {B base : Nat} {a w w' : World} {E : TypeId} {k : IntKind} {v v' : Value} {xs : List Int} (h : Grew w w' v v') (hB : Below B a w) (hown : Own w base E k v xs) (h1 : B ≤ base) (h2 : B ≤ w.heap.size) : Below B a w' := below_grown hB hown h.by_ h1 h2
theorem Grew.blk {w w' : World} {v v' : Value} {b : Nat} {cs : Array Value} {T : TypeId} (h : Grew w w' v v') (hk : Blk w b cs T) (hn : v.ownBlock ≠ some b) : Blk w' b cs T := hk.grown h.by_ hn
/-- Another slice of the call's own stays. -/
theorem Grew.own {w w' : World} {v v' u : Value} {base : Nat} {E : TypeId} {k : IntKind} {xs : List Int} (h : Grew w w' v v') (hu : Own w base E k u xs) (hn : u = .slice none 0 0 ∨ v.ownBlock ≠ u.ownBlock) : Own w' base E k u xs := by
  rcases hu.form with ⟨rfl, rfl⟩ | ⟨g, cap, cur, rfl, h1, h2, h3, h4, h5, h6⟩
  · exact Own.nil _ _ _ _
  · rcases hn with hn | hn
    · cases hn
    · exact Own.of_blk h1 (h2.grown h.by_ hn) h3 h4 h5 h6

/-- A walk's goal, held back: the tactics of the walk pass it by. -/
def Hold (p : Prop) : Prop := p
theorem Hold.mk {p : Prop} (h : Hold p) : p := h
theorem Hold.go {p : Prop} (h : p) : Hold p := h

section
variable {P : Program} (w : World)

/-- append, for the walk: onto a slice of the call's own, whatever slice is appended. -/
theorem wpList_app {ops : Array Oper} {rest : List Oper} {o : Oper} {a : Act} {Q : Exit → Act → World → Prop} (hgd : o.guard = none) (s x : Operand) (t : TypeId)
    (ho : o.op = .call { callee := .builtin .append, args := #[s, x], argTypes := #[t, t] })
    (base : Nat) (E : TypeId) (k : IntKind) (bytes : Nat) (ht : P.underlying t = some (.slice E)) (hinfo : (P.info? E).map (fun i => (i.zero, i.size, i.bytes)) = some (some (.int k 0), 1, bytes)) (h8 : bytes ≤ 8)
    (v : Value) (xs ys : List Int) (c : Nat) (A : Option Addr) (hs : a.eval s = v) (hx : a.eval x = .slice A ys.length c) (hown : Own w base E k v xs) (hsl : Sl w k A ys) (hlen : xs.length + ys.length < 1099511627776) (hbase : base ≤ w.heap.size)
    (h : ∀ v' w', Own w' base E k v' (xs ++ ys) → Grew w w' v v' → wpList P ops Q rest (a.put o.dst v') w') : wpList P ops Q (o :: rest) a w := by
  obtain ⟨i, hi, hz, hsz, hby⟩ := info_parts hinfo
  refine wpList_plain hgd fun K hK => ?_
  have key : ∃ v' w', (Builtin.append_ #[t, t] o.type #[v, .slice A ys.length c]).run P w = .ok v' w' ∧ Own w' base E k v' (xs ++ ys) ∧ w.grownBy w' v.ownBlock ∧ (v'.ownBlock = v.ownBlock ∨ v'.ownBlock = some w.heap.size) := by
    rcases Nat.eq_zero_or_pos ys.length with h0 | h0
    · obtain rfl := List.eq_nil_of_length_eq_zero h0
      rcases A with _ | ad
      · refine ⟨v, w, ?_, by simpa using hown, ⟨rfl, rfl, rfl, Nat.le_refl _, fun _ _ _ => rfl⟩, .inl rfl⟩
        rcases hown.2 with ⟨rfl, h4⟩ | ⟨g, cap, cur, rfl, _, _, hnc, _⟩
        · simp [Builtin.append_, run_underlying ht, sizeOf, typeInfo, hi, Builtin.lenOf, Builtin.firstCells]
        · simp [Builtin.append_, run_underlying ht, sizeOf, typeInfo, hi, Builtin.lenOf, Builtin.firstCells, hnc, storeCells]
      · obtain ⟨v', w', hr, h2, h3, _, h5⟩ := run_append_own_at (P := P) w base t o.type E i (.int k 0) 1 bytes ht hi hz hsz hby rfl (by omega) v xs.length _ hown ad 0 c [] rfl (fun j u hu => by simp at hu) (fun u hu => by simp at hu) (by simp only [maxLen]; omega) (by
          have : (xs.length + 0) * bytes ≤ (xs.length + 0) * 8 := Nat.mul_le_mul_left _ h8
          omega) hbase
        exact ⟨v', w', hr, by simpa [Own] using h2, h3, h5⟩
    · obtain ⟨b, off, rfl, _, hc⟩ := hsl h0
      obtain ⟨v', w', hr, h2, h3, _, h5⟩ := run_append_own_at (P := P) w base t o.type E i (.int k 0) 1 bytes ht hi hz hsz hby rfl (by omega) v xs.length _ hown ⟨b, off, none⟩ ys.length c (ys.map (Value.int k)) (by simp) (fun j u hu => by
          have hj : j < ys.length := by
            rcases Nat.lt_or_ge j ys.length with h | h
            · exact h
            · rw [List.getElem?_eq_none (by simpa using h)] at hu; cases hu
          have e : (⟨b, off, none⟩ : Addr).add j = ⟨b, off + j, none⟩ := by unfold Addr.add; split <;> simp_all
          rw [e, hc j hj]
          rw [List.getElem?_map, List.getElem?_eq_getElem hj] at hu
          rw [← hu]
          simp [List.getD_eq_getElem?_getD, List.getElem?_eq_getElem hj]) (fun u hu => by
          obtain ⟨z, _, rfl⟩ := List.mem_map.1 hu
          rfl) (by simp only [maxLen]; omega) (by
          have : (xs.length + ys.length) * bytes ≤ (xs.length + ys.length) * 8 := Nat.mul_le_mul_left _ h8
          omega) hbase
      exact ⟨v', w', hr, by simpa [Own] using h2, h3, h5⟩
  obtain ⟨v', w', hr, h2, h3, h4⟩ := key
  unfold Oper.wp execOp
  simp only [ho, resolve, invoke, builtin, Sem.run_bind, Sem.run_pure, Result.andThen_ok, List.map_toArray, List.map_cons, List.map_nil, hs, hx, hr]
  exact hK _ _ (h v' w' h2 (.of h3 h4))

/-- append of one element, which lies in the block just made. -/
theorem wpList_app1 {ops : Array Oper} {rest : List Oper} {o : Oper} {a : Act} {Q : Exit → Act → World → Prop} (E : TypeId) (k : IntKind) (y : Int) (hgd : o.guard = none) (s x : Operand) (t : TypeId)
    (ho : o.op = .call { callee := .builtin .append, args := #[s, x], argTypes := #[t, t] })
    (base : Nat) (bytes : Nat) (ht : P.underlying t = some (.slice E)) (hinfo : (P.info? E).map (fun i => (i.zero, i.size, i.bytes)) = some (some (.int k 0), 1, bytes)) (h8 : bytes ≤ 8)
    (v : Value) (xs : List Int) (hs : a.eval s = v) (hx : a.eval x = .slice (some ⟨w.heap.size, 0, none⟩) 1 1) (hown : Own w base E k v xs) (hlen : xs.length < 1099511627775) (hbase : base ≤ w.heap.size)
    (h : ∀ v' w', Own w' base E k v' (xs ++ [y]) → Grew w w' v v' → wpList P ops Q rest (a.put o.dst v') w') : wpList P ops Q (o :: rest) a (w.alloc (.cells #[.int k y] E)) := by
  refine wpList_app _ hgd s x t ho base E k bytes ht hinfo h8 v xs [y] 1 _ hs hx (hown.alloc _) (Sl.one _ _ _ _) (by simp; omega) (by simp; omega) fun v' w' h1 h2 => h v' w' h1 ⟨⟨h2.by_.os, h2.by_.tape, h2.by_.output, Nat.le_trans (by simp) h2.by_.size, fun i hi hn => ?_⟩, fun b hb hn => h2.ne b (by simp; omega) hn⟩
  rw [h2.by_.block i (by simp; omega) hn, alloc_at, if_neg (by omega)]
end

/-- make([]T, n, c), for the walk: an equation for every world. -/
theorem run_mkI {P : Program} {t e : TypeId} {k : IntKind} {bytes : Nat} (ht : P.underlying t = some (.slice e)) (hinfo : (P.info? e).map (fun i => (i.zero, i.size, i.bytes)) = some (some (.int k 0), 1, bytes)) (h8 : bytes ≤ 8) {L C : Int} (l c : Nat) (hL : L = l) (hC : C = c) (hlc : l ≤ c) (hc : c < 1099511627776) (w : World) :
    (Instr.makeSlice t (.int .i64 L) (.int .i64 C)).run P w = .ok (.slice (some ⟨w.heap.size, 0, none⟩) l c) (w.alloc (.cells (madeCells #[.int k 0] c) e)) := by
  subst hL hC
  obtain ⟨i, hi, hz, hsz, hby⟩ := info_parts hinfo
  have hb : (i.bytes : Int) * (c : Int) ≤ 281474976710656 := by
    rw [hby]
    have : bytes * c ≤ 8 * c := Nat.mul_le_mul_right _ h8
    have h : ((bytes * c : Nat) : Int) ≤ 281474976710656 := by omega
    rwa [Int.natCast_mul] at h
  have hr := run_make (P := P) w t e i (.int k 0) ht hi hz .i64 .i64 l c (by omega) (by omega) hb (by omega)
  simp only [Int.toNat_natCast, hsz, Nat.mul_one] at hr
  exact hr
theorem run_mk {P : Program} {t e : TypeId} {k : IntKind} {bytes : Nat} (ht : P.underlying t = some (.slice e)) (hinfo : (P.info? e).map (fun i => (i.zero, i.size, i.bytes)) = some (some (.int k 0), 1, bytes)) (h8 : bytes ≤ 8) (l c : Nat) (hlc : l ≤ c) (hc : c < 1099511627776) (w : World) :
    (Instr.makeSlice t (.int .i64 (l : Int)) (.int .i64 (c : Int))).run P w = .ok (.slice (some ⟨w.heap.size, 0, none⟩) l c) (w.alloc (.cells (madeCells #[.int k 0] c) e)) :=
  run_mkI ht hinfo h8 l c rfl rfl hlc hc w

theorem Tryz.infoU64 : (Tryz.prog.info? 23).map (fun i => (i.zero, i.size, i.bytes)) = some (some (.int .u64 0), 1, 8) := by kernel_rfl
end Go.Proofs.YtalmgeefkcebdaaGreatDoor

/- Structs with slices as a law's parameters. -/
namespace Go.Proofs.YtalmgeefkcebdaaGreatDoor
open Go.ChangeShapes Go.WideShapes Go.ChangeAt Go.RowKit

section
variable {H : Type} {enc : TypeId × Value → H} {P : Program} {w : World}

end
end Go.Proofs.YtalmgeefkcebdaaGreatDoor

