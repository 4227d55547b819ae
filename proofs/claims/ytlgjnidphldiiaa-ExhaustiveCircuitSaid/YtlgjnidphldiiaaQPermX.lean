/- The contracts of the permutation's constants and mixing, of the program and of the reference. -/
import Derived.Test.YtlgjnidphldiiaaQRef1X
import Derived.Test.YtlgjnidphldiiaaQRelX
import Derived.ProofKit
import Derived.OpenShut
namespace Go.Proofs.Ytlgjnidphldiiaa
open Go.RowKit

/-- A round constant. -/
def fconst (p r i : Int) : Int := if 0 ≤ r ∧ r < 8 ∧ 0 ≤ i ∧ i ≤ 2 then fred p (((3 * r + i + 1) * 11400714819323198485) % 18446744073709551616) else 0

theorem fconst_bd (p r i : Int) : 0 ≤ fconst p r i ∧ fconst p r i < 18446744073709551616 := by
  unfold fconst
  split
  · exact fred_bd _ _
  · decide

set_option maxHeartbeats 400000 in
theorem rConstant_any (p r i : Int) (w : World) :
    Calls Try.prog 122 #[.int .u64 p, .int .i64 r, .int .i64 i] w fun e w' => e = .returned (.int .u64 (fconst p r i)) ∧ Below w.heap.size w w' := by
  by_cases h : 0 ≤ r ∧ r < 8 ∧ 0 ≤ i ∧ i ≤ 2
  · obtain ⟨h1, h2, h3, h4⟩ := h
    have hr : fconst p r i = fred p (((3 * r + i + 1) * 11400714819323198485) % 18446744073709551616) := by rw [fconst, if_pos ⟨h1, h2, h3, h4⟩]
    have e1 : IntKind.u64.wrap (3 * r + i + 1) = 3 * r + i + 1 := by rw [IntKind.wrap_u64]; omega
    have e2 : IntKind.u64.wrap ((3 * r + i + 1) * 11400714819323198485) = ((3 * r + i + 1) * 11400714819323198485) % 18446744073709551616 := by rw [IntKind.wrap_u64]
    obtain ⟨n, hn⟩ : ∃ n, n = ((3 * r + i + 1) * 11400714819323198485) % 18446744073709551616 := ⟨_, rfl⟩
    have n0 : 0 ≤ n := by omega
    have n1 : n < 18446744073709551616 := by omega
    rw [← hn] at hr e2
    have Hr := hide hr
    clear hr hn
    by_cases hv : vld p = true
    · have hp := vld_pos hv
      have h5 : fred p n = n % p := by rw [fred, if_pos hv]
      have H5 := hide h5
      clear h5
      go_enter Try.func122, Try.ntmps122
      go_wp2_with fail
      refine (rValid_any p _).mono ?_
      rintro ew1 w1 ⟨rfl, hb⟩
      go_wp2
      go_ret
      exact ⟨ret_int (by rw [Hr.out, H5.out]), hb⟩
    · have hv := vld_no hv
      have h5 : fred p n = 0 := by rw [fred, hv]; rfl
      have H5 := hide h5
      clear h5
      go_enter Try.func122, Try.ntmps122
      go_wp2_with fail
      refine (rValid_any p _).mono ?_
      rintro ew1 w1 ⟨rfl, hb⟩
      go_wp2
      go_ret
      exact ⟨ret_int (by rw [Hr.out, H5.out]), hb⟩
  · have hr : fconst p r i = 0 := by rw [fconst, if_neg h]
    have Hr := hide hr
    have Hh := hide h
    clear h hr
    go_enter Try.func122, Try.ntmps122
    cases hv : vld p with
    | true =>
      go_wp2_with fail
      refine (rValid_any p _).mono ?_
      rintro ew1 w1 ⟨rfl, hb⟩
      go_wp2
      all_goals first
        | (exact absurd ⟨by omega, by omega, by omega, by omega⟩ Hh.out)
        | (go_ret; exact ⟨ret_int Hr.out.symm, hb⟩)
    | false =>
      go_wp2_with fail
      refine (rValid_any p _).mono ?_
      rintro ew1 w1 ⟨rfl, hb⟩
      go_wp2
      all_goals first
        | (exact absurd ⟨by omega, by omega, by omega, by omega⟩ Hh.out)
        | (go_ret; exact ⟨ret_int Hr.out.symm, hb⟩)

/-- A state. -/
structure T3 where
  a : Int
  b : Int
  c : Int
  deriving DecidableEq

def sum3 (p : Int) (s : T3) : Int := fadd p (fadd p s.a s.b) s.c
def mix (p : Int) (s : T3) : T3 := ⟨fadd p s.a (sum3 p s), fadd p s.b (sum3 p s), fadd p s.c (sum3 p s)⟩
/-- The array of which the first k elements are set. -/
def outA (m : T3) (k : Nat) : Array Value := #[.int .u64 (if 0 < k then m.a else 0), .int .u64 (if 1 < k then m.b else 0), .int .u64 (if 2 < k then m.c else 0)]
def A3 (m : T3) : Array Value := #[.int .u64 m.a, .int .u64 m.b, .int .u64 m.c]

/-- What holds at the head of the loop that fills an array of three. -/
structure FillAt (w wr : World) (b0 b1 bo : Nat) (s m : T3) (k : Nat) : Prop where
  src : Blk wr b0 (A3 s) 112
  res : Blk wr b1 (A3 ⟨0, 0, 0⟩) 112
  out : Blk wr bo (outA m k) 112
  b : Below w.heap.size w wr
  n0 : w.heap.size ≤ b0
  n1 : w.heap.size ≤ b1
  no : w.heap.size ≤ bo
  d0 : bo ≠ b0
  d1 : bo ≠ b1

theorem name_calls {P : Program} {f : FuncId} {args : Array Value} {R : Ending → World → Prop} {w0 : World} (h : ∀ W, W = w0 → Calls P f args W R) : Calls P f args w0 R := h _ rfl

end Go.Proofs.Ytlgjnidphldiiaa

/- The contracts of mixing in the reference, and of unmixing. -/
namespace Go.Proofs.Ytlgjnidphldiiaa
open Go.RowKit

theorem FillAt.next {w wr w2 : World} {b0 b1 bo : Nat} {s m : T3} {k : Nat} (H : FillAt w wr b0 b1 bo s m k) (hb : Below wr.heap.size wr w2) (v : Value) (he : (outA m k).setIfInBounds k v = outA m (k + 1)) :
    FillAt w (w2.setCell ⟨bo, k, none⟩ v) b0 b1 bo s m (k + 1) :=
  ⟨(H.src.mono hb).other H.d0 _ _, (H.res.mono hb).other H.d1 _ _, by have := (H.out.mono hb).set k v; rwa [he] at this,
    (H.b.trans (hb.mono H.b.size)).setCell (by exact H.no) _, H.n0, H.n1, H.no, H.d0, H.d1⟩

end Go.Proofs.Ytlgjnidphldiiaa

/- Equality of states; the reference's reduction; the examples of the chapter hold. -/
namespace Go.Proofs.Ytlgjnidphldiiaa
open Go.RowKit

theorem Try.part0 (x0 x1 x2 : Value) (w : World) : (part 22 #[x0, x1, x2] 0).run Try.prog w = .ok x0 w := by kernel_rfl
theorem Try.part1 (x0 x1 x2 : Value) (w : World) : (part 22 #[x0, x1, x2] 1).run Try.prog w = .ok x1 w := by kernel_rfl
theorem Try.part2 (x0 x1 x2 : Value) (w : World) : (part 22 #[x0, x1, x2] 2).run Try.prog w = .ok x2 w := by kernel_rfl

theorem eq3D (D : Nat) (hD : ∀ a b w, (Op.equalIn D 22 (.int .u64 a) (.int .u64 b)).run Try.prog w = .ok (a == b) w) (a b c x y z : Int) (w : World) :
    (Op.equalIn (D + 1) 112 (.agg #[.int .u64 a, .int .u64 b, .int .u64 c]) (.agg #[.int .u64 x, .int .u64 y, .int .u64 z])).run Try.prog w = .ok (a == x && (b == y && c == z)) w := by
  have hu := Try.underlying112
  simp [Op.equalIn, run_underlying hu, List.range', Try.part0, Try.part1, Try.part2, hD]
  by_cases h1 : a = x <;> by_cases h2 : b = y <;> by_cases h3 : c = z <;> simp [h1, h2, h3]

/-- Are two states equal? -/
def eq3 (a b c x y z : Int) : Bool := a == x && (b == y && c == z)

@[go_sem] theorem run_equalIn3 (a b c x y z : Int) (w : World) :
    (Op.equalIn 10000 112 (.agg #[.int .u64 a, .int .u64 b, .int .u64 c]) (.agg #[.int .u64 x, .int .u64 y, .int .u64 z])).run Try.prog w = .ok (eq3 a b c x y z) w :=
  eq3D 9999 (fun a b w => run_equalIn_int w 9998 22 .u64 .u64 a b Try.underlying22) a b c x y z w

end Go.Proofs.Ytlgjnidphldiiaa
