/- The contracts of the permutation's constants and mixing, of the program and of the reference. -/
import Derived.Test.YtlgjnidphldiiaaRef1b
import Derived.Test.YtlgjnidphldiiaaMix
namespace Go.Proofs.Ytlgjnidphldiiaa
open Go.RowKit

/-- A round constant. -/
def fconst (p r i : Int) : Int := if 0 ≤ r ∧ r < 8 ∧ 0 ≤ i ∧ i ≤ 2 then fred p (((3 * r + i + 1) * 11400714819323198485) % 18446744073709551616) else 0

theorem fconst_bd (p r i : Int) : 0 ≤ fconst p r i ∧ fconst p r i < 18446744073709551616 := by
  unfold fconst
  split
  · exact fred_bd _ _
  · decide

set_option maxHeartbeats 400000 in
theorem Constant_any (p r i : Int) (w : World) :
    Calls Try.prog 114 #[.int .u64 p, .int .i64 r, .int .i64 i] w fun e w' => e = .returned (.int .u64 (fconst p r i)) ∧ Below w.heap.size w w' := by
  by_cases h : 0 ≤ r ∧ r < 8 ∧ 0 ≤ i ∧ i ≤ 2
  · obtain ⟨h1, h2, h3, h4⟩ := h
    have hr : fconst p r i = fred p (((3 * r + i + 1) * 11400714819323198485) % 18446744073709551616) := by rw [fconst, if_pos ⟨h1, h2, h3, h4⟩]
    have e1 : IntKind.u64.wrap (3 * r + i + 1) = 3 * r + i + 1 := by rw [IntKind.wrap_u64]; omega
    have e2 : IntKind.u64.wrap ((3 * r + i + 1) * 11400714819323198485) = ((3 * r + i + 1) * 11400714819323198485) % 18446744073709551616 := by rw [IntKind.wrap_u64]
    obtain ⟨n, hn⟩ : ∃ n, n = ((3 * r + i + 1) * 11400714819323198485) % 18446744073709551616 := ⟨_, rfl⟩
    have n0 : 0 ≤ n := by omega
    have n1 : n < 18446744073709551616 := by omega
    rw [← hn] at hr e2
    have Hr := hide hr
    clear hr hn
    go_enter Try.func114, Try.ntmps114
    go_wp2_with fail
    refine (Reduce_any p n _ n0 n1).mono ?_
    rintro ew1 w1 ⟨rfl, hb⟩
    go_wp2
    go_ret
    exact ⟨ret_int Hr.out.symm, hb⟩
  · have hr : fconst p r i = 0 := by rw [fconst, if_neg h]
    have Hr := hide hr
    have Hh := hide h
    clear h hr
    go_enter Try.func114, Try.ntmps114
    go_wp2_with fail
    all_goals first
      | (exact absurd ⟨by omega, by omega, by omega, by omega⟩ Hh.out)
      | (go_wp2; go_ret; exact ⟨ret_int Hr.out.symm, Below.refl _ _⟩)

set_option maxHeartbeats 400000 in
theorem rConstant_any (p r i : Int) (w : World) :
    Calls Try.prog 122 #[.int .u64 p, .int .i64 r, .int .i64 i] w fun e w' => e = .returned (.int .u64 (fconst p r i)) ∧ Below w.heap.size w w' := by
  by_cases h : 0 ≤ r ∧ r < 8 ∧ 0 ≤ i ∧ i ≤ 2
  · obtain ⟨h1, h2, h3, h4⟩ := h
    have hr : fconst p r i = fred p (((3 * r + i + 1) * 11400714819323198485) % 18446744073709551616) := by rw [fconst, if_pos ⟨h1, h2, h3, h4⟩]
    have e1 : IntKind.u64.wrap (3 * r + i + 1) = 3 * r + i + 1 := by rw [IntKind.wrap_u64]; omega
    have e2 : IntKind.u64.wrap ((3 * r + i + 1) * 11400714819323198485) = ((3 * r + i + 1) * 11400714819323198485) % 18446744073709551616 := by rw [IntKind.wrap_u64]
    obtain ⟨n, hn⟩ : ∃ n, n = ((3 * r + i + 1) * 11400714819323198485) % 18446744073709551616 := ⟨_, rfl⟩
    have n0 : 0 ≤ n := by omega
    have n1 : n < 18446744073709551616 := by omega
    rw [← hn] at hr e2
    have Hr := hide hr
    clear hr hn
    by_cases hv : vld p = true
    · have hp := vld_pos hv
      have h5 : fred p n = n % p := by rw [fred, if_pos hv]
      have H5 := hide h5
      clear h5
      go_enter Try.func122, Try.ntmps122
      go_wp2_with fail
      refine (rValid_any p _).mono ?_
      rintro ew1 w1 ⟨rfl, hb⟩
      go_wp2
      go_ret
      exact ⟨ret_int (by rw [Hr.out, H5.out]), hb⟩
    · have hv := vld_no hv
      have h5 : fred p n = 0 := by rw [fred, hv]; rfl
      have H5 := hide h5
      clear h5
      go_enter Try.func122, Try.ntmps122
      go_wp2_with fail
      refine (rValid_any p _).mono ?_
      rintro ew1 w1 ⟨rfl, hb⟩
      go_wp2
      go_ret
      exact ⟨ret_int (by rw [Hr.out, H5.out]), hb⟩
  · have hr : fconst p r i = 0 := by rw [fconst, if_neg h]
    have Hr := hide hr
    have Hh := hide h
    clear h hr
    go_enter Try.func122, Try.ntmps122
    cases hv : vld p with
    | true =>
      go_wp2_with fail
      refine (rValid_any p _).mono ?_
      rintro ew1 w1 ⟨rfl, hb⟩
      go_wp2
      all_goals first
        | (exact absurd ⟨by omega, by omega, by omega, by omega⟩ Hh.out)
        | (go_ret; exact ⟨ret_int Hr.out.symm, hb⟩)
    | false =>
      go_wp2_with fail
      refine (rValid_any p _).mono ?_
      rintro ew1 w1 ⟨rfl, hb⟩
      go_wp2
      all_goals first
        | (exact absurd ⟨by omega, by omega, by omega, by omega⟩ Hh.out)
        | (go_ret; exact ⟨ret_int Hr.out.symm, hb⟩)

/-- A state. -/
structure T3 where
  a : Int
  b : Int
  c : Int
  deriving DecidableEq

def W3 (s : T3) : Prop := (0 ≤ s.a ∧ s.a < 18446744073709551616) ∧ (0 ≤ s.b ∧ s.b < 18446744073709551616) ∧ (0 ≤ s.c ∧ s.c < 18446744073709551616)

def sum3 (p : Int) (s : T3) : Int := fadd p (fadd p s.a s.b) s.c
def mix (p : Int) (s : T3) : T3 := ⟨fadd p s.a (sum3 p s), fadd p s.b (sum3 p s), fadd p s.c (sum3 p s)⟩
def unmix (p : Int) (s : T3) : T3 := ⟨fsub p s.a (fdiv p (sum3 p s) 4), fsub p s.b (fdiv p (sum3 p s) 4), fsub p s.c (fdiv p (sum3 p s) 4)⟩
def red3 (p : Int) (s : T3) : T3 := ⟨fred p s.a, fred p s.b, fred p s.c⟩

theorem mix_W3 (p : Int) (s : T3) : W3 (mix p s) := ⟨fadd_bd _ _ _, fadd_bd _ _ _, fadd_bd _ _ _⟩
theorem unmix_W3 (p : Int) (s : T3) : W3 (unmix p s) := ⟨fsub_bd _ _ _, fsub_bd _ _ _, fsub_bd _ _ _⟩
theorem red3_W3 (p : Int) (s : T3) : W3 (red3 p s) := ⟨fred_bd _ _, fred_bd _ _, fred_bd _ _⟩

/-- The array of which the first k elements are set. -/
def outA (m : T3) (k : Nat) : Array Value := #[.int .u64 (if 0 < k then m.a else 0), .int .u64 (if 1 < k then m.b else 0), .int .u64 (if 2 < k then m.c else 0)]
def A3 (m : T3) : Array Value := #[.int .u64 m.a, .int .u64 m.b, .int .u64 m.c]

theorem fadd0 (p a b : Int) : fadd p (fadd p 0 a) b = fadd p a b := by
  unfold fadd
  split
  · rw [Int.zero_add, Int.emod_add_emod]
  · rfl
theorem fsum3 (p : Int) (s : T3) : fsum p [s.a, s.b, s.c] = sum3 p s := by
  simp only [fsum, sum3, List.foldl, fadd0]

/-- A slice of three words, in a block that is known. -/
theorem sl3 {w : World} {b : Nat} {T : TypeId} {x y z : Int} (h : Blk w b #[.int .u64 x, .int .u64 y, .int .u64 z] T) : Sl w .u64 (some ⟨b, 0, none⟩) [x, y, z] := fun _ =>
  ⟨b, 0, rfl, h.lt, fun i hi => by
    rw [Nat.zero_add]
    match i, hi with
    | 0, _ => exact h.cell rfl
    | 1, _ => exact h.cell rfl
    | 2, _ => exact h.cell rfl⟩

/-- What holds at the head of the loop that fills an array of three. -/
structure FillAt (w wr : World) (b0 b1 bo : Nat) (s m : T3) (k : Nat) : Prop where
  src : Blk wr b0 (A3 s) 112
  res : Blk wr b1 (A3 ⟨0, 0, 0⟩) 112
  out : Blk wr bo (outA m k) 112
  b : Below w.heap.size w wr
  n0 : w.heap.size ≤ b0
  n1 : w.heap.size ≤ b1
  no : w.heap.size ≤ bo
  d0 : bo ≠ b0
  d1 : bo ≠ b1

theorem name_calls {P : Program} {f : FuncId} {args : Array Value} {R : Ending → World → Prop} {w0 : World} (h : ∀ W, W = w0 → Calls P f args W R) : Calls P f args w0 R := h _ rfl

end Go.Proofs.Ytlgjnidphldiiaa
