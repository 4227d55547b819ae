/- The contracts of the field's functions: what each returns, and that it changes nothing that was there. -/
import Derived.Test.YtalmgeefkcebdaaGreatDoorQ01
import Derived.Test.YtalmgeefkcebdaaGreatDoorQ02
import Derived.Test.YtalmgeefkcebdaaGreatDoorRows
import Derived.WalkSpells
import Derived.WalkLawsBesides
import Derived.Lib.ItoaNum
import Derived.Shelf.Small.Bits
import Derived.Shelf.Strconv.Itoa0
import Derived.Shelf.Bits.Mul64
import Derived.Test.YtalmgeefkcebdaaGreatDoorProg
import Derived.Deep.DeepCutAuto
import Derived.Deep.CutBlock
namespace Go.Proofs.YtalmgeefkcebdaaGreatDoor
open Go.RowKit

theorem ret_int {k : IntKind} {a b : Int} (h : a = b) : Ending.returned (.int k a) = .returned (.int k b) := by rw [h]

theorem Tryz.mixed : Tryz.prog.follows .mixedOrders = true := by kernel_rfl

set_option maxHeartbeats 400000 in
theorem valid_any (p : Int) (w : World) :
    Calls Tryz.prog 43 #[.agg #[.int .u64 p]] w fun e w' => e = .returned (.bool (vld p)) ∧ Below w.heap.size w w' := by
  go_enter Tryz.func43, Tryz.ntmps43
  go_wp2
  all_goals
    go_ret
    exact ⟨by simp_all [vld], (Below.refl _ _).alloc (Nat.le_refl _) _⟩

set_option maxHeartbeats 400000 in
theorem reduced_any (p n : Int) (w : World) (h0 : 0 < p) (h1 : p < 18446744073709551616) (g0 : 0 ≤ n) (g1 : n < 18446744073709551616) :
    Calls Tryz.prog 116 #[.agg #[.int .u64 p], .int .u64 n] w fun e w' => e = .returned (.int .u64 (n % p)) ∧ Below w.heap.size w w' := by
  go_enter Tryz.func116, Tryz.ntmps116
  go_wp2
  · go_ret
    exact ⟨rfl, (Below.refl _ _).alloc (Nat.le_refl _) _⟩
  · go_ret
    exact ⟨ret_int (Int.emod_eq_of_lt g0 (by omega)).symm, (Below.refl _ _).alloc (Nat.le_refl _) _⟩

end Go.Proofs.YtalmgeefkcebdaaGreatDoor


/- The school method of dividing two words by one, over the natural numbers: no program is named here. -/
namespace Go.Proofs.YtalmgeefkcebdaaGreatDoor
namespace Dv

theorem expand (q y : Nat) : q * y = q * (y / 4294967296) * 4294967296 + q * (y % 4294967296) := by
  have h := Nat.div_add_mod y 4294967296
  have : q * y = q * (4294967296 * (y / 4294967296) + y % 4294967296) := by rw [h]
  rw [this, Nat.mul_add, Nat.mul_comm 4294967296, Nat.mul_assoc]

/-- What holds of a guess q and its rest r. -/
structure Inv (y u1 u0 q r : Nat) : Prop where
  e : q * (y / 4294967296) + r = u1
  le : (u1 * 4294967296 + u0) / y ≤ q

theorem start {y u1 u0 : Nat} (hy : 9223372036854775808 ≤ y) (h0 : u0 < 4294967296) : Inv y u1 u0 (u1 / (y / 4294967296)) (u1 % (y / 4294967296)) := by
  refine ⟨by rw [Nat.mul_comm]; exact Nat.div_add_mod _ _, ?_⟩
  have hpos : 0 < y / 4294967296 := by omega
  rw [Nat.le_div_iff_mul_le hpos]
  have h1 := Nat.div_mul_le_self (u1 * 4294967296 + u0) y
  have h2 := expand ((u1 * 4294967296 + u0) / y) y
  omega

theorem lt_of {y u q : Nat} (h : u < q * y) : u / y < q := by
  by_cases hy : y = 0
  · subst hy; omega
  · exact (Nat.div_lt_iff_lt_mul (by omega)).2 h

theorem down {y u1 u0 q r : Nat} (hu : u1 < y) (h0 : u0 < 4294967296) (I : Inv y u1 u0 q r) (h : 4294967296 ≤ q ∨ 4294967296 * r + u0 < q * (y % 4294967296)) :
    1 ≤ q ∧ Inv y u1 u0 (q - 1) (r + y / 4294967296) := by
  have hlt : (u1 * 4294967296 + u0) / y < q := by
    rcases h with h | h
    · refine Nat.lt_of_lt_of_le (lt_of (q := 4294967296) ?_) h
      omega
    · refine lt_of ?_
      have h2 := expand q y
      have h3 := I.e
      omega
  have h1 : 1 ≤ q := Nat.lt_of_le_of_lt (Nat.zero_le _) hlt
  refine ⟨h1, ?_, Nat.le_sub_one_of_lt hlt⟩
  have h3 := I.e
  obtain ⟨k, rfl⟩ : ∃ k, q = k + 1 := ⟨q - 1, by omega⟩
  rw [Nat.add_mul] at h3
  simp only [Nat.add_sub_cancel]
  omega

theorem le_of {y u q : Nat} (hy : 0 < y) (h : q * y ≤ u) : q ≤ u / y := (Nat.le_div_iff_mul_le hy).2 h

theorem fin {y u1 u0 q r : Nat} (hy : 0 < y) (I : Inv y u1 u0 q r) (h : q * (y % 4294967296) ≤ 4294967296 * r + u0) : q = (u1 * 4294967296 + u0) / y := by
  refine Nat.le_antisymm (le_of hy ?_) I.le
  have h2 := expand q y
  have h3 := I.e
  omega

theorem small {y u1 u0 q r : Nat} (hu : u1 < y) (I : Inv y u1 u0 q r) (hr : 4294967296 ≤ r) : q < 4294967296 := by
  have h3 := I.e
  have : q * (y / 4294967296) < 4294967296 * (y / 4294967296) := by omega
  exact Nat.lt_of_mul_lt_mul_right this

theorem brk {y u1 u0 q r : Nat} (hu : u1 < y) (I : Inv y u1 u0 q r) (hr : 4294967296 ≤ r) (hy : 9223372036854775808 ≤ y) : q = (u1 * 4294967296 + u0) / y := by
  have hs := small hu I hr
  refine fin (by omega) I ?_
  have : q * (y % 4294967296) ≤ 4294967296 * 4294967296 := Nat.mul_le_mul (by omega) (by omega)
  omega

theorem guess_lt {y u1 u0 q r : Nat} (hu : u1 < 18446744073709551616) (hy : 9223372036854775808 ≤ y) (I : Inv y u1 u0 q r) : q ≤ 8589934592 := by
  have h3 := I.e
  have h4 : q * 2147483648 ≤ q * (y / 4294967296) := Nat.mul_le_mul_left _ (by omega)
  omega

/-- The step from one digit to the next. -/
theorem rest {y u1 u0 : Nat} (hy : y < 18446744073709551616) (hy' : 0 < y) (M : Nat) (hM : M = 18446744073709551616) :
    ((u1 * 4294967296 % M + u0) % M + M - ((u1 * 4294967296 + u0) / y * y) % M) % M = (u1 * 4294967296 + u0) % y := by
  subst hM
  have h1 := Nat.div_add_mod (u1 * 4294967296 + u0) y
  rw [Nat.mul_comm] at h1
  have h2 := Nat.mod_lt (u1 * 4294967296 + u0) hy'
  omega

theorem two_digits' (B : Nat) {y u1 u0 un : Nat} (hy : 0 < y) :
    (un * B + u1) / y * B + ((un * B + u1) % y * B + u0) / y = ((un * B + u1) * B + u0) / y ∧
    ((un * B + u1) % y * B + u0) % y = ((un * B + u1) * B + u0) % y := by
  have h1 := Nat.div_add_mod (un * B + u1) y
  have e : (un * B + u1) * B + u0 = ((un * B + u1) % y * B + u0) + y * ((un * B + u1) / y * B) := by
    conv => lhs; rw [← h1]
    rw [Nat.add_mul, Nat.mul_assoc, Nat.add_assoc, Nat.add_comm]
  rw [e, Nat.add_mul_div_left _ _ hy, Nat.add_mul_mod_self_left]
  exact ⟨Nat.add_comm _ _, rfl⟩

/-- Two digits of a division, of numbers that are shifted. -/
theorem two_digits {y U u1 u0 un : Nat} (hy : 0 < y) (hU : U = (un * 4294967296 + u1) * 4294967296 + u0) :
    (un * 4294967296 + u1) / y * 4294967296 + ((un * 4294967296 + u1) % y * 4294967296 + u0) / y = U / y ∧
    ((un * 4294967296 + u1) % y * 4294967296 + u0) % y = U % y := by
  rw [hU]; exact two_digits' _ hy

theorem shift_div (U y s : Nat) : (U * 2 ^ s) / (y * 2 ^ s) = U / y ∧ (U * 2 ^ s) % (y * 2 ^ s) = U % y * 2 ^ s :=
  ⟨Nat.mul_div_mul_right _ _ (Nat.two_pow_pos s), Nat.mul_mod_mul_right _ _ _⟩

/-- The leading zeros of y. -/
theorem norm {y : Nat} (h : 0 < y) (hy : y < 18446744073709551616) : Lib.bitLen y ≤ 64 ∧ 9223372036854775808 ≤ y * 2 ^ (64 - Lib.bitLen y) ∧ y * 2 ^ (64 - Lib.bitLen y) < 18446744073709551616 := by
  have hb := Lib.bitLenAux_bounds 64 y (by simpa using hy) (by omega)
  have hle : Lib.bitLenAux 64 y ≤ 64 := by
    rcases Nat.lt_or_ge 64 (Lib.bitLenAux 64 y) with h1 | h1
    · have := Nat.pow_le_pow_right (n := 2) (by omega) (show 64 ≤ Lib.bitLenAux 64 y - 1 by omega)
      omega
    · exact h1
  unfold Lib.bitLen
  generalize Lib.bitLenAux 64 y = L at *
  refine ⟨hle, ?_, ?_⟩
  · have h1 : 2 ^ (L - 1) * 2 ^ (64 - L) ≤ y * 2 ^ (64 - L) := Nat.mul_le_mul_right _ hb.2.1
    rw [← Nat.pow_add, show L - 1 + (64 - L) = 63 by omega] at h1
    simpa using h1
  · have h1 : y * 2 ^ (64 - L) < 2 ^ L * 2 ^ (64 - L) := Nat.mul_lt_mul_of_pos_right hb.2.2 (Nat.two_pow_pos _)
    rw [← Nat.pow_add, show L + (64 - L) = 64 by omega] at h1
    simpa using h1

end Dv
end Go.Proofs.YtalmgeefkcebdaaGreatDoor


/- The shelf contracts of the bit functions at this program: written by the shelf tool. -/
namespace Go.Proofs
open Go.Shelf
def Tryz.lays134_ren : Go.Shelf.Ren := ⟨fun | 134 => 166 | 129 => 151 | n => n, fun | 53 => 23 | 3 => 3 | 4 => 4 | 46 => 251 | 5 => 5 | 9 => 9 | n => n, fun | n => n⟩
theorem Tryz.lays134 : Go.Proofs.Lays.n134 Tryz.prog Tryz.lays134_ren := {
  mixed := by kernel_rfl
  f129 := Tryz.func151.trans (congrArg some (by kernel_rfl))
  f134 := Tryz.func166.trans (congrArg some (by kernel_rfl))
  t3 := Tryz.underlying3
  a3 := Tryz.isAgg3
  z3 := Tryz.sizeOf3
  v3 := Tryz.zeroValue3
  t4 := Tryz.underlying4
  a4 := Tryz.isAgg4
  z4 := Tryz.sizeOf4
  v4 := Tryz.zeroValue4
  t5 := Tryz.underlying5
  a5 := Tryz.isAgg5
  z5 := Tryz.sizeOf5
  v5 := Tryz.zeroValue5
  t9 := Tryz.underlying9
  a9 := Tryz.isAgg9
  z9 := Tryz.sizeOf9
  v9 := Tryz.zeroValue9
  t46 := Tryz.underlying251
  a46 := Tryz.isAgg251
  z46 := Tryz.sizeOf251
  v46 := Tryz.zeroValue251
  t53 := Tryz.underlying23
  a53 := Tryz.isAgg23
  z53 := Tryz.sizeOf23
  v53 := Tryz.zeroValue23 }
/-- bits.LeadingZeros64: "LeadingZeros64 returns the number of leading zero bits in x; the result is 64 for x == 0.": IT RETURNS '64 - Lib.bitLen x'; the world is as it was. ITS CALLEE bits.Len64 IS MET BY ITS OWN CONTRACT OFF THE SHELF (lay that first): entered in place it sends the kernel out of memory. (LAID: no walk: one application.) -/
theorem Tryz.bits_LeadingZeros64 (x : Int) (w : World) (h0 : 0 ≤ x) (h1 : x ≤ 18446744073709551615) :
    Calls Tryz.prog 166 #[.int .u64 x] w fun e w' => e = .returned (.int .i64 (64 - (Lib.bitLen x.toNat : Int))) ∧ w' = w := Any.bits_LeadingZeros64 Tryz.lays134 x w h0 h1
def Tryz.lays264_ren : Go.Shelf.Ren := ⟨fun | 264 => 107 | n => n, fun | 53 => 23 | 46 => 251 | n => n, fun | n => n⟩
theorem Tryz.lays264 : Go.Proofs.Lays.n264 Tryz.prog Tryz.lays264_ren := {
  mixed := by kernel_rfl
  f264 := Tryz.func107.trans (congrArg some (by kernel_rfl))
  t46 := Tryz.underlying251
  a46 := Tryz.isAgg251
  z46 := Tryz.sizeOf251
  v46 := Tryz.zeroValue251
  t53 := Tryz.underlying23
  a53 := Tryz.isAgg23
  z53 := Tryz.sizeOf23
  v53 := Tryz.zeroValue23 }
open Go.RowKit Go.Lib in
theorem Tryz.bits_Mul64 (x y : Nat) (hx : x < 18446744073709551616) (hy : y < 18446744073709551616) (w : World) :
    Calls Tryz.prog 107 #[.int .u64 x, .int .u64 y] w fun e w' => e = .returned (.tuple #[.int .u64 ((x * y / 18446744073709551616 : Nat) : Int), .int .u64 ((x * y % 18446744073709551616 : Nat) : Int)]) ∧ w' = w := Any.bits_Mul64 Tryz.lays264 x y hx hy w
end Go.Proofs


/- The contracts of the bit functions: the sum, the product and the quotient of words. -/
namespace Go.Proofs.YtalmgeefkcebdaaGreatDoor
open Go.RowKit

theorem lz_any (y : Nat) (w : World) (h0 : 0 < y) (h : y < 18446744073709551616) :
    Calls Tryz.prog 166 #[.int .u64 y] w fun e w' => ∃ s : Nat, e = .returned (.int .i64 s) ∧ s ≤ 63 ∧ 9223372036854775808 ≤ y * 2 ^ s ∧ y * 2 ^ s < 18446744073709551616 ∧ w = w' := by
  refine (Tryz.bits_LeadingZeros64 _ _ (by omega) (by omega)).mono ?_
  rintro e w' ⟨rfl, rfl⟩
  have hn := Dv.norm h0 h
  have hb : 1 ≤ Lib.bitLen y := by
    have hb := Lib.bitLenAux_bounds 64 y (by simpa using h) (by omega)
    exact hb.1
  refine ⟨64 - Lib.bitLen y, ?_, by omega, hn.2.1, hn.2.2, rfl⟩
  rw [Int.toNat_natCast, Int.ofNat_sub hn.1]
  rfl

namespace Dv
theorem wrapN (a : Nat) (ha : a < 18446744073709551616) : IntKind.u64.wrap (a : Int) = (a : Int) := by rw [IntKind.wrap_u64]; omega
theorem wrapM (a : Nat) : IntKind.u64.wrap (a : Int) = ((a % 18446744073709551616 : Nat) : Int) := by rw [IntKind.wrap_u64]; omega
theorem maskN (a : Nat) (ha : a < 18446744073709551616) : bits BinOp.and IntKind.u64 (a : Int) 4294967295 = ((a % 4294967296 : Nat) : Int) := by
  have h := bits_and_u64_nat a 4294967295 ha (by omega)
  have e : a &&& 4294967295 = a % 4294967296 := Nat.and_two_pow_sub_one_eq_mod a 32
  rw [e] at h
  exact h
theorem orN (a b s : Nat) (hb : b < 2 ^ s) (h : a * 2 ^ s + b < 18446744073709551616) : bits BinOp.or IntKind.u64 ((a * 2 ^ s : Nat) : Int) (b : Int) = ((a * 2 ^ s + b : Nat) : Int) := by
  have h1 := bits_or_u64_nat (a * 2 ^ s) b (by omega) (by omega)
  rw [Nat.mul_comm a, ← Nat.two_pow_add_eq_or_of_lt hb] at h1
  rw [Nat.mul_comm a]
  exact h1

/-- A number of two words, shifted: its upper word, its lower word. -/
theorem shifted' {M S T : Nat} {hi lo y Y : Nat} (hM : M = S * T) (hT : 0 < T) (h1 : hi < y) (g1 : lo < M) (hY : Y = y * S) :
    lo / T < S ∧ hi * S + lo / T < Y ∧ (hi * S + lo / T) * M + lo * S % M = (hi * M + lo) * S := by
  have a1 : lo / T < S := by
    rw [Nat.div_lt_iff_lt_mul hT, ← hM]; exact g1
  have a2 : (hi + 1) * S ≤ y * S := Nat.mul_le_mul_right _ h1
  rw [Nat.add_mul, ← hY] at a2
  have a3 : lo * S % M = lo % T * S := by
    rw [hM, Nat.mul_comm S, Nat.mul_mod_mul_right]
  refine ⟨a1, by omega, ?_⟩
  rw [a3]
  have a4 := Nat.div_add_mod lo T
  have a5 : lo / T * M = T * (lo / T) * S := by
    rw [hM, Nat.mul_comm S, ← Nat.mul_assoc, Nat.mul_comm (lo / T)]
  have a6 : (hi * M + lo) * S = hi * S * M + (T * (lo / T) + lo % T) * S := by
    rw [a4, Nat.add_mul, Nat.mul_right_comm]
  rw [a6, Nat.add_mul, Nat.add_mul, a5]
  omega

theorem shifted {hi lo y s Y : Nat} (hs : s ≤ 63) (h1 : hi < y) (g1 : lo < 18446744073709551616) (hY : Y = y * 2 ^ s) :
    lo / 2 ^ (64 - s) < 2 ^ s ∧ hi * 2 ^ s + lo / 2 ^ (64 - s) < Y ∧ (hi * 2 ^ s + lo / 2 ^ (64 - s)) * 18446744073709551616 + lo * 2 ^ s % 18446744073709551616 = (hi * 18446744073709551616 + lo) * 2 ^ s :=
  shifted' (by rw [← Nat.pow_add, show s + (64 - s) = 64 by omega]) (Nat.two_pow_pos _) h1 g1 hY

theorem castMul (a s : Nat) : ((a * 2 ^ s : Nat) : Int) = (a : Int) * 2 ^ s := by push_cast; rfl
theorem castDiv (a s : Nat) : ((a / 2 ^ s : Nat) : Int) = (a : Int) / 2 ^ s := by push_cast; rfl

/-- All that the walk of the division meets ahead of its first loop, under names. -/
structure Prep (hi lo y s Y U V d l v1 v0 q0 r0 qd : Nat) : Prop where
  e1 : IntKind.u64.wrap ((y : Int) * 2 ^ s) = (Y : Int)
  e3 : bits BinOp.or IntKind.u64 (IntKind.u64.wrap ((hi : Int) * 2 ^ s)) ((lo : Int) / 2 ^ (64 - s)) = (U : Int)
  e4 : IntKind.u64.wrap ((lo : Int) * 2 ^ s) = (V : Int)
  f1 : (Y : Int) / 4294967296 = (d : Int)
  f2 : bits BinOp.and IntKind.u64 (Y : Int) 4294967295 = (l : Int)
  f3 : (V : Int) / 4294967296 = (v1 : Int)
  f4 : bits BinOp.and IntKind.u64 (V : Int) 4294967295 = (v0 : Int)
  g2 : (U : Int) / (d : Int) = (q0 : Int)
  g3 : (q0 : Int) * (d : Int) = (qd : Int)
  g4 : (U : Int) - (qd : Int) = (r0 : Int)
  b1 : 2147483648 ≤ d
  b2 : d < 4294967296
  b3 : l < 4294967296
  b4 : v1 < 4294967296
  b5 : v0 < 4294967296
  b6 : U < 18446744073709551616
  b7 : q0 ≤ 8589934592
  b8 : qd ≤ U
  b9 : r0 < d
  bY : Y < 18446744073709551616
  bU : U < Y
  bV : V < 18446744073709551616
  bY' : 9223372036854775808 ≤ Y
  hY : Y = y * 2 ^ s
  hd : d = Y / 4294967296
  hl : l = Y % 4294967296
  hV : (U * 4294967296 + v1) * 4294967296 + v0 = (hi * 18446744073709551616 + lo) * 2 ^ s
  I : Inv Y U v1 q0 r0

/-- What holds at the head of a loop. -/
structure Head (y u1 u0 q r : Nat) : Prop where
  I : Inv y u1 u0 q r
  hr : r < 4294967296
  hq : q ≤ 8589934592

/-- The rest after a digit, as the words wrap. -/
theorem restW {a v q Y R : Nat} (h : q * Y + R = a * 4294967296 + v) (hR : R < 18446744073709551616) :
    IntKind.u64.wrap (IntKind.u64.wrap (IntKind.u64.wrap ((a : Int) * 4294967296) + (v : Int)) - IntKind.u64.wrap ((q : Int) * (Y : Int))) = (R : Int) := by
  have h' : (q : Int) * (Y : Int) + (R : Int) = (a : Int) * 4294967296 + (v : Int) := by
    have := congrArg (fun n : Nat => (n : Int)) h
    simpa using this
  simp only [IntKind.wrap_u64]
  generalize (q : Int) * (Y : Int) = t at *
  omega

/-- What the walk meets between the loops and behind the second. -/
structure Prep2 (Y U v1 v0 d U2 q r qd Q1 Q0 R : Nat) : Prop where
  e : IntKind.u64.wrap (IntKind.u64.wrap (IntKind.u64.wrap ((U : Int) * 4294967296) + (v1 : Int)) - IntKind.u64.wrap ((Q1 : Int) * (Y : Int))) = (U2 : Int)
  e' : IntKind.u64.wrap (IntKind.u64.wrap (IntKind.u64.wrap ((U2 : Int) * 4294967296) + (v0 : Int)) - IntKind.u64.wrap ((Q0 : Int) * (Y : Int))) = (R : Int)
  g2 : (U2 : Int) / (d : Int) = (q : Int)
  g3 : (q : Int) * (d : Int) = (qd : Int)
  g4 : (U2 : Int) - (qd : Int) = (r : Int)
  b7 : q ≤ 8589934592
  b8 : qd ≤ U2
  b9 : r < d
  bU : U2 < Y
  bq1 : Q1 ≤ 4294967295
  bq0 : Q0 ≤ 4294967295
  bR : R < 18446744073709551616
  I : Inv Y U2 v0 q r
  h0 : Q0 = (U2 * 4294967296 + v0) / Y
  hR : R = (U2 * 4294967296 + v0) % Y
  h2 : U2 = (U * 4294967296 + v1) % Y
  h1 : Q1 = (U * 4294967296 + v1) / Y

theorem digit_lt {Y U v : Nat} (hU : U < Y) (hv : v < 4294967296) : (U * 4294967296 + v) / Y ≤ 4294967295 := by
  have : (U * 4294967296 + v) / Y < 4294967296 := lt_of (by omega)
  omega

theorem prep2 {Y U v1 v0 d : Nat} (hY : 9223372036854775808 ≤ Y) (hY' : Y < 18446744073709551616) (hU : U < Y) (h1 : v1 < 4294967296) (h0 : v0 < 4294967296) (hd : d = Y / 4294967296) :
    ∃ U2 q r qd Q1 Q0 R, Prep2 Y U v1 v0 d U2 q r qd Q1 Q0 R := by
  have hU2 : (U * 4294967296 + v1) % Y < Y := Nat.mod_lt _ (by omega)
  obtain ⟨U2, e2⟩ : ∃ U2, U2 = (U * 4294967296 + v1) % Y := ⟨_, rfl⟩
  rw [← e2] at hU2
  have hR : (U2 * 4294967296 + v0) % Y < Y := Nat.mod_lt _ (by omega)
  have I0 := start (u1 := U2) hY h0
  have G0 := guess_lt (by omega) hY I0
  have hdm := I0.e
  have hr0 : U2 % (Y / 4294967296) < Y / 4294967296 := Nat.mod_lt _ (by omega)
  rw [← hd] at I0 G0 hdm hr0
  have hs1 := Nat.div_add_mod (U * 4294967296 + v1) Y
  have hs0 := Nat.div_add_mod (U2 * 4294967296 + v0) Y
  rw [Nat.mul_comm] at hs1 hs0
  refine ⟨U2, U2 / d, U2 % d, U2 / d * d, (U * 4294967296 + v1) / Y, (U2 * 4294967296 + v0) / Y, (U2 * 4294967296 + v0) % Y, ?_⟩
  exact {
    e := restW (by rw [e2]; exact hs1) (by omega)
    e' := restW hs0 (by omega)
    g2 := rfl
    g3 := rfl
    g4 := by omega
    b7 := G0
    b8 := by omega
    b9 := hr0
    bU := hU2
    bq1 := digit_lt hU h1
    bq0 := digit_lt hU2 h0
    bR := by omega
    I := I0
    h0 := rfl
    hR := rfl
    h2 := e2
    h1 := rfl }

/-- The whole quotient and the whole rest. -/
theorem whole {hi lo y s Y U V d l v1 v0 q0 r0 qd U2 q r qd' Q1 Q0 R : Nat} (X : Prep hi lo y s Y U V d l v1 v0 q0 r0 qd) (X2 : Prep2 Y U v1 v0 d U2 q r qd' Q1 Q0 R) :
    Q1 * 4294967296 + Q0 = (hi * 18446744073709551616 + lo) / y ∧ R / 2 ^ s = (hi * 18446744073709551616 + lo) % y := by
  have h := two_digits (y := Y) (u1 := v1) (u0 := v0) (un := U) (Nat.lt_of_lt_of_le (by omega) X.bY') rfl
  rw [← X2.h1, ← X2.h2, ← X2.h0, ← X2.hR, X.hV, X.hY] at h
  rw [h.1, h.2, (shift_div _ _ _).1, (shift_div _ _ _).2]
  exact ⟨rfl, Nat.mul_div_cancel _ (Nat.two_pow_pos _)⟩

theorem split (V U : Nat) : U * 18446744073709551616 + V = (U * 4294967296 + V / 4294967296) * 4294967296 + V % 4294967296 := by omega

theorem prep {hi lo y s : Nat} (hs : s ≤ 63) (h1 : hi < y) (g1 : lo < 18446744073709551616) (hn1 : 9223372036854775808 ≤ y * 2 ^ s) (hn2 : y * 2 ^ s < 18446744073709551616) :
    ∃ Y U V d l v1 v0 q0 r0 qd, Prep hi lo y s Y U V d l v1 v0 q0 r0 qd := by
  obtain ⟨Y, hY⟩ : ∃ Y, Y = y * 2 ^ s := ⟨_, rfl⟩
  obtain ⟨k1, k2, k3⟩ := shifted hs h1 g1 hY
  have e1 := wrapN (y * 2 ^ s) hn2
  rw [← hY] at hn1 hn2
  obtain ⟨U, hU⟩ : ∃ U, U = hi * 2 ^ s + lo / 2 ^ (64 - s) := ⟨_, rfl⟩
  obtain ⟨V, hV⟩ : ∃ V, V = lo * 2 ^ s % 18446744073709551616 := ⟨_, rfl⟩
  have b6 : U < 18446744073709551616 := by rw [hU]; exact Nat.lt_trans k2 hn2
  have hV' : V < 18446744073709551616 := by rw [hV]; exact Nat.mod_lt _ (by omega)
  have e2 := wrapN (hi * 2 ^ s) (Nat.lt_of_le_of_lt (by rw [hU]; exact Nat.le_add_right _ _) b6)
  have e3 := orN hi (lo / 2 ^ (64 - s)) s k1 (by rw [← hU]; exact b6)
  rw [← e2, ← hU, castMul, castDiv] at e3
  have e4 := wrapM (lo * 2 ^ s)
  rw [← hV, castMul] at e4
  rw [← hU, ← hV, split] at k3
  rw [← hU] at k2
  have hU' := hU
  clear hU hV
  have I0 := start (u1 := U) (u0 := V / 4294967296) hn1 (by omega)
  have G0 := guess_lt b6 hn1 I0
  have hdm := I0.e
  have hr0 : U % (Y / 4294967296) < Y / 4294967296 := Nat.mod_lt _ (by omega)
  refine ⟨Y, U, V, Y / 4294967296, Y % 4294967296, V / 4294967296, V % 4294967296, U / (Y / 4294967296), U % (Y / 4294967296), U / (Y / 4294967296) * (Y / 4294967296), ?_⟩
  exact {
    e1 := by rw [← castMul, e1, hY]
    e3 := e3
    e4 := e4
    f1 := rfl
    f2 := maskN Y hn2
    f3 := rfl
    f4 := maskN V hV'
    g2 := rfl
    g3 := rfl
    g4 := by omega
    b1 := by omega
    b2 := by omega
    b3 := by omega
    b4 := by omega
    b5 := by omega
    b6 := b6
    b7 := G0
    b8 := by omega
    b9 := hr0
    bY := hn2
    bU := k2
    bV := hV'
    bY' := hn1
    hY := hY
    hd := rfl
    hl := rfl
    hV := k3
    I := I0 }
end Dv

set_option maxRecDepth 100000 in
set_option maxHeartbeats 1000000 in
theorem div64_pos (hi lo y : Nat) (w : World) (h0 : 0 < hi) (h1 : hi < y) (h2 : y < 18446744073709551616) (g1 : lo < 18446744073709551616) :
    Calls Tryz.prog 108 #[.int .u64 hi, .int .u64 lo, .int .u64 y] w fun e w' =>
      e = .returned (.tuple #[.int .u64 (((hi * 18446744073709551616 + lo) / y : Nat) : Int), .int .u64 (((hi * 18446744073709551616 + lo) % y : Nat) : Int)]) ∧ Below w.heap.size w w' := by
  go_enter Tryz.func108, Tryz.ntmps108
  go_wp2_with fail
  refine (lz_any y w (by omega) h2).mono ?_
  rintro e w' ⟨s, rfl, hs, hn1, hn2, rfl⟩
  obtain ⟨Y, U, V, d, l, v1, v0, q0, r0, qd, X⟩ := Dv.prep hs h1 g1 hn1 hn2
  clear hn1 hn2
  have e1 := X.e1; have e3 := X.e3; have e4 := X.e4; have f1 := X.f1; have f2 := X.f2; have f3 := X.f3; have f4 := X.f4
  have g2 := X.g2; have g3 := X.g3; have g4 := X.g4
  have b1 := X.b1; have b2 := X.b2; have b3 := X.b3; have b4 := X.b4; have b5 := X.b5; have b6 := X.b6; have b7 := X.b7; have b8 := X.b8; have b9 := X.b9; have bY := X.bY; have bV := X.bV
  obtain ⟨U2, qz, rz, qdz, Q1, Q0, R, X2⟩ := Dv.prep2 X.bY' bY X.bU b4 b5 X.hd
  have w1 := X2.e; have w2 := X2.e'; have w3 := X2.g2; have w4 := X2.g3; have w5 := X2.g4; have w6 := X2.b7; have w7 := X2.b8; have w8 := X2.b9; have w9 := X2.bU; have w10 := X2.bq1; have w11 := X2.bq0; have w12 := X2.bR
  obtain ⟨hf1, hf2⟩ := Dv.whole X X2
  have Hf1 := hide hf1
  have Hf2 := hide hf2
  clear hf1 hf2
  go_upto_block 0 with (fail)
  go_cut [15, 16] (fun t15 t16 wx => ∃ r : Nat, t15 = .int .u64 (Q1 : Int) ∧ t16 = .int .u64 (r : Int) ∧ w = wx)
  case first =>
    go_wp2
    go_loop [15, 16] (fun t15 t16 => ∃ q r : Nat, Dv.Head Y U v1 q r ∧ t15 = .int .u64 (q : Int) ∧ t16 = .int .u64 (r : Int)) (fun t15 _ => (intOf t15).toNat)
    case atStart => exact ⟨q0, r0, ⟨X.I, by omega, b7⟩, rfl, rfl⟩
    case round =>
      obtain ⟨q, r, ⟨hI, hr, hq2⟩, rfl, rfl⟩ := hrel
      obtain ⟨x, hx⟩ : ∃ x : Int, x = (q : Int) := ⟨_, rfl⟩
      obtain ⟨z, hz⟩ : ∃ z : Int, z = (r : Int) := ⟨_, rfl⟩
      rw [← hx, ← hz]
      have hx0 : 0 ≤ x := by omega
      have hx1 : x ≤ 8589934592 := by omega
      have hz0 : 0 ≤ z := by omega
      have hz1 : z < 4294967296 := by omega
      by_cases hq : 4294967296 ≤ x
      · obtain ⟨hq1, hI'⟩ := Dv.down X.bU b4 hI (.inl (by omega))
        rw [← X.hd] at hI'
        have Hx := hide hx
        have Hz := hide hz
        clear hx hz hr hq2
        by_cases hb : 4294967296 ≤ z + d
        · go_wp2
          go_meet
          have hx := Hx.out
          have hz := Hz.out
          case rel => exact ⟨r + d, by rw [X2.h1, ← Dv.brk X.bU hI' (by omega) X.bY']; go_num, by go_num, rfl⟩
        · go_wp2
          have hx := Hx.out
          have hz := Hz.out
          go_round
          case rel => exact ⟨q - 1, r + d, ⟨hI', by omega, by omega⟩, by go_num, by go_num⟩
          case measure => simp [intOf]; omega
      · obtain ⟨ql, hql⟩ : ∃ ql, ql = q * l := ⟨_, rfl⟩
        have gq : x * (l : Int) = (ql : Int) := by rw [hql, hx]; push_cast; rfl
        have bq : ql < 18446744073709551616 := by
          have : q * l ≤ 4294967295 * 4294967295 := Nat.mul_le_mul (by omega) (by omega)
          omega
        by_cases ht : 4294967296 * z + v1 < ql
        · obtain ⟨hq1, hI'⟩ := Dv.down X.bU b4 hI (.inr (by rw [← X.hl, ← hql]; omega))
          have hx2 : 1 ≤ x := by omega
          rw [← X.hd] at hI'
          have Hx := hide hx
          have Hz := hide hz
          clear hx hz hr hq2 hql
          by_cases hb : 4294967296 ≤ z + d
          · go_wp2
            go_meet
            have hx := Hx.out
            have hz := Hz.out
            case rel => exact ⟨r + d, by rw [X2.h1, ← Dv.brk X.bU hI' (by omega) X.bY']; go_num, by go_num, rfl⟩
          · go_wp2
            have hx := Hx.out
            have hz := Hz.out
            go_round
            case rel => exact ⟨q - 1, r + d, ⟨hI', by omega, by omega⟩, by go_num, by go_num⟩
            case measure => simp [intOf]; omega
        · have hfin := Dv.fin (by omega) hI (by rw [← X.hl, ← hql]; omega)
          rw [← X2.h1] at hfin
          have Hx := hide hx
          have Hz := hide hz
          have Hf := hide hfin
          clear hx hz hr hq2 hql hfin
          go_wp2
          go_meet
          case rel => exact ⟨r, by rw [Hx.out, Hf.out], by rw [Hz.out], rfl⟩
  case rest =>
    obtain ⟨r, rfl, rfl, rfl⟩ := hcut
    go_upto_block 2 with (fail)
    go_cut [18, 16] (fun t15 t16 wx => ∃ r : Nat, t15 = .int .u64 (Q0 : Int) ∧ t16 = .int .u64 (r : Int) ∧ w = wx)
    case first =>
      go_wp2
      go_loop [18, 16] (fun t15 t16 => ∃ q r : Nat, Dv.Head Y U2 v0 q r ∧ t15 = .int .u64 (q : Int) ∧ t16 = .int .u64 (r : Int)) (fun t15 _ => (intOf t15).toNat)
      case atStart => exact ⟨qz, rz, ⟨X2.I, by omega, w6⟩, rfl, rfl⟩
      case round =>
        obtain ⟨q, r, ⟨hI, hr, hq2⟩, rfl, rfl⟩ := hrel
        obtain ⟨x, hx⟩ : ∃ x : Int, x = (q : Int) := ⟨_, rfl⟩
        obtain ⟨z, hz⟩ : ∃ z : Int, z = (r : Int) := ⟨_, rfl⟩
        rw [← hx, ← hz]
        have hx0 : 0 ≤ x := by omega
        have hx1 : x ≤ 8589934592 := by omega
        have hz0 : 0 ≤ z := by omega
        have hz1 : z < 4294967296 := by omega
        by_cases hq : 4294967296 ≤ x
        · obtain ⟨hq1, hI'⟩ := Dv.down X2.bU b5 hI (.inl (by omega))
          rw [← X.hd] at hI'
          have Hx := hide hx
          have Hz := hide hz
          clear hx hz hr hq2
          by_cases hb : 4294967296 ≤ z + d
          · go_wp2
            go_meet
            have hx := Hx.out
            have hz := Hz.out
            case rel => exact ⟨r + d, by rw [X2.h0, ← Dv.brk X2.bU hI' (by omega) X.bY']; go_num, by go_num, rfl⟩
          · go_wp2
            have hx := Hx.out
            have hz := Hz.out
            go_round
            case rel => exact ⟨q - 1, r + d, ⟨hI', by omega, by omega⟩, by go_num, by go_num⟩
            case measure => simp [intOf]; omega
        · obtain ⟨ql, hql⟩ : ∃ ql, ql = q * l := ⟨_, rfl⟩
          have gq : x * (l : Int) = (ql : Int) := by rw [hql, hx]; push_cast; rfl
          have bq : ql < 18446744073709551616 := by
            have : q * l ≤ 4294967295 * 4294967295 := Nat.mul_le_mul (by omega) (by omega)
            omega
          by_cases ht : 4294967296 * z + v0 < ql
          · obtain ⟨hq1, hI'⟩ := Dv.down X2.bU b5 hI (.inr (by rw [← X.hl, ← hql]; omega))
            have hx2 : 1 ≤ x := by omega
            rw [← X.hd] at hI'
            have Hx := hide hx
            have Hz := hide hz
            clear hx hz hr hq2 hql
            by_cases hb : 4294967296 ≤ z + d
            · go_wp2
              go_meet
              have hx := Hx.out
              have hz := Hz.out
              case rel => exact ⟨r + d, by rw [X2.h0, ← Dv.brk X2.bU hI' (by omega) X.bY']; go_num, by go_num, rfl⟩
            · go_wp2
              have hx := Hx.out
              have hz := Hz.out
              go_round
              case rel => exact ⟨q - 1, r + d, ⟨hI', by omega, by omega⟩, by go_num, by go_num⟩
              case measure => simp [intOf]; omega
          · have hfin := Dv.fin (by omega) hI (by rw [← X.hl, ← hql]; omega)
            rw [← X2.h0] at hfin
            have Hx := hide hx
            have Hz := hide hz
            have Hf := hide hfin
            clear hx hz hr hq2 hql hfin
            go_wp2
            go_meet
            case rel => exact ⟨r, by rw [Hx.out, Hf.out], by rw [Hz.out], rfl⟩
    case rest =>
      obtain ⟨r, rfl, rfl, rfl⟩ := hcut
      go_wp2
      go_ret2
      have e1 : ((Q1 * 4294967296 + Q0 : Nat) : Int) = (Q1 : Int) * 4294967296 + (Q0 : Int) := by omega
      rw [← Hf1.out, ← Hf2.out, e1, Dv.castDiv R s]
      exact ⟨rfl, Below.refl _ _⟩

set_option maxRecDepth 100000 in
set_option maxHeartbeats 1000000 in
theorem div64_zero (lo y : Int) (w : World) (h1 : 0 < y) (h2 : y < 18446744073709551616) (g0 : 0 ≤ lo) (g1 : lo < 18446744073709551616) :
    Calls Tryz.prog 108 #[.int .u64 0, .int .u64 lo, .int .u64 y] w fun e w' =>
      e = .returned (.tuple #[.int .u64 (lo / y), .int .u64 (lo % y)]) ∧ Below w.heap.size w w' := by
  have k1 : 0 ≤ lo / y := Int.ediv_nonneg g0 (by omega)
  have k2 : lo / y ≤ lo := Int.ediv_le_self _ g0
  have k3 : 0 ≤ lo % y := Int.emod_nonneg _ (by omega)
  have k4 : lo % y < y := Int.emod_lt_of_pos _ h1
  have k5 : (y == 0) = false := by simp; omega
  go_enter Tryz.func108, Tryz.ntmps108
  go_wp2
  go_quiet (fail)
  go_wp2
  go_ret2
  exact ⟨rfl, below_drewN (Below.refl _ _) _⟩

theorem div64_any (hi lo y : Nat) (w : World) (h1 : hi < y) (h2 : y < 18446744073709551616) (g1 : lo < 18446744073709551616) :
    Calls Tryz.prog 108 #[.int .u64 hi, .int .u64 lo, .int .u64 y] w fun e w' =>
      e = .returned (.tuple #[.int .u64 (((hi * 18446744073709551616 + lo) / y : Nat) : Int), .int .u64 (((hi * 18446744073709551616 + lo) % y : Nat) : Int)]) ∧ Below w.heap.size w w' := by
  rcases Nat.eq_zero_or_pos hi with h | h
  · subst h
    have := div64_zero (lo : Int) (y : Int) w (by omega) (by omega) (by omega) (by omega)
    rw [Nat.zero_mul, Nat.zero_add]
    exact this
  · exact div64_pos hi lo y w h h1 h2 g1

/-- The sum of two words, and its carry. -/
theorem add64_0 (x y : Int) (hx : 0 ≤ x) (hy : 0 ≤ y) (w : World) : (callFunc 205 #[.int .u64 x, .int .u64 y, .int .u64 0]).run Tryz.prog w =
    .ok (.value (.tuple #[.int .u64 ((x + y) % 18446744073709551616), .int .u64 ((x + y) / 18446744073709551616)])) w := by
  have h := run_add64 x y 0 hx hy (by omega) (by omega) (P := Tryz.prog) w
  rw [run_callFunc_extern Tryz.func205 (by kernel_rfl) (by kernel_rfl) (by kernel_rfl) (e := add64Entry) (by kernel_rfl), h]
  simp only [Result.andThen, Int.add_zero]

end Go.Proofs.YtalmgeefkcebdaaGreatDoor

