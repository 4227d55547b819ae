/- Exhaustive search: lines and equations of the program; greatest, last, power. -/
import Derived.Test.YtlgjnidphldiiaaExM
import Derived.Test.YtlgjnidphldiiaaHeld
namespace Go.Proofs.Ytlgjnidphldiiaa
open Go.RowKit

set_option maxHeartbeats 1000000 in
theorem greatest_any (x : Lc) (hi : Int) (w : World) (hx : LcOk w x) (hb : ∀ t ∈ x.l, 0 ≤ t.1 ∧ t.1 < hi) (hl : x.l.length ≤ 1000000000) :
    Calls Try.prog 128 #[.slice x.ad x.l.length x.cap] w fun e w' => e = .returned (.int .i64 (gtL x.l)) ∧ Below w.heap.size w w' := by
  by_cases h0 : x.l = []
  · have e : gtL x.l = 0 := by rw [h0]; rfl
    have hz : ((x.l.length : Int) == 0) = true := by rw [h0]; rfl
    rw [e]
    go_enter Try.func128, Try.ntmps128
    go_wp2
    go_ret
    exact ⟨rfl, Below.refl _ _⟩
  · have hlen : 0 < x.l.length := List.length_pos_iff.2 h0
    have hz : ((x.l.length : Int) == 0) = false := by rw [beq_eq_false_iff_ne]; omega
    obtain ⟨b, off, e2, _, hc⟩ := hx.sl hlen
    obtain ⟨n, hn⟩ : ∃ n, n + 1 = x.l.length := ⟨x.l.length - 1, by omega⟩
    have c0 := (hc n (by omega)).1
    have hg : x.l.getLast? = some (x.l.getD n (0, 0)) := by
      rw [List.getLast?_eq_getElem?, show x.l.length - 1 = n by omega, List.getD_eq_getElem?_getD, List.getElem?_eq_getElem (by omega)]
      rfl
    have hb2 := hb _ (getD_mem' (i := n) (by omega) (0, 0))
    have hgt : (gtL x.l : Int) = (x.l.getD n (0, 0)).1 := by
      unfold gtL
      rw [hg]
      show (((x.l.getD n (0, 0)).1).toNat : Int) = _
      omega
    rw [hgt]
    generalize (x.l.getD n (0, 0)).1 = v at *
    obtain ⟨ad, cap, l⟩ := x
    simp only at *
    subst e2
    have hn2 : (l.length : Int) - 1 = n := by omega
    have hn3 : (n : Int) < l.length := by omega
    have hlm : (l.length : Int) ≤ 1000000000 := by omega
    have hwr : IntKind.i64.wrap ((l.length : Int) - 1) = n := by rw [IntKind.wrap_i64]; omega
    have hl1 : 1 ≤ (l.length : Int) := by omega
    replace hn := hide hn
    clear hc hx hb hg hgt hl h0
    go_enter Try.func128, Try.ntmps128
    go_wp2
    go_ret
    exact ⟨rfl, Below.refl _ _⟩

set_option maxHeartbeats 1000000 in
theorem rLast_any (x : Lc) (hi : Int) (w : World) (hx : LcOk w x) (hb : ∀ t ∈ x.l, 0 ≤ t.1 ∧ t.1 < hi) (hl : x.l.length ≤ 1000000000) :
    Calls Try.prog 132 #[.slice x.ad x.l.length x.cap] w fun e w' => e = .returned (.int .i64 (gtL x.l)) ∧ Below w.heap.size w w' := by
  by_cases h0 : x.l = []
  · have e : gtL x.l = 0 := by rw [h0]; rfl
    have hz : ((x.l.length : Int) == 0) = true := by rw [h0]; rfl
    rw [e]
    go_enter Try.func132, Try.ntmps132
    go_wp2
    go_ret
    exact ⟨rfl, Below.refl _ _⟩
  · have hlen : 0 < x.l.length := List.length_pos_iff.2 h0
    have hz : ((x.l.length : Int) == 0) = false := by rw [beq_eq_false_iff_ne]; omega
    obtain ⟨b, off, e2, _, hc⟩ := hx.sl hlen
    obtain ⟨n, hn⟩ : ∃ n, n + 1 = x.l.length := ⟨x.l.length - 1, by omega⟩
    have c0 := (hc n (by omega)).1
    have hg : x.l.getLast? = some (x.l.getD n (0, 0)) := by
      rw [List.getLast?_eq_getElem?, show x.l.length - 1 = n by omega, List.getD_eq_getElem?_getD, List.getElem?_eq_getElem (by omega)]
      rfl
    have hb2 := hb _ (getD_mem' (i := n) (by omega) (0, 0))
    have hgt : (gtL x.l : Int) = (x.l.getD n (0, 0)).1 := by
      unfold gtL
      rw [hg]
      show (((x.l.getD n (0, 0)).1).toNat : Int) = _
      omega
    rw [hgt]
    generalize (x.l.getD n (0, 0)).1 = v at *
    obtain ⟨ad, cap, l⟩ := x
    simp only at *
    subst e2
    have hn2 : (l.length : Int) - 1 = n := by omega
    have hn3 : (n : Int) < l.length := by omega
    have hlm : (l.length : Int) ≤ 1000000000 := by omega
    have hwr : IntKind.i64.wrap ((l.length : Int) - 1) = n := by rw [IntKind.wrap_i64]; omega
    have hl1 : 1 ≤ (l.length : Int) := by omega
    replace hn := hide hn
    clear hc hx hb hg hgt hl h0
    go_enter Try.func132, Try.ntmps132
    go_wp2
    go_ret
    exact ⟨rfl, Below.refl _ _⟩

theorem lnAt_bd {p x : Int} (hp : 0 < p) (l : Ln) : 0 ≤ lnAt p x l ∧ lnAt p x l < p := mod_lt' hp _
set_option maxHeartbeats 1000000 in
theorem lnAt_any (p x b s : Int) (w : World) (hp : 0 < p ∧ p ≤ 257) (hb : 0 ≤ b ∧ b < p) (hs : 0 ≤ s ∧ s < p) (hx : 0 ≤ x ∧ x < p) :
    Calls Try.prog 151 #[.agg #[.int .u64 b, .int .u64 s], .int .u64 x, .int .u64 p] w fun e w' => e = .returned (.int .u64 (lnAt p x ⟨b, s⟩)) ∧ Below w.heap.size w w' := by
  have h1 : 0 ≤ s * x := Int.mul_nonneg hs.1 hx.1
  have h2 : s * x ≤ 257 * 257 := Int.mul_le_mul (by omega) (by omega) hx.1 (by decide)
  obtain ⟨hp0, hp1⟩ := hp
  obtain ⟨hb0, hb1⟩ := hb
  have hw1 : IntKind.u64.wrap (s * x) = s * x := by rw [IntKind.wrap_u64]; omega
  have hw2 : IntKind.u64.wrap (b + s * x) = b + s * x := by rw [IntKind.wrap_u64]; omega
  have ht : (b + s * x).tmod p = (b + s * x) % p := Int.tmod_eq_emod_of_nonneg (by omega)
  have hp2 : (p == 0) = false := by rw [beq_eq_false_iff_ne]; omega
  have hge : 0 ≤ b + s * x := by omega
  clear hs hx
  go_enter Try.func151, Try.ntmps151
  go_wp2
  go_ret
  exact ⟨rfl, (Below.refl _ _).alloc (Nat.le_refl _) _⟩

/-- An equation whose numbers are reduced. -/
structure EqB (p : Int) (e : Eq3) : Prop where
  ga : 0 ≤ e.a.b ∧ e.a.b < p
  sa : 0 ≤ e.a.s ∧ e.a.s < p
  gb : 0 ≤ e.b.b ∧ e.b.b < p
  sb : 0 ≤ e.b.s ∧ e.b.s < p
  gc : 0 ≤ e.c.b ∧ e.c.b < p
  sc : 0 ≤ e.c.s ∧ e.c.s < p
theorem mul_bd {p a b : Int} (hp : 0 < p ∧ p ≤ 257) (ha : 0 ≤ a ∧ a < p) (hb : 0 ≤ b ∧ b < p) : 0 ≤ a * b ∧ a * b ≤ 66049 :=
  ⟨Int.mul_nonneg ha.1 hb.1, (show a * b ≤ 257 * 257 from Int.mul_le_mul (by omega) (by omega) hb.1 (by decide))⟩
abbrev eqV (e : Eq3) : Value := .agg #[.int .u64 e.a.b, .int .u64 e.a.s, .int .u64 e.b.b, .int .u64 e.b.s, .int .u64 e.c.b, .int .u64 e.c.s]
set_option maxHeartbeats 2000000 in
theorem holds_any (p x : Int) (e : Eq3) (w : World) (hp : 0 < p ∧ p ≤ 257) (he : EqB p e) (hx : 0 ≤ x ∧ x < p) :
    Calls Try.prog 141 #[.agg #[.int .u64 e.a.b, .int .u64 e.a.s, .int .u64 e.b.b, .int .u64 e.b.s, .int .u64 e.c.b, .int .u64 e.c.s], .int .u64 x, .int .u64 p] w fun en w' => en = .returned (.bool (holdsE p x e)) ∧ Below w.heap.size w w' := by
  have ca := fun W => lnAt_any p x e.a.b e.a.s W hp he.ga he.sa hx
  have cb := fun W => lnAt_any p x e.b.b e.b.s W hp he.gb he.sb hx
  have cc := fun W => lnAt_any p x e.c.b e.c.s W hp he.gc he.sc hx
  have ba := lnAt_bd hp.1 (x := x) e.a
  have bb := lnAt_bd hp.1 (x := x) e.b
  obtain ⟨⟨a0, a1⟩, ⟨b0, b1⟩, ⟨c0, c1⟩⟩ := e
  unfold holdsE
  simp only at *
  generalize lnAt p x ⟨a0, a1⟩ = A at *
  generalize lnAt p x ⟨b0, b1⟩ = B at *
  generalize lnAt p x ⟨c0, c1⟩ = C at *
  have hm := mul_bd hp ba bb
  have hw : IntKind.u64.wrap (A * B) = A * B := by rw [IntKind.wrap_u64]; omega
  have ht : (A * B).tmod p = A * B % p := Int.tmod_eq_emod_of_nonneg hm.1
  have hp2 : (p == 0) = false := by rw [beq_eq_false_iff_ne]; omega
  obtain ⟨hm1, hm2⟩ := hm
  clear he ba bb
  go_enter Try.func141, Try.ntmps141
  go_wp2_with fail
  refine name_world fun w2 hN => ?_
  have g : Blk w2 w.heap.size #[.int .u64 a0, .int .u64 a1, .int .u64 b0, .int .u64 b1, .int .u64 c0, .int .u64 c1] 158 := by rw [hN]; exact Blk.newAt rfl
  have hB : Below w.heap.size w w2 := by rw [hN]; exact (Below.refl _ _).alloc (Nat.le_refl _) _
  clear hN
  have k0 := cell_later' (g.cell (j := 0) (v := .int .u64 a0) rfl)
  have k1 := cell_later' (g.cell (j := 1) (v := .int .u64 a1) rfl)
  have k2 := cell_later' (g.cell (j := 2) (v := .int .u64 b0) rfl)
  have k3 := cell_later' (g.cell (j := 3) (v := .int .u64 b1) rfl)
  have k4 := cell_later' (g.cell (j := 4) (v := .int .u64 c0) rfl)
  have k5 := cell_later' (g.cell (j := 5) (v := .int .u64 c1) rfl)
  refine wp_region_later Try.mixed (by kernel_rfl) ?_
  repeat (first | go_big_quiet_step (first | (go_at_call_of 151 a1; exact Calls.later_of (ca _)) | (go_at_call_of 151 b1; exact Calls.later_of (cb _)) | (go_at_call_of 151 c1; exact Calls.later_of (cc _))) | quiet_step (first | (go_at_call_of 151 a1; exact Calls.later_of (ca _)) | (go_at_call_of 151 b1; exact Calls.later_of (cb _)) | (go_at_call_of 151 c1; exact Calls.later_of (cc _))))
  refine wpQuiet_nil ?_
  intro w3 hb3
  replace hb3 := below_of_later hb3
  go_wp2
  go_ret
  exact ⟨rfl, below2 hB hb3⟩
set_option maxHeartbeats 1000000 in
theorem isQuad_any (e : Eq3) (w : World) :
    Calls Try.prog 146 #[.agg #[.int .u64 e.a.b, .int .u64 e.a.s, .int .u64 e.b.b, .int .u64 e.b.s, .int .u64 e.c.b, .int .u64 e.c.s]] w fun en w' => en = .returned (.bool (quadE e)) ∧ Below w.heap.size w w' := by
  unfold quadE
  by_cases h : e.a.s = 0
  · have h1 : (e.a.s != 0) = false := by rw [h]; rfl
    rw [h1]
    go_enter Try.func146, Try.ntmps146
    go_wp2
    go_ret
    exact ⟨rfl, (Below.refl _ _).alloc (Nat.le_refl _) _⟩
  · have h1 : (e.a.s != 0) = true := by simpa using h
    rw [h1, Bool.true_and]
    go_enter Try.func146, Try.ntmps146
    go_wp2
    go_ret
    exact ⟨rfl, (Below.refl _ _).alloc (Nat.le_refl _) _⟩
set_option maxHeartbeats 2000000 in
theorem linear_any (p : Int) (e : Eq3) (w : World) (hp : 0 < p ∧ p ≤ 257) (he : EqB p e) :
    Calls Try.prog 144 #[.agg #[.int .u64 e.a.b, .int .u64 e.a.s, .int .u64 e.b.b, .int .u64 e.b.s, .int .u64 e.c.b, .int .u64 e.c.s], .int .u64 p] w fun en w' => en = .returned (if quadE e then .tuple #[.int .u64 0, .int .u64 0, .bool false] else .tuple #[.int .u64 (slopeE p e), .int .u64 (restE p e), .bool (slopeE p e != 0)]) ∧ Below w.heap.size w w' := by
  have cQ := fun W => isQuad_any e W
  cases hq : quadE e with
  | true =>
    rw [hq] at cQ
    rw [if_pos rfl]
    go_enter Try.func144, Try.ntmps144
    go_wp2_with fail
    refine (cQ _).mono ?_
    rintro en w2 ⟨rfl, hb⟩
    go_wp2
    go_ret3
    exact ⟨rfl, ((Below.refl w.heap.size w).alloc (Nat.le_refl _) _).trans (hb.mono (by simp))⟩
  | false =>
    rw [hq] at cQ
    rw [if_neg (by decide)]
    obtain ⟨⟨a0, a1⟩, ⟨b0, b1⟩, ⟨c0, c1⟩⟩ := e
    obtain ⟨ga, sa, gb, sb, gc, sc⟩ := he
    simp only at *
    have m1 := mul_bd hp sa gb
    have m2 := mul_bd hp sb ga
    have m3 := mul_bd hp ga gb
    have m4 : 0 ≤ p * p ∧ p * p ≤ 66049 ∧ a0 * b0 ≤ p * p := ⟨Int.mul_nonneg (by omega) (by omega), (show p * p ≤ 257 * 257 from Int.mul_le_mul (by omega) (by omega) (by omega) (by decide)), (show a0 * b0 ≤ p * p from Int.mul_le_mul (by omega) (by omega) gb.1 (by omega))⟩
    have w1 : IntKind.u64.wrap (a1 * b0) = a1 * b0 := by rw [IntKind.wrap_u64]; omega
    have w2 : IntKind.u64.wrap (b1 * a0) = b1 * a0 := by rw [IntKind.wrap_u64]; omega
    have w3 : IntKind.u64.wrap (a1 * b0 + b1 * a0) = a1 * b0 + b1 * a0 := by rw [IntKind.wrap_u64]; omega
    have w4 : IntKind.u64.wrap (a1 * b0 + b1 * a0 + p) = a1 * b0 + b1 * a0 + p := by rw [IntKind.wrap_u64]; omega
    have w5 : IntKind.u64.wrap (a1 * b0 + b1 * a0 + p - c1) = a1 * b0 + b1 * a0 + p - c1 := by rw [IntKind.wrap_u64]; omega
    have t1 : (a1 * b0 + b1 * a0 + p - c1).tmod p = (a1 * b0 + b1 * a0 + p - c1) % p := Int.tmod_eq_emod_of_nonneg (by omega)
    have w6 : IntKind.u64.wrap (p * p) = p * p := by rw [IntKind.wrap_u64]; omega
    have w7 : IntKind.u64.wrap (c0 + p * p) = c0 + p * p := by rw [IntKind.wrap_u64]; omega
    have w8 : IntKind.u64.wrap (a0 * b0) = a0 * b0 := by rw [IntKind.wrap_u64]; omega
    have w9 : IntKind.u64.wrap (c0 + p * p - a0 * b0) = c0 + p * p - a0 * b0 := by rw [IntKind.wrap_u64]; omega
    have t2 : (c0 + p * p - a0 * b0).tmod p = (c0 + p * p - a0 * b0) % p := Int.tmod_eq_emod_of_nonneg (by omega)
    have hp2 : (p == 0) = false := by rw [beq_eq_false_iff_ne]; omega
    have g1 : 0 ≤ a1 * b0 + b1 * a0 + p - c1 := by omega
    have g2 : 0 ≤ c0 + p * p - a0 * b0 := by omega
    obtain ⟨hp0, hp1⟩ := hp
    unfold slopeE restE
    simp only
    go_enter Try.func144, Try.ntmps144
    go_wp2_with fail
    refine (cQ _).mono ?_
    rintro en w10 ⟨rfl, hb⟩
    have hA : Below w.heap.size w (w.alloc (.cells #[.int .u64 a0, .int .u64 a1, .int .u64 b0, .int .u64 b1, .int .u64 c0, .int .u64 c1] 158)) := (Below.refl w.heap.size w).alloc (Nat.le_refl _) _
    have g : Blk w10 w.heap.size #[.int .u64 a0, .int .u64 a1, .int .u64 b0, .int .u64 b1, .int .u64 c0, .int .u64 c1] 158 := (Blk.new _ _ _).mono hb
    have k0 := g.cell (j := 0) (v := .int .u64 a0) rfl
    have k1 := g.cell (j := 1) (v := .int .u64 a1) rfl
    have k2 := g.cell (j := 2) (v := .int .u64 b0) rfl
    have k3 := g.cell (j := 3) (v := .int .u64 b1) rfl
    have k4 := g.cell (j := 4) (v := .int .u64 c0) rfl
    have k5 := g.cell (j := 5) (v := .int .u64 c1) rfl
    have hB := below2 hA hb
    clear hA hb g cQ m1 m2 m3 m4 ga sa gb sb gc sc
    go_wp2
    go_ret3
    exact ⟨rfl, hB⟩

/-- p^n, but at most a limit. -/
def powL (p : Nat) (n : Nat) (most : Int) : Int := min ((p ^ n : Nat) : Int) most
theorem powL_top {p n i : Nat} {most : Int} (hp : 0 < p) (hi : i ≤ n) (h : most ≤ ((p ^ i : Nat) : Int)) : powL p n most = most := by
  have : p ^ i ≤ p ^ n := Nat.pow_le_pow_right hp hi
  unfold powL
  omega
set_option maxHeartbeats 2000000 in
theorem power_any (p n : Nat) (most : Int) (w : World) (hp : 2 ≤ p ∧ p ≤ 257) (hn : n ≤ 70000) (hm : 0 ≤ most ∧ most ≤ 9223372036854775807) :
    Calls Try.prog 143 #[.int .u64 p, .int .i64 n, .int .i64 most] w fun en w' => en = .returned (.int .i64 (powL p n most)) ∧ w' = w := by
  obtain ⟨hm0, hm1⟩ := hm
  obtain ⟨q, hq⟩ : ∃ q : Int, q = (p : Int) := ⟨_, rfl⟩
  have hq1 : 2 ≤ q ∧ q ≤ 257 := by omega
  have hd := Int.emod_add_mul_ediv most q
  have hd2 := mod_lt' (show 0 < q by omega) most
  obtain ⟨D, hD⟩ : ∃ D, D = most / q := ⟨_, rfl⟩
  have ht : most.tdiv q = D := by rw [Int.tdiv_eq_ediv_of_nonneg hm0, hD]
  rw [← hD] at hd
  obtain ⟨r0, hr0⟩ : ∃ r0, r0 = most % q := ⟨_, rfl⟩
  rw [← hr0] at hd hd2
  have hDb : 0 ≤ D ∧ D ≤ most := by rw [hD]; exact ⟨Int.ediv_nonneg hm0 (by omega), Int.ediv_le_self _ hm0⟩
  have hq0 : (q == 0) = false := by rw [beq_eq_false_iff_ne]; omega
  have hwq : IntKind.i64.wrap q = q := by rw [IntKind.wrap_i64]; omega
  rw [← hq]
  replace hd := hide hd
  replace hr0 := hide hr0
  replace hq := hide hq
  obtain ⟨hDb0, hDb1⟩ := hDb
  obtain ⟨hq2, hq3⟩ := hq1
  clear hD hd2
  have hd3 : Hid (0 ≤ r0 ∧ r0 < q) := hide (by rw [hr0.out]; exact mod_lt' (by omega) most)
  go_enter Try.func143, Try.ntmps143
  go_wp2_with fail
  go_loop [1, 7] (fun t1 t7 => ∃ i : Nat, i ≤ n ∧ t1 = .int .i64 ((n : Int) - i) ∧ ∃ r : Int, t7 = .int .i64 r ∧ 1 ≤ r ∧ Hid (r = ((p ^ i : Nat) : Int)) ∧ Hid (i = 0 ∨ r ≤ most)) (fun t1 _ => (intOf t1).toNat)
  case atStart => exact ⟨0, Nat.zero_le _, by simp, 1, rfl, by decide, hide (by simp), hide (.inl rfl)⟩
  case round =>
    obtain ⟨i, hi, rfl, r, rfl, hr1, hr, hri⟩ := hrel
    have hni : (i : Int) ≤ n := by omega
    by_cases hlt : i < n
    · have hlt' : (0 : Int) < (n : Int) - i := by omega
      have hlt2 : decide ((0 : Int) < (n : Int) - i) = true := by simpa using hlt'
      by_cases hrm : r < most
      · by_cases hrd : D < r
        · have hfin : Hid (powL p n most = most) := hide (powL_top (i := i + 1) (by omega) (by omega) (by
            have h1 := hr.out
            have h2 := hd.out
            have h3 := hd3.out
            have h4 : q * (D + 1) ≤ q * r := Int.mul_le_mul_of_nonneg_left (by omega) (by omega)
            rw [Int.mul_add, Int.mul_one] at h4
            rw [Nat.pow_succ, Int.natCast_mul, ← h1, ← hq.out, Int.mul_comm r q]
            omega))
          go_wp2
          go_ret
          exact ⟨congrArg (fun x => Ending.returned (.int .i64 x)) hfin.out.symm, rfl⟩
        · have hrq : r * q ≤ most := by
            have h2 := hd.out
            have h3 := hd3.out
            have h4 : q * r ≤ q * D := Int.mul_le_mul_of_nonneg_left (by omega) (by omega)
            rw [Int.mul_comm r q]
            omega
          have hrq1 : 1 ≤ r * q := by
            have : 1 * 1 ≤ r * q := Int.mul_le_mul hr1 (by omega) (by decide) (by omega)
            omega
          have hw : IntKind.i64.wrap (r * q) = r * q := by rw [IntKind.wrap_i64]; omega
          have hnx : Hid (r * q = ((p ^ (i + 1) : Nat) : Int)) := hide (by rw [Nat.pow_succ, Int.natCast_mul, ← hr.out, ← hq.out])
          go_wp2
          go_round
          case rel => exact ⟨i + 1, by omega, by go_num, r * q, rfl, hrq1, hnx, hide (.inr hrq)⟩
          case measure => simp [intOf]; omega
      · have hfin : Hid (min r most = powL p n most) := hide (by
          rw [powL_top (i := i) (by omega) hi (by rw [← hr.out]; omega)]
          omega)
        go_wp2
        go_ret
        exact ⟨congrArg (fun x => Ending.returned (.int .i64 x)) hfin.out, rfl⟩
    · obtain rfl : i = n := by omega
      have hfin : Hid (min r most = powL p i most) := hide (by unfold powL; rw [hr.out])
      go_wp2
      go_ret
      exact ⟨congrArg (fun x => Ending.returned (.int .i64 x)) hfin.out, rfl⟩
end Go.Proofs.Ytlgjnidphldiiaa
