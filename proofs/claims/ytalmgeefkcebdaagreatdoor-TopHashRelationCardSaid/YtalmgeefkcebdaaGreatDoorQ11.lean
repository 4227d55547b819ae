/- Fermat's little theorem for the known primes, each by a generator: its powers are pairwise different, so they are all residues but 0. -/
import Derived.Test.YtalmgeefkcebdaaGreatDoorQ10
namespace Go.Proofs.YtalmgeefkcebdaaGreatDoor

/-- An injective function of the numbers below n into themselves hits each. -/
theorem onto_of_inj : ∀ (n : Nat) (f : Nat → Nat), (∀ i, i < n → f i < n) → (∀ i j, i < n → j < n → f i = f j → i = j) → ∀ y, y < n → ∃ i, i < n ∧ f i = y
  | 0, _, _, _, y, hy => absurd hy (Nat.not_lt_zero _)
  | n + 1, f, hm, hi, y, hy => by
    -- turn f so that n goes to n
    obtain ⟨g, hg⟩ : ∃ g : Nat → Nat, g = fun i => if f i = n then f n else f i := ⟨_, rfl⟩
    have gm : ∀ i, i < n → g i < n := fun i h => by
      rw [hg]; simp only
      split
      · rename_i e
        have h1 := hm n (by omega)
        rcases Nat.lt_or_ge (f n) n with h2 | h2
        · exact h2
        · have : i = n := hi i n (by omega) (by omega) (by omega)
          omega
      · rename_i e
        have := hm i (by omega)
        omega
    have gi : ∀ i j, i < n → j < n → g i = g j → i = j := fun i j h1 h2 h3 => by
      rw [hg] at h3; simp only at h3
      split at h3 <;> split at h3
      · exact hi i j (by omega) (by omega) (by omega)
      · have := hi n j (by omega) (by omega) h3; omega
      · have := hi i n (by omega) (by omega) h3; omega
      · exact hi i j (by omega) (by omega) h3
    by_cases hyn : f n = y
    · exact ⟨n, by omega, hyn⟩
    · -- y is the image of something below n
      by_cases hy2 : y = n
      · -- then n is hit by some i below n : f n < n, so g hits f n
        have h1 := hm n (by omega)
        obtain ⟨i, h2, h3⟩ := onto_of_inj n g gm gi (f n) (by omega)
        rw [hg] at h3; simp only at h3
        split at h3
        · rename_i e
          exact ⟨i, by omega, by omega⟩
        · have := hi i n (by omega) (by omega) h3; omega
      · obtain ⟨i, h2, h3⟩ := onto_of_inj n g gm gi y (by omega)
        rw [hg] at h3; simp only at h3
        split at h3
        · exact absurd h3 hyn
        · exact ⟨i, by omega, h3⟩

/-- Every number that p does not divide is coprime to p. -/
def IsP (p : Nat) : Prop := 1 < p ∧ ∀ x, x % p ≠ 0 → Nat.Coprime x p

theorem pow_gcd (p g : Nat) (hp : 1 < p) : ∀ (m n : Nat), g ^ m % p = 1 → g ^ n % p = 1 → g ^ (Nat.gcd m n) % p = 1 := by
  intro m
  induction m using Nat.strongRecOn with
  | ind m ih =>
    intro n hm hn
    by_cases h0 : m = 0
    · subst h0; rw [Nat.gcd_zero_left]; exact hn
    · rw [Nat.gcd_rec]
      refine ih (n % m) (Nat.mod_lt _ (by omega)) m ?_ hm
      have h1 : g ^ n % p = g ^ (n % m) % p := by
        have : g ^ n = (g ^ m) ^ (n / m) * g ^ (n % m) := by rw [← Nat.pow_mul, ← Nat.pow_add, Nat.div_add_mod]
        rw [this, Nat.mul_mod, Nat.pow_mod, hm, Nat.one_pow, Nat.mod_eq_of_lt hp, Nat.one_mul, Nat.mod_mod]
      rw [← h1, hn]

/-- What is checked: g has the order p - 1. -/
structure Gen (p g : Nat) (qs : List Nat) : Prop where
  big : 2 < p
  one : g ^ (p - 1) % p = 1
  isp : ∀ q ∈ qs, IsP q
  dvd : ∀ q ∈ qs, q ∣ p - 1
  not : ∀ q ∈ qs, g ^ ((p - 1) / q) % p ≠ 1
  prod : ∃ k, (p - 1) ∣ (qs.foldr (· * ·) 1) ^ k

theorem coprime_prod (t : Nat) : ∀ qs : List Nat, (∀ q ∈ qs, Nat.Coprime t q) → Nat.Coprime t (qs.foldr (· * ·) 1)
  | [], _ => Nat.coprime_one_right _
  | q :: qs, h => by
    simp only [List.foldr_cons]
    exact Nat.Coprime.mul_right (h q (by simp)) (coprime_prod t qs fun q' hq' => h q' (by simp [hq']))

section
variable {p g : Nat} {qs : List Nat} (G : Gen p g qs)
include G

theorem Gen.cancel (a b : Nat) (h : (g * a) % p = (g * b) % p) : a % p = b % p := by
  have hb := G.big
  have key : ∀ c, (g ^ (p - 2) * (g * c)) % p = c % p := fun c => by
    have : g ^ (p - 2) * (g * c) = g ^ (p - 1) * c := by
      rw [← Nat.mul_assoc, ← Nat.pow_succ]
      congr 2
      omega
    rw [this, Nat.mul_mod, G.one, Nat.one_mul, Nat.mod_mod]
  rw [← key a, ← key b, Nat.mul_mod, h, ← Nat.mul_mod]

theorem Gen.order (n : Nat) (h0 : 0 < n) (h1 : n < p - 1) : g ^ n % p ≠ 1 := by
  intro h
  have hb := G.big
  have hg := pow_gcd p g (by omega) n (p - 1) h G.one
  obtain ⟨m, hm⟩ : ∃ m, m = Nat.gcd n (p - 1) := ⟨_, rfl⟩
  rw [← hm] at hg
  have hmp : m ∣ p - 1 := by rw [hm]; exact Nat.gcd_dvd_right _ _
  have hmn : m ∣ n := by rw [hm]; exact Nat.gcd_dvd_left _ _
  have hm0 : 0 < m := Nat.pos_of_dvd_of_pos hmn h0
  have hmle : m ≤ n := Nat.le_of_dvd h0 hmn
  obtain ⟨t, ht⟩ := hmp
  have ht1 : 1 < t := by
    rcases Nat.lt_or_ge 1 t with h2 | h2
    · exact h2
    · have : t = 0 ∨ t = 1 := by omega
      rcases this with rfl | rfl <;> simp at ht <;> omega
  -- some q divides t
  have hq : ∃ q ∈ qs, q ∣ t := by
    by_cases hex : ∃ q ∈ qs, q ∣ t
    · exact hex
    · exfalso
      have hc : Nat.Coprime t (qs.foldr (· * ·) 1) := coprime_prod t qs fun q hq => (G.isp q hq).2 t fun hz => hex ⟨q, hq, Nat.dvd_of_mod_eq_zero hz⟩
      obtain ⟨k, hk⟩ := G.prod
      have htd : t ∣ (qs.foldr (· * ·) 1) ^ k := Nat.dvd_trans ⟨m, by rw [ht, Nat.mul_comm]⟩ hk
      have hc2 : Nat.Coprime t ((qs.foldr (· * ·) 1) ^ k) := Nat.Coprime.pow_right k hc
      have : t ∣ 1 := by
        have h5 : Nat.gcd t ((qs.foldr (· * ·) 1) ^ k) = 1 := hc2
        rw [← h5]
        exact Nat.dvd_gcd (Nat.dvd_refl _) htd
      have := Nat.le_of_dvd (by omega) this
      omega
  obtain ⟨q, hq, u, hu⟩ := hq
  have hq1 := (G.isp q hq).1
  refine G.not q hq ?_
  have : (p - 1) / q = m * u := by
    rw [ht, hu, show m * (q * u) = q * (m * u) by rw [Nat.mul_left_comm]]
    exact Nat.mul_div_cancel_left _ (by omega)
  rw [this, Nat.pow_mul, Nat.pow_mod, hg, Nat.one_pow, Nat.mod_eq_of_lt (by omega)]

theorem Gen.nonzero (n : Nat) : g ^ n % p ≠ 0 := by
  intro h
  have hb := G.big
  have h1 : (g ^ (p - 1)) ^ n % p = 0 := by
    rw [← Nat.pow_mul, Nat.mul_comm, Nat.pow_mul]
    have : (g ^ n) ^ (p - 1) = (g ^ n) ^ (p - 2) * g ^ n := by rw [← Nat.pow_succ]; congr 1; omega
    rw [this, Nat.mul_mod, h, Nat.mul_zero, Nat.zero_mod]
  rw [Nat.pow_mod, G.one, Nat.one_pow, Nat.mod_eq_of_lt (by omega)] at h1
  omega

theorem Gen.cancelPow (a b : Nat) : ∀ i, (g ^ i * a) % p = (g ^ i * b) % p → a % p = b % p
  | 0, h => by simpa using h
  | i + 1, h => Gen.cancelPow a b i (G.cancel _ _ (by rw [← Nat.mul_assoc, ← Nat.mul_assoc, ← Nat.pow_succ']; exact h))

theorem Gen.apart (i j : Nat) (hi : i < j) (hj : j < p - 1) : g ^ i % p ≠ g ^ j % p := by
  intro h
  have hb := G.big
  have e : g ^ j = g ^ i * g ^ (j - i) := by rw [← Nat.pow_add]; congr 1; omega
  have h1 := G.cancelPow 1 (g ^ (j - i)) i (by rw [Nat.mul_one, h, e])
  rw [Nat.mod_eq_of_lt (by omega)] at h1
  exact G.order (j - i) (by omega) (by omega) h1.symm

/-- Each residue but 0 is a power. -/
theorem Gen.all (x : Nat) (hx : x % p ≠ 0) : ∃ i, g ^ i % p = x % p := by
  have hb := G.big
  obtain ⟨i, _, h⟩ := onto_of_inj (p - 1) (fun i => g ^ i % p - 1) (fun i hi => by
      have := Nat.mod_lt (g ^ i) (show 0 < p by omega)
      have := G.nonzero i
      omega) (fun i j hi hj h => by
      have h1 := G.nonzero i
      have h2 := G.nonzero j
      have h3 : g ^ i % p = g ^ j % p := by omega
      rcases Nat.lt_trichotomy i j with h4 | h4 | h4
      · exact absurd h3 (G.apart i j h4 hj)
      · exact h4
      · exact absurd h3.symm (G.apart j i h4 hi)) (x % p - 1) (by have := Nat.mod_lt x (show 0 < p by omega); omega)
  have := G.nonzero i
  exact ⟨i, by omega⟩

theorem Gen.fermat (x : Nat) (hx : x % p ≠ 0) : x ^ (p - 1) % p = 1 := by
  have hb := G.big
  obtain ⟨i, hi⟩ := G.all x hx
  rw [Nat.pow_mod, ← hi, ← Nat.pow_mod, ← Nat.pow_mul, Nat.mul_comm, Nat.pow_mul, Nat.pow_mod, G.one, Nat.one_pow, Nat.mod_eq_of_lt (by omega)]

theorem Gen.isP : IsP p := by
  have hb := G.big
  refine ⟨by omega, fun x hx => ?_⟩
  have h := G.fermat x hx
  have e : x ^ (p - 1) = x * x ^ (p - 2) := by rw [← Nat.pow_succ']; congr 1; omega
  have hd : Nat.gcd x p ∣ 1 := by
    rw [← h, e]
    exact (Nat.dvd_mod_iff (Nat.gcd_dvd_right x p)).2 (Nat.dvd_trans (Nat.gcd_dvd_left x p) ⟨_, rfl⟩)
  exact Nat.eq_one_of_dvd_one hd

end

/-- Powers by squaring. -/
def pwN (p : Nat) : Nat → Nat → Nat → Nat → Nat
  | 0, _, r, _ => r
  | f + 1, x, r, e => if e = 0 then r else pwN p f (x * x % p) (if e % 2 = 1 then r * x % p else r) (e / 2)

theorem pwN_eq (p : Nat) : ∀ (f x r e : Nat), e < 2 ^ f → pwN p f x r e % p = r * x ^ e % p
  | 0, x, r, e, h1 => by
    have : e = 0 := by simp at h1; omega
    subst this
    simp [pwN]
  | f + 1, x, r, e, h1 => by
    unfold pwN
    split
    · rename_i h
      subst h
      simp
    · rename_i he
      rw [pwN_eq p f _ _ _ (by rw [Nat.pow_succ] at h1; omega)]
      have e2 : x ^ e = (x * x) ^ (e / 2) * x ^ (e % 2) := by
        rw [← Nat.pow_two, ← Nat.pow_mul, ← Nat.pow_add, Nat.div_add_mod]
      rw [e2]
      by_cases h2 : e % 2 = 1
      · rw [if_pos h2, h2, Nat.pow_one, Nat.mul_mod, Nat.mod_mod, Nat.pow_mod, Nat.mod_mod, ← Nat.pow_mod, ← Nat.mul_mod]
        congr 1
        rw [Nat.mul_assoc, Nat.mul_comm x]
      · have h3 : e % 2 = 0 := by omega
        rw [if_neg h2, h3, Nat.pow_zero, Nat.mul_one, Nat.mul_mod, Nat.pow_mod, Nat.mod_mod, ← Nat.pow_mod, ← Nat.mul_mod]

theorem powN (p x e : Nat) (h : e < 2 ^ 64) : x ^ e % p = pwN p 64 x 1 e % p := by rw [pwN_eq p 64 x 1 e h, Nat.one_mul]

theorem isP2 : IsP 2 := ⟨by decide, fun x hx => by
  have h : x % 2 = 1 := by omega
  unfold Nat.Coprime
  rw [Nat.gcd_comm, Nat.gcd_rec, h]
  rfl⟩

/-- The checks, by reckoning. -/
def chk (p g : Nat) (qs : List Nat) : Bool := decide (2 < p) && decide (p < 2 ^ 64) && pwN p 64 g 1 (p - 1) % p == 1 && qs.all (fun q => (p - 1) % q == 0 && pwN p 64 g 1 ((p - 1) / q) % p != 1) && (qs.foldr (· * ·) 1) ^ 64 % (p - 1) == 0

theorem gen_of {p g : Nat} {qs : List Nat} (h : chk p g qs = true) (hq : ∀ q ∈ qs, IsP q) : Gen p g qs := by
  simp only [chk, Bool.and_eq_true, decide_eq_true_eq, beq_iff_eq, bne_iff_ne, List.all_eq_true] at h
  obtain ⟨⟨⟨⟨h1, h2⟩, h3⟩, h4⟩, h5⟩ := h
  refine ⟨h1, ?_, hq, fun q hq => Nat.dvd_of_mod_eq_zero (h4 q hq).1, fun q hq => ?_, ⟨64, Nat.dvd_of_mod_eq_zero h5⟩⟩
  · rw [powN p g _ (by omega)]; exact h3
  · rw [powN p g _ (Nat.lt_of_le_of_lt (Nat.div_le_self _ _) (by omega))]; exact (h4 q hq).2

theorem gen3 : Gen 3 2 [2] := gen_of (by decide +kernel) (by simpa using isP2)
theorem gen5 : Gen 5 3 [2] := gen_of (by decide +kernel) (by simpa using isP2)
theorem gen17 : Gen 17 3 [2] := gen_of (by decide +kernel) (by simpa using isP2)
theorem gen257 : Gen 257 3 [2] := gen_of (by decide +kernel) (by simpa using isP2)
theorem gen65537 : Gen 65537 3 [2] := gen_of (by decide +kernel) (by simpa using isP2)
theorem gen97 : Gen 97 5 [2, 3] := gen_of (by decide +kernel) (by simpa using ⟨isP2, gen3.isP⟩)
theorem gen193 : Gen 193 5 [2, 3] := gen_of (by decide +kernel) (by simpa using ⟨isP2, gen3.isP⟩)
theorem gen12289 : Gen 12289 11 [2, 3] := gen_of (by decide +kernel) (by simpa using ⟨isP2, gen3.isP⟩)
theorem genBig : Gen 18446744069414584321 7 [2, 3, 5, 17, 257, 65537] :=
  gen_of (by decide +kernel) (by simpa using ⟨isP2, gen3.isP, gen5.isP, gen17.isP, gen257.isP, gen65537.isP⟩)

end Go.Proofs.YtalmgeefkcebdaaGreatDoor


/- Gadgets: New and Input of the program. -/
namespace Go.Proofs.YtalmgeefkcebdaaGreatDoor
open Go.RowKit

/-- A new circuit. -/
def newS (p pub sec : Int) : St := ⟨p, pub, 1 + pub + sec, [], sec, []⟩
/-- What New returns. -/
def RetNew (w : World) (p pub sec : Int) (e : Ending) (w' : World) : Prop := ∃ b, e = .returned (.tuple #[.pointer (some ⟨b, 0, none⟩), .int .i64 0]) ∧ Bld w' w.heap.size b (newS p pub sec) ∧ Below w.heap.size w w'

set_option maxHeartbeats 2000000 in
theorem New20_ok (p pub sec : Int) (w : World) (hv : vld p = true) (h : 0 ≤ pub ∧ pub ≤ 65535 ∧ 0 ≤ sec ∧ pub + sec ≤ 65535) :
    Calls Tryz.prog 18 #[.int .u64 p, .int .i64 pub, .int .i64 sec] w (RetNew w p pub sec) := by
  have cV := fun W => valid_any p W
  rw [hv] at cV
  obtain ⟨h1, h2, h3, h4⟩ := h
  go_enter Tryz.func18, Tryz.ntmps18
  go_wp2_with fail
  refine name_calls fun w1 hN => ?_
  have g1 : Blk w1 w.heap.size #[.int .u64 p] 72 := by rw [hN]; exact Blk.newAt rfl
  have hb1 : Below w.heap.size w w1 := by rw [hN]; exact (Below.refl _ _).alloc (Nat.le_refl _) _
  clear hN
  refine (cV _).mono ?_
  rintro e w2 ⟨rfl, hb⟩
  replace g1 := g1.mono hb
  replace hb1 := below2 hb1 hb
  have f0 := g1.cell (j := 0) (v := .int .u64 p) rfl
  have l1 := g1.lt
  clear hb cV
  go_wp2
  go_ret2
  have gb : Blk ((w2.alloc (.cells #[.int .u64 p, .int .i64 pub, .int .i64 (1 + pub + sec), .slice none 0 0] 44)).alloc (.cells #[.int .u64 p, .int .u64 p, .int .i64 pub, .int .i64 (1 + pub + sec), .slice none 0 0, .int .i64 sec, .slice none 0 0] 115)) (w2.heap.size + 1) #[.int .u64 p, .int .u64 p, .int .i64 pub, .int .i64 (1 + pub + sec), .slice none 0 0, .int .i64 sec, .slice none 0 0] 115 := Blk.newAt (by simp)
  refine ⟨w2.heap.size + 1, rfl, ⟨_, [], _, [], ⟨gb, ?_, OwnG.nil _ _ _ _, OwnG.nil _ _ _ _, (fun r hr => by cases hr), (fun r hr => by cases hr), rfl, rfl, (fun r hr => by cases hr), (fun r hr => by cases hr)⟩⟩, (hb1.alloc hb1.size _).alloc (by have := hb1.size; simp; omega) _⟩
  have := hb1.size
  omega

set_option maxHeartbeats 2000000 in
theorem Input20_any (b : Nat) (cs : Array Value) (T : TypeId) (p pub sec i : Int) (w : World) (g : Blk w b cs T) (h0 : cs[0]? = some (.int .u64 p)) (h2 : cs[2]? = some (.int .i64 pub)) (h5 : cs[5]? = some (.int .i64 sec)) (hv : vld p = true) (hb : 0 ≤ pub ∧ 0 ≤ sec ∧ pub + sec ≤ 65535) (hi : (Lit.int .i64 i).wf = true) :
    Calls Tryz.prog 50 #[.pointer (some ⟨b, 0, none⟩), .int .i64 i] w (RetLn w (if 0 ≤ i ∧ i < pub + sec then [(1 + i, 1)] else [])) := by
  have hi2 := wf_i hi
  obtain ⟨b1, b2, b3⟩ := hb
  have k2 := cell_later' (g.cell h2)
  have k5 := cell_later' (g.cell h5)
  have hw : IntKind.i64.wrap (pub + sec) = pub + sec := by rw [IntKind.wrap_i64]; omega
  by_cases h : i < 0
  · rw [if_neg (by omega)]
    have hd : decide (i < 0) = true := decide_eq_true h
    go_enter Tryz.func50, Tryz.ntmps50
    go_wp2_with fail
    refine wp_region_later Tryz.mixed (by kernel_rfl) ?_
    repeat (first | go_big_quiet_step (first | fail) | quiet_step (first | fail))
    refine wpQuiet_nil ?_
    intro w1 hb1
    replace hb1 := below_of_later hb1
    go_wp2
    go_ret
    exact RetLn.nil w hb1
  · have hd : decide (i < 0) = false := decide_eq_false h
    have hge : 0 ≤ i := by omega
    by_cases h3 : i < pub + sec
    · rw [if_pos ⟨by omega, h3⟩]
      have hd2 : decide (pub + sec ≤ i) = false := decide_eq_false (by omega)
      have cV := fun W hb => variable20_any b cs T p (1 + i) W (g.mono hb) h0 hv (wfI ⟨by omega, by omega⟩)
      go_enter Tryz.func50, Tryz.ntmps50
      go_wp2_with fail
      refine wp_region_later Tryz.mixed (by kernel_rfl) ?_
      repeat (first | go_big_quiet_step (first | fail) | quiet_step (first | fail))
      refine wpQuiet_nil ?_
      intro w1 hb1
      replace hb1 := below_of_later hb1
      clear hd hd2 k2 k5 hw
      go_wp2_with fail
      refine (cV w1 hb1).mono ?_
      rintro e w2 ⟨s, rfl, es, hs, hb2⟩
      go_wp2
      go_ret
      exact ⟨s, rfl, es, hs, below2 hb1 hb2⟩
    · rw [if_neg (by omega)]
      have hd2 : decide (pub + sec ≤ i) = true := decide_eq_true (by omega)
      go_enter Tryz.func50, Tryz.ntmps50
      go_wp2_with fail
      refine wp_region_later Tryz.mixed (by kernel_rfl) ?_
      repeat (first | go_big_quiet_step (first | fail) | quiet_step (first | fail))
      refine wpQuiet_nil ?_
      intro w1 hb1
      replace hb1 := below_of_later hb1
      go_wp2
      go_ret
      exact RetLn.nil w hb1
end Go.Proofs.YtalmgeefkcebdaaGreatDoor

