/- Exhaustive search, plain: the number of assignments; lines and equations; what is linear has one solution, what is quadratic two at most. -/
import Derived.Test.YtlgjnidphldiiaaGm
namespace Go.Proofs.Ytlgjnidphldiiaa
open Go.RowKit

/-- The greatest variable of a combination, of a row. -/
def gtL (x : Lin) : Nat := match x.getLast? with
  | none => 0
  | some t => t.1.toNat
def gtR (r : Row3) : Nat := max (max (gtL r.a) (gtL r.b)) (gtL r.c)
/-- The rows whose greatest variable is v. -/
def rowsAt (R : List Row3) (v : Nat) : List Row3 := R.filter fun r => gtR r == v
def satB (p : Int) (W : List Int) (r : Row3) : Bool := fmul p (lval p W r.a) (lval p W r.b) == lval p W r.c
def okAt (p : Int) (R : List Row3) (W : List Int) : Bool := (rowsAt R (W.length - 1)).all (satB p W)
def sumN : Nat → (Nat → Nat) → Nat
  | 0, _ => 0
  | n + 1, f => sumN n f + f n
/-- The number of continuations of W by k values for which the further rows hold. -/
def cnt (p : Nat) (R : List Row3) : Nat → List Int → Nat
  | 0, _ => 1
  | k + 1, W => sumN p fun x => if okAt p R (W ++ [(x : Int)]) then cnt p R k (W ++ [(x : Int)]) else 0
theorem sumN_congr {n : Nat} {f g : Nat → Nat} (h : ∀ x, x < n → f x = g x) : sumN n f = sumN n g := by
  induction n with
  | zero => rfl
  | succ n ih => rw [sumN, sumN, ih fun x hx => h x (by omega), h n (by omega)]
theorem sumN_const (n c : Nat) : sumN n (fun _ => c) = n * c := by
  induction n with
  | zero => simp [sumN]
  | succ n ih => rw [sumN, ih, Nat.succ_mul]
theorem sumN_zero {n : Nat} {f : Nat → Nat} (h : ∀ x, x < n → f x = 0) : sumN n f = 0 := by
  rw [sumN_congr h, sumN_const, Nat.mul_zero]
theorem sumN_mono {n m : Nat} (f : Nat → Nat) (h : n ≤ m) : sumN n f ≤ sumN m f := by
  induction m with
  | zero => obtain rfl : n = 0 := by omega
            exact Nat.le_refl _
  | succ m ih =>
    by_cases e : n = m + 1
    · subst e; exact Nat.le_refl _
    · rw [sumN]; have := ih (by omega); omega
theorem sumN_rest {n m : Nat} {f : Nat → Nat} (h : n ≤ m) (h0 : ∀ x, n ≤ x → x < m → f x = 0) : sumN m f = sumN n f := by
  induction m with
  | zero => obtain rfl : n = 0 := by omega
            rfl
  | succ m ih =>
    by_cases e : n = m + 1
    · subst e; rfl
    · rw [sumN, ih (by omega) fun x h1 h2 => h0 x h1 (by omega), h0 m (by omega) (by omega), Nat.add_zero]
theorem sumN_one {n : Nat} {f : Nat → Nat} {a : Nat} (ha : a < n) (h : ∀ x, x < n → x ≠ a → f x = 0) : sumN n f = f a := by
  rw [sumN_rest (n := a + 1) (by omega) fun x h1 h2 => h x h2 (by omega), sumN, sumN_zero fun x hx => h x (by omega) (by omega), Nat.zero_add]
theorem sumN_get {n : Nat} (f : Nat → Nat) {a : Nat} (ha : a < n) : f a ≤ sumN n f := by
  have := sumN_mono f (show a + 1 ≤ n by omega)
  rw [sumN] at this
  omega
theorem sumN_pos {n : Nat} {f : Nat → Nat} (h : 0 < sumN n f) : ∃ a, a < n ∧ 0 < f a := by
  induction n with
  | zero => exact absurd h (by simp [sumN])
  | succ n ih =>
    rw [sumN] at h
    by_cases h0 : 0 < f n
    · exact ⟨n, by omega, h0⟩
    · obtain ⟨a, h1, h2⟩ := ih (by omega)
      exact ⟨a, by omega, h2⟩
theorem sumN_bound {n c : Nat} {f : Nat → Nat} (h : ∀ x, x < n → f x ≤ c) : sumN n f ≤ n * c := by
  induction n with
  | zero => simp [sumN]
  | succ n ih =>
    have := ih fun x hx => h x (by omega)
    have := h n (by omega)
    rw [sumN, Nat.succ_mul]
    omega
theorem cnt_le (p : Nat) (R : List Row3) : ∀ (k : Nat) (W : List Int), cnt p R k W ≤ p ^ k
  | 0, _ => Nat.le_refl 1
  | k + 1, W => by
    rw [cnt, Nat.pow_succ, Nat.mul_comm]
    refine sumN_bound fun x _ => ?_
    split
    · exact cnt_le p R k _
    · exact Nat.zero_le _
/-- Where no row is left, all count. -/
theorem cnt_free (p : Nat) (R : List Row3) : ∀ (k : Nat) (W : List Int), (∀ r ∈ R, gtR r < W.length) → cnt p R k W = p ^ k
  | 0, _, _ => rfl
  | k + 1, W, h => by
    rw [cnt, Nat.pow_succ, Nat.mul_comm, ← sumN_const]
    refine sumN_congr fun x _ => ?_
    have hl : (W ++ [(x : Int)]).length = W.length + 1 := by simp
    rw [if_pos, cnt_free p R k _ fun r hr => by have := h r hr; omega]
    unfold okAt
    rw [List.all_eq_true]
    intro r hr
    unfold rowsAt at hr
    rw [List.mem_filter, beq_iff_eq, hl] at hr
    have := h r hr.1
    omega
/-- The continuations, as lists. -/
def Good (p : Nat) (R : List Row3) : Nat → List Int → List Int → Prop
  | 0, _, X => X = []
  | k + 1, W, X => ∃ (x : Nat) (Y : List Int), X = (x : Int) :: Y ∧ x < p ∧ okAt p R (W ++ [(x : Int)]) = true ∧ Good p R k (W ++ [(x : Int)]) Y
theorem cnt_pos (p : Nat) (R : List Row3) : ∀ (k : Nat) (W : List Int), 0 < cnt p R k W ↔ ∃ X, Good p R k W X
  | 0, _ => ⟨fun _ => ⟨[], rfl⟩, fun _ => Nat.zero_lt_one⟩
  | k + 1, W => by
    rw [cnt]
    constructor
    · intro h
      obtain ⟨x, hx, h2⟩ := sumN_pos h
      split at h2
      · rename_i hok
        obtain ⟨Y, hY⟩ := (cnt_pos p R k _).1 h2
        exact ⟨x :: Y, x, Y, rfl, hx, hok, hY⟩
      · omega
    · rintro ⟨_, x, Y, rfl, hx, hok, hY⟩
      have h1 := (cnt_pos p R k (W ++ [(x : Int)])).2 ⟨Y, hY⟩
      have h2 := sumN_get (fun x => if okAt p R (W ++ [(x : Int)]) then cnt p R k (W ++ [(x : Int)]) else 0) hx
      simp only [hok, if_true] at h2
      omega
theorem cnt_one (p : Nat) (R : List Row3) : ∀ (k : Nat) (W : List Int), (∀ X Y, Good p R k W X → Good p R k W Y → X = Y) → cnt p R k W ≤ 1
  | 0, _, _ => Nat.le_refl 1
  | k + 1, W, h => by
    by_cases h0 : 0 < cnt p R (k + 1) W
    · have h1 := h0
      rw [cnt] at h1
      obtain ⟨a, ha, h2⟩ := sumN_pos h1
      have hg : ∀ x, x < p → x ≠ a → (if okAt p R (W ++ [(x : Int)]) then cnt p R k (W ++ [(x : Int)]) else 0) = 0 := fun x hx hne => by
        apply Nat.eq_zero_of_not_pos
        intro h3
        split at h2
        · rename_i hok
          split at h3
          · rename_i hok2
            obtain ⟨X, hX⟩ := (cnt_pos p R k _).1 h2
            obtain ⟨Y, hY⟩ := (cnt_pos p R k _).1 h3
            have := h (a :: X) (x :: Y) ⟨a, X, rfl, ha, hok, hX⟩ ⟨x, Y, rfl, hx, hok2, hY⟩
            injection this with this
            omega
          · omega
        · omega
      rw [cnt, sumN_one ha hg]
      split
      · rename_i hok
        exact cnt_one p R k _ fun X Y hX hY => by
          have := h (a :: X) (a :: Y) ⟨a, X, rfl, ha, hok, hX⟩ ⟨a, Y, rfl, ha, hok, hY⟩
          injection this
      · omega
    · omega

/-- A line: base + slope x; what a combination is behind the values W. -/
structure Ln where
  b : Int
  s : Int
def lnAt (p x : Int) (l : Ln) : Int := (l.b + l.s * x) % p
def lnOf (p : Int) (W : List Int) (x : Lin) : Ln := if gtL x = W.length ∧ 0 < W.length then ⟨lval p W x.dropLast, (x.getLast?.getD (0, 0)).2⟩ else ⟨lval p W x, 0⟩
structure Eq3 where
  a : Ln
  b : Ln
  c : Ln
def eqOf (p : Int) (W : List Int) (r : Row3) : Eq3 := ⟨lnOf p W r.a, lnOf p W r.b, lnOf p W r.c⟩
def holdsE (p x : Int) (e : Eq3) : Bool := lnAt p x e.a * lnAt p x e.b % p == lnAt p x e.c
def quadE (e : Eq3) : Bool := e.a.s != 0 && e.b.s != 0
def slopeE (p : Int) (e : Eq3) : Int := (e.a.s * e.b.b + e.b.s * e.a.b + p - e.c.s) % p
def restE (p : Int) (e : Eq3) : Int := (e.c.b + p * p - e.a.b * e.b.b) % p
theorem lin_last {p hi : Int} {x : Lin} (h : LinIn p 0 hi x) (h0 : x ≠ []) : ∃ y t, x = y ++ [t] ∧ (∀ u ∈ y, u.1 < t.1) ∧ 0 ≤ t.1 ∧ t.1 < hi ∧ gtL x = t.1.toNat := by
  obtain ⟨y, t, rfl⟩ : ∃ y t, x = y ++ [t] := ⟨x.dropLast, x.getLast h0, (List.dropLast_concat_getLast h0).symm⟩
  have key : ∀ (y : Lin) (lo : Int), Asc lo (y ++ [t]) → (∀ u ∈ y, u.1 < t.1) ∧ lo ≤ t.1 := by
    intro y
    induction y with
    | nil => exact fun lo h => ⟨fun u hu => (by cases hu), h.1⟩
    | cons u y ih =>
      intro lo h
      obtain ⟨h1, h2⟩ := ih _ h.2
      refine ⟨fun v hv => ?_, by have := h.1; omega⟩
      rcases List.mem_cons.1 hv with rfl | hv
      · omega
      · exact h1 v hv
  obtain ⟨k1, k2⟩ := key y 0 h.2.1
  exact ⟨y, t, rfl, k1, k2, h.2.2 t (by simp), by unfold gtL; simp⟩
/-- The value of a combination whose greatest variable is at most that of the last value. -/
theorem lnOf_val {p hi : Int} (hv : vld p = true) {W : List Int} {x : Lin} (h : LinIn p 0 hi x) (hg : gtL x ≤ W.length) (hW : 0 < W.length) (v : Int) : lval p (W ++ [v]) x = lnAt p v (lnOf p W x) := by
  have hp := vld_pos hv
  by_cases h0 : x = []
  · subst h0
    unfold lnOf
    rw [if_neg (by simp only [gtL, List.getLast?_nil]; omega)]
    show (0 : Int) = (0 + 0 * v) % p
    simp
  · obtain ⟨y, t, rfl, h1, h2, h3, h4⟩ := lin_last h h0
    rw [h4] at hg
    unfold lnAt lnOf
    rw [h4]
    by_cases he : t.1.toNat = W.length
    · rw [if_pos ⟨he, hW⟩]
      simp only [List.dropLast_concat, List.getLast?_append, List.getLast?_singleton, Option.some_or, Option.getD_some]
      rw [lval_lsum hv, lsum_app, lsum_more W [v] (fun u hu => by have := h1 u hu; omega), lsum, lsum, Int.add_zero]
      have hg : gv (W ++ [v]) t.1 = v := by rw [show t.1 = (W.length : Int) by omega]; exact gv_last W v
      rw [hg]
      refine Cg.em ?_
      rw [lval_lsum hv]
      exact (Cg.mod p _).symm.add (Cg.refl p _)
    · rw [if_neg (fun hh => he hh.1), Int.zero_mul, Int.add_zero]
      have hlt : ∀ u ∈ y ++ [t], u.1 < (W.length : Int) := fun u hu => by
        rcases List.mem_append.1 hu with hu | hu
        · have := h1 u hu; omega
        · rw [List.mem_singleton] at hu; subst hu; omega
      rw [lval_lsum hv, lsum_more W [v] hlt, lval_lsum hv, Int.emod_emod_of_dvd _ (Int.dvd_refl _)]
theorem holds_sat {p hi : Int} (hv : vld p = true) {W : List Int} (hW : 0 < W.length) {r : Row3} (h : LinIn p 0 hi r.a ∧ LinIn p 0 hi r.b ∧ LinIn p 0 hi r.c) (hg : gtR r ≤ W.length) (v : Int) : holdsE p v (eqOf p W r) = satB p (W ++ [v]) r := by
  unfold gtR at hg
  unfold holdsE satB eqOf
  simp only
  rw [lnOf_val hv h.1 (by omega) hW, lnOf_val hv h.2.1 (by omega) hW, lnOf_val hv h.2.2 (by omega) hW, fmul_eq hv]
/-- What holds, as a congruence. -/
theorem holds_cg {p x : Int} {e : Eq3} (h : holdsE p x e = true) : Cg p ((e.a.b + e.a.s * x) * (e.b.b + e.b.s * x)) (e.c.b + e.c.s * x) := by
  unfold holdsE lnAt at h
  rw [beq_iff_eq] at h
  have : Cg p ((e.a.b + e.a.s * x) % p * ((e.b.b + e.b.s * x) % p)) ((e.c.b + e.c.s * x) % p) := (Cg.mod p _).symm.trans (Cg.of_eq h)
  exact ((Cg.mod p _).mul (Cg.mod p _)).symm.trans (this.trans (Cg.mod p _))
theorem lin_once {p x v : Int} {e : Eq3} (hq : quadE e = false) (hi : Cg p (slopeE p e * v) 1) (h : holdsE p x e = true) (hx : 0 ≤ x ∧ x < p) : x = restE p e * v % p := by
  have h1 := holds_cg h
  have hss : e.a.s * e.b.s = 0 := by
    unfold quadE at hq
    rw [Bool.and_eq_false_iff] at hq
    rcases hq with hq | hq
    · rw [bne_eq_false_iff_eq.1 hq, Int.zero_mul]
    · rw [bne_eq_false_iff_eq.1 hq, Int.mul_zero]
  have hs : Cg p (slopeE p e) (e.a.s * e.b.b + e.b.s * e.a.b - e.c.s) := (Cg.mod p _).trans ⟨1, by omega⟩
  have hr : Cg p (restE p e) (e.c.b - e.a.b * e.b.b) := (Cg.mod p _).trans ⟨p, by omega⟩
  have h2 : Cg p (slopeE p e * x) (restE p e) := by
    refine (hs.mul (Cg.refl p x)).trans (Cg.trans ?_ hr.symm)
    have h3 := h1.sub (Cg.refl p (e.a.b * e.b.b + e.c.s * x))
    refine (Cg.of_eq ?_).trans (h3.trans (Cg.of_eq ?_))
    · have : e.a.s * x * (e.b.s * x) = 0 := by rw [show e.a.s * x * (e.b.s * x) = e.a.s * e.b.s * (x * x) by grind, hss, Int.zero_mul]
      grind
    · grind
  have h4 : Cg p (restE p e * v) x := by
    refine (h2.symm.mul (Cg.refl p v)).trans ((Cg.of_eq ?_).trans ((hi.mul (Cg.refl p x)).trans (Cg.of_eq (Int.one_mul x))))
    grind
  rw [← h4.symm.em, Int.emod_eq_of_lt hx.1 hx.2]
theorem cg_cancel {p a x : Int} (hv : vld p = true) (ha : 0 < a ∧ a < p) (h : Cg p (a * x) 0) : Cg p x 0 := by
  have hm := mul_inv hv ha.1 ha.2
  have hp := vld_pos hv
  have k : Cg p (a * finv p a) 1 := Cg.of (by rw [hm, Int.emod_eq_of_lt (by omega) (by omega)])
  have h1 : Cg p (finv p a * (a * x)) 0 := ((Cg.refl p (finv p a)).mul h).trans (Cg.of_eq (Int.mul_zero _))
  have h2 : Cg p (finv p a * (a * x)) x := (Cg.of_eq (by grind)).trans ((k.mul (Cg.refl p x)).trans (Cg.of_eq (Int.one_mul x)))
  exact h2.symm.trans h1
/-- A quadratic equation has two solutions at most. -/
theorem quad_twice {p x y z : Int} {e : Eq3} (hv : vld p = true) (ha : 0 < e.a.s ∧ e.a.s < p) (hb : 0 < e.b.s ∧ e.b.s < p) (h1 : holdsE p x e = true) (h2 : holdsE p y e = true) (h3 : holdsE p z e = true)
    (bx : 0 ≤ x ∧ x < p) (yb : 0 ≤ y ∧ y < p) (bz : 0 ≤ z ∧ z < p) (hxy : x ≠ y) (hxz : x ≠ z) : y = z := by
  have c1 := holds_cg h1
  have c2 := holds_cg h2
  have c3 := holds_cg h3
  have part : ∀ u : Int, 0 ≤ u ∧ u < p → x ≠ u → Cg p ((e.a.b + e.a.s * u) * (e.b.b + e.b.s * u)) (e.c.b + e.c.s * u) → Cg p (e.a.s * e.b.s * (x + u) + e.a.s * e.b.b + e.a.b * e.b.s - e.c.s) 0 := fun u bu hu cu => by
    have d := c1.sub cu
    have d2 : Cg p ((x - u) * (e.a.s * e.b.s * (x + u) + e.a.s * e.b.b + e.a.b * e.b.s - e.c.s)) 0 := by
      have := d.sub (Cg.refl p (e.c.s * (x - u)))
      exact (Cg.of_eq (by grind)).trans (this.trans (Cg.of_eq (by grind)))
    rcases Int.lt_or_le u x with hh | hh
    · exact cg_cancel hv ⟨by omega, by omega⟩ d2
    · have d3 : Cg p ((u - x) * (e.a.s * e.b.s * (x + u) + e.a.s * e.b.b + e.a.b * e.b.s - e.c.s)) 0 := by
        have := (Cg.refl p 0).sub d2
        exact (Cg.of_eq (by grind)).trans (this.trans (Cg.of_eq (by omega)))
      exact cg_cancel hv ⟨by omega, by omega⟩ d3
  have e1 := part y yb hxy c2
  have e2 := part z bz hxz c3
  have e3 := e1.sub e2
  have e4 : Cg p (e.a.s * (e.b.s * (y - z))) 0 := (Cg.of_eq (by grind)).trans (e3.trans (Cg.of_eq (by omega)))
  have e5 := cg_cancel hv hb (cg_cancel hv ha e4)
  have e6 : Cg p y z := by
    have := e5.add (Cg.refl p z)
    exact (Cg.of_eq (by omega)).trans (this.trans (Cg.of_eq (by omega)))
  exact e6.eq yb bz
end Go.Proofs.Ytlgjnidphldiiaa
