/- Exhaustive search, plain: the number of assignments; lines and equations; what is linear has one solution, what is quadratic two at most. -/
import Derived.Test.YtalmgeefkcebdaaGreatDoorQ17
namespace Go.Proofs.YtalmgeefkcebdaaGreatDoor
open Go.RowKit

/-- The greatest variable of a combination, of a row. -/
def gtL (x : Lin) : Nat := match x.getLast? with
  | none => 0
  | some t => t.1.toNat
def gtR (r : Row3) : Nat := max (max (gtL r.a) (gtL r.b)) (gtL r.c)
/-- The rows whose greatest variable is v. -/
def rowsAt (R : List Row3) (v : Nat) : List Row3 := R.filter fun r => gtR r == v
def satB (p : Int) (W : List Int) (r : Row3) : Bool := fmul p (lval p W r.a) (lval p W r.b) == lval p W r.c
def okAt (p : Int) (R : List Row3) (W : List Int) : Bool := (rowsAt R (W.length - 1)).all (satB p W)
def sumN : Nat → (Nat → Nat) → Nat
  | 0, _ => 0
  | n + 1, f => sumN n f + f n
/-- The number of continuations of W by k values for which the further rows hold. -/
def cnt (p : Nat) (R : List Row3) : Nat → List Int → Nat
  | 0, _ => 1
  | k + 1, W => sumN p fun x => if okAt p R (W ++ [(x : Int)]) then cnt p R k (W ++ [(x : Int)]) else 0
theorem sumN_congr {n : Nat} {f g : Nat → Nat} (h : ∀ x, x < n → f x = g x) : sumN n f = sumN n g := by
  induction n with
  | zero => rfl
  | succ n ih => rw [sumN, sumN, ih fun x hx => h x (by omega), h n (by omega)]
theorem sumN_const (n c : Nat) : sumN n (fun _ => c) = n * c := by
  induction n with
  | zero => simp [sumN]
  | succ n ih => rw [sumN, ih, Nat.succ_mul]
theorem sumN_zero {n : Nat} {f : Nat → Nat} (h : ∀ x, x < n → f x = 0) : sumN n f = 0 := by
  rw [sumN_congr h, sumN_const, Nat.mul_zero]
theorem sumN_mono {n m : Nat} (f : Nat → Nat) (h : n ≤ m) : sumN n f ≤ sumN m f := by
  induction m with
  | zero => obtain rfl : n = 0 := by omega
            exact Nat.le_refl _
  | succ m ih =>
    by_cases e : n = m + 1
    · subst e; exact Nat.le_refl _
    · rw [sumN]; have := ih (by omega); omega
theorem sumN_rest {n m : Nat} {f : Nat → Nat} (h : n ≤ m) (h0 : ∀ x, n ≤ x → x < m → f x = 0) : sumN m f = sumN n f := by
  induction m with
  | zero => obtain rfl : n = 0 := by omega
            rfl
  | succ m ih =>
    by_cases e : n = m + 1
    · subst e; rfl
    · rw [sumN, ih (by omega) fun x h1 h2 => h0 x h1 (by omega), h0 m (by omega) (by omega), Nat.add_zero]
theorem sumN_one {n : Nat} {f : Nat → Nat} {a : Nat} (ha : a < n) (h : ∀ x, x < n → x ≠ a → f x = 0) : sumN n f = f a := by
  rw [sumN_rest (n := a + 1) (by omega) fun x h1 h2 => h x h2 (by omega), sumN, sumN_zero fun x hx => h x (by omega) (by omega), Nat.zero_add]
/-- Where no row is left, all count. -/
theorem cnt_free (p : Nat) (R : List Row3) : ∀ (k : Nat) (W : List Int), (∀ r ∈ R, gtR r < W.length) → cnt p R k W = p ^ k
  | 0, _, _ => rfl
  | k + 1, W, h => by
    rw [cnt, Nat.pow_succ, Nat.mul_comm, ← sumN_const]
    refine sumN_congr fun x _ => ?_
    have hl : (W ++ [(x : Int)]).length = W.length + 1 := by simp
    rw [if_pos, cnt_free p R k _ fun r hr => by have := h r hr; omega]
    unfold okAt
    rw [List.all_eq_true]
    intro r hr
    unfold rowsAt at hr
    rw [List.mem_filter, beq_iff_eq, hl] at hr
    have := h r hr.1
    omega
/-- A line: base + slope x; what a combination is behind the values W. -/
structure Ln where
  b : Int
  s : Int
def lnAt (p x : Int) (l : Ln) : Int := (l.b + l.s * x) % p
def lnOf (p : Int) (W : List Int) (x : Lin) : Ln := if gtL x = W.length ∧ 0 < W.length then ⟨lval p W x.dropLast, (x.getLast?.getD (0, 0)).2⟩ else ⟨lval p W x, 0⟩
structure Eq3 where
  a : Ln
  b : Ln
  c : Ln
def eqOf (p : Int) (W : List Int) (r : Row3) : Eq3 := ⟨lnOf p W r.a, lnOf p W r.b, lnOf p W r.c⟩
def holdsE (p x : Int) (e : Eq3) : Bool := lnAt p x e.a * lnAt p x e.b % p == lnAt p x e.c
def quadE (e : Eq3) : Bool := e.a.s != 0 && e.b.s != 0
def slopeE (p : Int) (e : Eq3) : Int := (e.a.s * e.b.b + e.b.s * e.a.b + p - e.c.s) % p
def restE (p : Int) (e : Eq3) : Int := (e.c.b + p * p - e.a.b * e.b.b) % p
theorem lin_last {p hi : Int} {x : Lin} (h : LinIn p 0 hi x) (h0 : x ≠ []) : ∃ y t, x = y ++ [t] ∧ (∀ u ∈ y, u.1 < t.1) ∧ 0 ≤ t.1 ∧ t.1 < hi ∧ gtL x = t.1.toNat := by
  obtain ⟨y, t, rfl⟩ : ∃ y t, x = y ++ [t] := ⟨x.dropLast, x.getLast h0, (List.dropLast_concat_getLast h0).symm⟩
  have key : ∀ (y : Lin) (lo : Int), Asc lo (y ++ [t]) → (∀ u ∈ y, u.1 < t.1) ∧ lo ≤ t.1 := by
    intro y
    induction y with
    | nil => exact fun lo h => ⟨fun u hu => (by cases hu), h.1⟩
    | cons u y ih =>
      intro lo h
      obtain ⟨h1, h2⟩ := ih _ h.2
      refine ⟨fun v hv => ?_, by have := h.1; omega⟩
      rcases List.mem_cons.1 hv with rfl | hv
      · omega
      · exact h1 v hv
  obtain ⟨k1, k2⟩ := key y 0 h.2.1
  exact ⟨y, t, rfl, k1, k2, h.2.2 t (by simp), by unfold gtL; simp⟩
/-- The value of a combination whose greatest variable is at most that of the last value. -/
theorem lnOf_val {p hi : Int} (hv : vld p = true) {W : List Int} {x : Lin} (h : LinIn p 0 hi x) (hg : gtL x ≤ W.length) (hW : 0 < W.length) (v : Int) : lval p (W ++ [v]) x = lnAt p v (lnOf p W x) := by
  have hp := vld_pos hv
  by_cases h0 : x = []
  · subst h0
    unfold lnOf
    rw [if_neg (by simp only [gtL, List.getLast?_nil]; omega)]
    show (0 : Int) = (0 + 0 * v) % p
    simp
  · obtain ⟨y, t, rfl, h1, h2, h3, h4⟩ := lin_last h h0
    rw [h4] at hg
    unfold lnAt lnOf
    rw [h4]
    by_cases he : t.1.toNat = W.length
    · rw [if_pos ⟨he, hW⟩]
      simp only [List.dropLast_concat, List.getLast?_append, List.getLast?_singleton, Option.some_or, Option.getD_some]
      rw [lval_lsum hv, lsum_app, lsum_more W [v] (fun u hu => by have := h1 u hu; omega), lsum, lsum, Int.add_zero]
      have hg : gv (W ++ [v]) t.1 = v := by rw [show t.1 = (W.length : Int) by omega]; exact gv_last W v
      rw [hg]
      refine Cg.em ?_
      rw [lval_lsum hv]
      exact (Cg.mod p _).symm.add (Cg.refl p _)
    · rw [if_neg (fun hh => he hh.1), Int.zero_mul, Int.add_zero]
      have hlt : ∀ u ∈ y ++ [t], u.1 < (W.length : Int) := fun u hu => by
        rcases List.mem_append.1 hu with hu | hu
        · have := h1 u hu; omega
        · rw [List.mem_singleton] at hu; subst hu; omega
      rw [lval_lsum hv, lsum_more W [v] hlt, lval_lsum hv, Int.emod_emod_of_dvd _ (Int.dvd_refl _)]
theorem holds_sat {p hi : Int} (hv : vld p = true) {W : List Int} (hW : 0 < W.length) {r : Row3} (h : LinIn p 0 hi r.a ∧ LinIn p 0 hi r.b ∧ LinIn p 0 hi r.c) (hg : gtR r ≤ W.length) (v : Int) : holdsE p v (eqOf p W r) = satB p (W ++ [v]) r := by
  unfold gtR at hg
  unfold holdsE satB eqOf
  simp only
  rw [lnOf_val hv h.1 (by omega) hW, lnOf_val hv h.2.1 (by omega) hW, lnOf_val hv h.2.2 (by omega) hW, fmul_eq hv]
/-- What holds, as a congruence. -/
theorem holds_cg {p x : Int} {e : Eq3} (h : holdsE p x e = true) : Cg p ((e.a.b + e.a.s * x) * (e.b.b + e.b.s * x)) (e.c.b + e.c.s * x) := by
  unfold holdsE lnAt at h
  rw [beq_iff_eq] at h
  have : Cg p ((e.a.b + e.a.s * x) % p * ((e.b.b + e.b.s * x) % p)) ((e.c.b + e.c.s * x) % p) := (Cg.mod p _).symm.trans (Cg.of_eq h)
  exact ((Cg.mod p _).mul (Cg.mod p _)).symm.trans (this.trans (Cg.mod p _))
theorem lin_once {p x v : Int} {e : Eq3} (hq : quadE e = false) (hi : Cg p (slopeE p e * v) 1) (h : holdsE p x e = true) (hx : 0 ≤ x ∧ x < p) : x = restE p e * v % p := by
  have h1 := holds_cg h
  have hss : e.a.s * e.b.s = 0 := by
    unfold quadE at hq
    rw [Bool.and_eq_false_iff] at hq
    rcases hq with hq | hq
    · rw [bne_eq_false_iff_eq.1 hq, Int.zero_mul]
    · rw [bne_eq_false_iff_eq.1 hq, Int.mul_zero]
  have hs : Cg p (slopeE p e) (e.a.s * e.b.b + e.b.s * e.a.b - e.c.s) := (Cg.mod p _).trans ⟨1, by omega⟩
  have hr : Cg p (restE p e) (e.c.b - e.a.b * e.b.b) := (Cg.mod p _).trans ⟨p, by omega⟩
  have h2 : Cg p (slopeE p e * x) (restE p e) := by
    refine (hs.mul (Cg.refl p x)).trans (Cg.trans ?_ hr.symm)
    have h3 := h1.sub (Cg.refl p (e.a.b * e.b.b + e.c.s * x))
    refine (Cg.of_eq ?_).trans (h3.trans (Cg.of_eq ?_))
    · have : e.a.s * x * (e.b.s * x) = 0 := by rw [show e.a.s * x * (e.b.s * x) = e.a.s * e.b.s * (x * x) by grind, hss, Int.zero_mul]
      grind
    · grind
  have h4 : Cg p (restE p e * v) x := by
    refine (h2.symm.mul (Cg.refl p v)).trans ((Cg.of_eq ?_).trans ((hi.mul (Cg.refl p x)).trans (Cg.of_eq (Int.one_mul x))))
    grind
  rw [← h4.symm.em, Int.emod_eq_of_lt hx.1 hx.2]
theorem cg_cancel {p a x : Int} (hv : vld p = true) (ha : 0 < a ∧ a < p) (h : Cg p (a * x) 0) : Cg p x 0 := by
  have hm := mul_inv hv ha.1 ha.2
  have hp := vld_pos hv
  have k : Cg p (a * finv p a) 1 := Cg.of (by rw [hm, Int.emod_eq_of_lt (by omega) (by omega)])
  have h1 : Cg p (finv p a * (a * x)) 0 := ((Cg.refl p (finv p a)).mul h).trans (Cg.of_eq (Int.mul_zero _))
  have h2 : Cg p (finv p a * (a * x)) x := (Cg.of_eq (by grind)).trans ((k.mul (Cg.refl p x)).trans (Cg.of_eq (Int.one_mul x)))
  exact h2.symm.trans h1
/-- A quadratic equation has two solutions at most. -/
theorem quad_twice {p x y z : Int} {e : Eq3} (hv : vld p = true) (ha : 0 < e.a.s ∧ e.a.s < p) (hb : 0 < e.b.s ∧ e.b.s < p) (h1 : holdsE p x e = true) (h2 : holdsE p y e = true) (h3 : holdsE p z e = true)
    (bx : 0 ≤ x ∧ x < p) (yb : 0 ≤ y ∧ y < p) (bz : 0 ≤ z ∧ z < p) (hxy : x ≠ y) (hxz : x ≠ z) : y = z := by
  have c1 := holds_cg h1
  have c2 := holds_cg h2
  have c3 := holds_cg h3
  have part : ∀ u : Int, 0 ≤ u ∧ u < p → x ≠ u → Cg p ((e.a.b + e.a.s * u) * (e.b.b + e.b.s * u)) (e.c.b + e.c.s * u) → Cg p (e.a.s * e.b.s * (x + u) + e.a.s * e.b.b + e.a.b * e.b.s - e.c.s) 0 := fun u bu hu cu => by
    have d := c1.sub cu
    have d2 : Cg p ((x - u) * (e.a.s * e.b.s * (x + u) + e.a.s * e.b.b + e.a.b * e.b.s - e.c.s)) 0 := by
      have := d.sub (Cg.refl p (e.c.s * (x - u)))
      exact (Cg.of_eq (by grind)).trans (this.trans (Cg.of_eq (by grind)))
    rcases Int.lt_or_le u x with hh | hh
    · exact cg_cancel hv ⟨by omega, by omega⟩ d2
    · have d3 : Cg p ((u - x) * (e.a.s * e.b.s * (x + u) + e.a.s * e.b.b + e.a.b * e.b.s - e.c.s)) 0 := by
        have := (Cg.refl p 0).sub d2
        exact (Cg.of_eq (by grind)).trans (this.trans (Cg.of_eq (by omega)))
      exact cg_cancel hv ⟨by omega, by omega⟩ d3
  have e1 := part y yb hxy c2
  have e2 := part z bz hxz c3
  have e3 := e1.sub e2
  have e4 : Cg p (e.a.s * (e.b.s * (y - z))) 0 := (Cg.of_eq (by grind)).trans (e3.trans (Cg.of_eq (by omega)))
  have e5 := cg_cancel hv hb (cg_cancel hv ha e4)
  have e6 : Cg p y z := by
    have := e5.add (Cg.refl p z)
    exact (Cg.of_eq (by omega)).trans (this.trans (Cg.of_eq (by omega)))
  exact e6.eq yb bz
end Go.Proofs.YtalmgeefkcebdaaGreatDoor

/- Exhaustive search: lines and equations of the program; greatest, last, power. -/
namespace Go.Proofs.YtalmgeefkcebdaaGreatDoor
open Go.RowKit

set_option maxHeartbeats 1000000 in
theorem greatest_any (x : Lc) (hi : Int) (w : World) (hx : LcOk w x) (hb : ∀ t ∈ x.l, 0 ≤ t.1 ∧ t.1 < hi) (hl : x.l.length ≤ 1000000000) :
    Calls Tryz.prog 82 #[.slice x.ad x.l.length x.cap] w fun e w' => e = .returned (.int .i64 (gtL x.l)) ∧ Below w.heap.size w w' := by
  by_cases h0 : x.l = []
  · have e : gtL x.l = 0 := by rw [h0]; rfl
    have hz : ((x.l.length : Int) == 0) = true := by rw [h0]; rfl
    rw [e]
    go_enter Tryz.func82, Tryz.ntmps82
    go_wp2
    go_ret
    exact ⟨rfl, Below.refl _ _⟩
  · have hlen : 0 < x.l.length := List.length_pos_iff.2 h0
    have hz : ((x.l.length : Int) == 0) = false := by rw [beq_eq_false_iff_ne]; omega
    obtain ⟨b, off, e2, _, hc⟩ := hx.sl hlen
    obtain ⟨n, hn⟩ : ∃ n, n + 1 = x.l.length := ⟨x.l.length - 1, by omega⟩
    have c0 := (hc n (by omega)).1
    have hg : x.l.getLast? = some (x.l.getD n (0, 0)) := by
      rw [List.getLast?_eq_getElem?, show x.l.length - 1 = n by omega, List.getD_eq_getElem?_getD, List.getElem?_eq_getElem (by omega)]
      rfl
    have hb2 := hb _ (getD_mem' (i := n) (by omega) (0, 0))
    have hgt : (gtL x.l : Int) = (x.l.getD n (0, 0)).1 := by
      unfold gtL
      rw [hg]
      show (((x.l.getD n (0, 0)).1).toNat : Int) = _
      omega
    rw [hgt]
    generalize (x.l.getD n (0, 0)).1 = v at *
    obtain ⟨ad, cap, l⟩ := x
    simp only at *
    subst e2
    have hn2 : (l.length : Int) - 1 = n := by omega
    have hn3 : (n : Int) < l.length := by omega
    have hlm : (l.length : Int) ≤ 1000000000 := by omega
    have hwr : IntKind.i64.wrap ((l.length : Int) - 1) = n := by rw [IntKind.wrap_i64]; omega
    have hl1 : 1 ≤ (l.length : Int) := by omega
    replace hn := hide hn
    clear hc hx hb hg hgt hl h0
    go_enter Tryz.func82, Tryz.ntmps82
    go_wp2
    go_ret
    exact ⟨rfl, Below.refl _ _⟩

theorem lnAt_bd {p x : Int} (hp : 0 < p) (l : Ln) : 0 ≤ lnAt p x l ∧ lnAt p x l < p := mod_lt' hp _
set_option maxHeartbeats 1000000 in
theorem lnAt_any (p x b s : Int) (w : World) (hp : 0 < p ∧ p ≤ 257) (hb : 0 ≤ b ∧ b < p) (hs : 0 ≤ s ∧ s < p) (hx : 0 ≤ x ∧ x < p) :
    Calls Tryz.prog 195 #[.agg #[.int .u64 b, .int .u64 s], .int .u64 x, .int .u64 p] w fun e w' => e = .returned (.int .u64 (lnAt p x ⟨b, s⟩)) ∧ Below w.heap.size w w' := by
  have h1 : 0 ≤ s * x := Int.mul_nonneg hs.1 hx.1
  have h2 : s * x ≤ 257 * 257 := Int.mul_le_mul (by omega) (by omega) hx.1 (by decide)
  obtain ⟨hp0, hp1⟩ := hp
  obtain ⟨hb0, hb1⟩ := hb
  have hw1 : IntKind.u64.wrap (s * x) = s * x := by rw [IntKind.wrap_u64]; omega
  have hw2 : IntKind.u64.wrap (b + s * x) = b + s * x := by rw [IntKind.wrap_u64]; omega
  have ht : (b + s * x).tmod p = (b + s * x) % p := Int.tmod_eq_emod_of_nonneg (by omega)
  have hp2 : (p == 0) = false := by rw [beq_eq_false_iff_ne]; omega
  have hge : 0 ≤ b + s * x := by omega
  clear hs hx
  go_enter Tryz.func195, Tryz.ntmps195
  go_wp2
  go_ret
  exact ⟨rfl, (Below.refl _ _).alloc (Nat.le_refl _) _⟩

/-- An equation whose numbers are reduced. -/
structure EqB (p : Int) (e : Eq3) : Prop where
  ga : 0 ≤ e.a.b ∧ e.a.b < p
  sa : 0 ≤ e.a.s ∧ e.a.s < p
  gb : 0 ≤ e.b.b ∧ e.b.b < p
  sb : 0 ≤ e.b.s ∧ e.b.s < p
  gc : 0 ≤ e.c.b ∧ e.c.b < p
  sc : 0 ≤ e.c.s ∧ e.c.s < p
theorem mul_bd {p a b : Int} (hp : 0 < p ∧ p ≤ 257) (ha : 0 ≤ a ∧ a < p) (hb : 0 ≤ b ∧ b < p) : 0 ≤ a * b ∧ a * b ≤ 66049 :=
  ⟨Int.mul_nonneg ha.1 hb.1, (show a * b ≤ 257 * 257 from Int.mul_le_mul (by omega) (by omega) hb.1 (by decide))⟩
set_option maxHeartbeats 2000000 in
theorem holds_any (p x : Int) (e : Eq3) (w : World) (hp : 0 < p ∧ p ≤ 257) (he : EqB p e) (hx : 0 ≤ x ∧ x < p) :
    Calls Tryz.prog 139 #[.agg #[.int .u64 e.a.b, .int .u64 e.a.s, .int .u64 e.b.b, .int .u64 e.b.s, .int .u64 e.c.b, .int .u64 e.c.s], .int .u64 x, .int .u64 p] w fun en w' => en = .returned (.bool (holdsE p x e)) ∧ Below w.heap.size w w' := by
  have ca := fun W => lnAt_any p x e.a.b e.a.s W hp he.ga he.sa hx
  have cb := fun W => lnAt_any p x e.b.b e.b.s W hp he.gb he.sb hx
  have cc := fun W => lnAt_any p x e.c.b e.c.s W hp he.gc he.sc hx
  have ba := lnAt_bd hp.1 (x := x) e.a
  have bb := lnAt_bd hp.1 (x := x) e.b
  obtain ⟨⟨a0, a1⟩, ⟨b0, b1⟩, ⟨c0, c1⟩⟩ := e
  unfold holdsE
  simp only at *
  generalize lnAt p x ⟨a0, a1⟩ = A at *
  generalize lnAt p x ⟨b0, b1⟩ = B at *
  generalize lnAt p x ⟨c0, c1⟩ = C at *
  have hm := mul_bd hp ba bb
  have hw : IntKind.u64.wrap (A * B) = A * B := by rw [IntKind.wrap_u64]; omega
  have ht : (A * B).tmod p = A * B % p := Int.tmod_eq_emod_of_nonneg hm.1
  have hp2 : (p == 0) = false := by rw [beq_eq_false_iff_ne]; omega
  obtain ⟨hm1, hm2⟩ := hm
  clear he ba bb
  go_enter Tryz.func139, Tryz.ntmps139
  go_wp2_with fail
  refine name_world fun w2 hN => ?_
  have g : Blk w2 w.heap.size #[.int .u64 a0, .int .u64 a1, .int .u64 b0, .int .u64 b1, .int .u64 c0, .int .u64 c1] 224 := by rw [hN]; exact Blk.newAt rfl
  have hB : Below w.heap.size w w2 := by rw [hN]; exact (Below.refl _ _).alloc (Nat.le_refl _) _
  clear hN
  have k0 := cell_later' (g.cell (j := 0) (v := .int .u64 a0) rfl)
  have k1 := cell_later' (g.cell (j := 1) (v := .int .u64 a1) rfl)
  have k2 := cell_later' (g.cell (j := 2) (v := .int .u64 b0) rfl)
  have k3 := cell_later' (g.cell (j := 3) (v := .int .u64 b1) rfl)
  have k4 := cell_later' (g.cell (j := 4) (v := .int .u64 c0) rfl)
  have k5 := cell_later' (g.cell (j := 5) (v := .int .u64 c1) rfl)
  refine wp_region_later Tryz.mixed (by kernel_rfl) ?_
  repeat (first | go_big_quiet_step (first | (go_at_call_of 195 a1; exact Calls.later_of (ca _)) | (go_at_call_of 195 b1; exact Calls.later_of (cb _)) | (go_at_call_of 195 c1; exact Calls.later_of (cc _))) | quiet_step (first | (go_at_call_of 195 a1; exact Calls.later_of (ca _)) | (go_at_call_of 195 b1; exact Calls.later_of (cb _)) | (go_at_call_of 195 c1; exact Calls.later_of (cc _))))
  refine wpQuiet_nil ?_
  intro w3 hb3
  replace hb3 := below_of_later hb3
  go_wp2
  go_ret
  exact ⟨rfl, below2 hB hb3⟩
set_option maxHeartbeats 1000000 in
theorem isQuad_any (e : Eq3) (w : World) :
    Calls Tryz.prog 144 #[.agg #[.int .u64 e.a.b, .int .u64 e.a.s, .int .u64 e.b.b, .int .u64 e.b.s, .int .u64 e.c.b, .int .u64 e.c.s]] w fun en w' => en = .returned (.bool (quadE e)) ∧ Below w.heap.size w w' := by
  unfold quadE
  by_cases h : e.a.s = 0
  · have h1 : (e.a.s != 0) = false := by rw [h]; rfl
    rw [h1]
    go_enter Tryz.func144, Tryz.ntmps144
    go_wp2
    go_ret
    exact ⟨rfl, (Below.refl _ _).alloc (Nat.le_refl _) _⟩
  · have h1 : (e.a.s != 0) = true := by simpa using h
    rw [h1, Bool.true_and]
    go_enter Tryz.func144, Tryz.ntmps144
    go_wp2
    go_ret
    exact ⟨rfl, (Below.refl _ _).alloc (Nat.le_refl _) _⟩
set_option maxHeartbeats 2000000 in
theorem linear_any (p : Int) (e : Eq3) (w : World) (hp : 0 < p ∧ p ≤ 257) (he : EqB p e) :
    Calls Tryz.prog 142 #[.agg #[.int .u64 e.a.b, .int .u64 e.a.s, .int .u64 e.b.b, .int .u64 e.b.s, .int .u64 e.c.b, .int .u64 e.c.s], .int .u64 p] w fun en w' => en = .returned (if quadE e then .tuple #[.int .u64 0, .int .u64 0, .bool false] else .tuple #[.int .u64 (slopeE p e), .int .u64 (restE p e), .bool (slopeE p e != 0)]) ∧ Below w.heap.size w w' := by
  have cQ := fun W => isQuad_any e W
  cases hq : quadE e with
  | true =>
    rw [hq] at cQ
    rw [if_pos rfl]
    go_enter Tryz.func142, Tryz.ntmps142
    go_wp2_with fail
    refine (cQ _).mono ?_
    rintro en w2 ⟨rfl, hb⟩
    go_wp2
    go_ret3
    exact ⟨rfl, ((Below.refl w.heap.size w).alloc (Nat.le_refl _) _).trans (hb.mono (by simp))⟩
  | false =>
    rw [hq] at cQ
    rw [if_neg (by decide)]
    obtain ⟨⟨a0, a1⟩, ⟨b0, b1⟩, ⟨c0, c1⟩⟩ := e
    obtain ⟨ga, sa, gb, sb, gc, sc⟩ := he
    simp only at *
    have m1 := mul_bd hp sa gb
    have m2 := mul_bd hp sb ga
    have m3 := mul_bd hp ga gb
    have m4 : 0 ≤ p * p ∧ p * p ≤ 66049 ∧ a0 * b0 ≤ p * p := ⟨Int.mul_nonneg (by omega) (by omega), (show p * p ≤ 257 * 257 from Int.mul_le_mul (by omega) (by omega) (by omega) (by decide)), (show a0 * b0 ≤ p * p from Int.mul_le_mul (by omega) (by omega) gb.1 (by omega))⟩
    have w1 : IntKind.u64.wrap (a1 * b0) = a1 * b0 := by rw [IntKind.wrap_u64]; omega
    have w2 : IntKind.u64.wrap (b1 * a0) = b1 * a0 := by rw [IntKind.wrap_u64]; omega
    have w3 : IntKind.u64.wrap (a1 * b0 + b1 * a0) = a1 * b0 + b1 * a0 := by rw [IntKind.wrap_u64]; omega
    have w4 : IntKind.u64.wrap (a1 * b0 + b1 * a0 + p) = a1 * b0 + b1 * a0 + p := by rw [IntKind.wrap_u64]; omega
    have w5 : IntKind.u64.wrap (a1 * b0 + b1 * a0 + p - c1) = a1 * b0 + b1 * a0 + p - c1 := by rw [IntKind.wrap_u64]; omega
    have t1 : (a1 * b0 + b1 * a0 + p - c1).tmod p = (a1 * b0 + b1 * a0 + p - c1) % p := Int.tmod_eq_emod_of_nonneg (by omega)
    have w6 : IntKind.u64.wrap (p * p) = p * p := by rw [IntKind.wrap_u64]; omega
    have w7 : IntKind.u64.wrap (c0 + p * p) = c0 + p * p := by rw [IntKind.wrap_u64]; omega
    have w8 : IntKind.u64.wrap (a0 * b0) = a0 * b0 := by rw [IntKind.wrap_u64]; omega
    have w9 : IntKind.u64.wrap (c0 + p * p - a0 * b0) = c0 + p * p - a0 * b0 := by rw [IntKind.wrap_u64]; omega
    have t2 : (c0 + p * p - a0 * b0).tmod p = (c0 + p * p - a0 * b0) % p := Int.tmod_eq_emod_of_nonneg (by omega)
    have hp2 : (p == 0) = false := by rw [beq_eq_false_iff_ne]; omega
    have g1 : 0 ≤ a1 * b0 + b1 * a0 + p - c1 := by omega
    have g2 : 0 ≤ c0 + p * p - a0 * b0 := by omega
    obtain ⟨hp0, hp1⟩ := hp
    unfold slopeE restE
    simp only
    go_enter Tryz.func142, Tryz.ntmps142
    go_wp2_with fail
    refine (cQ _).mono ?_
    rintro en w10 ⟨rfl, hb⟩
    have hA : Below w.heap.size w (w.alloc (.cells #[.int .u64 a0, .int .u64 a1, .int .u64 b0, .int .u64 b1, .int .u64 c0, .int .u64 c1] 224)) := (Below.refl w.heap.size w).alloc (Nat.le_refl _) _
    have g : Blk w10 w.heap.size #[.int .u64 a0, .int .u64 a1, .int .u64 b0, .int .u64 b1, .int .u64 c0, .int .u64 c1] 224 := (Blk.new _ _ _).mono hb
    have k0 := g.cell (j := 0) (v := .int .u64 a0) rfl
    have k1 := g.cell (j := 1) (v := .int .u64 a1) rfl
    have k2 := g.cell (j := 2) (v := .int .u64 b0) rfl
    have k3 := g.cell (j := 3) (v := .int .u64 b1) rfl
    have k4 := g.cell (j := 4) (v := .int .u64 c0) rfl
    have k5 := g.cell (j := 5) (v := .int .u64 c1) rfl
    have hB := below2 hA hb
    clear hA hb g cQ m1 m2 m3 m4 ga sa gb sb gc sc
    go_wp2
    go_ret3
    exact ⟨rfl, hB⟩

/-- p^n, but at most a limit. -/
def powL (p : Nat) (n : Nat) (most : Int) : Int := min ((p ^ n : Nat) : Int) most
theorem powL_top {p n i : Nat} {most : Int} (hp : 0 < p) (hi : i ≤ n) (h : most ≤ ((p ^ i : Nat) : Int)) : powL p n most = most := by
  have : p ^ i ≤ p ^ n := Nat.pow_le_pow_right hp hi
  unfold powL
  omega
set_option maxHeartbeats 2000000 in
theorem power_any (p n : Nat) (most : Int) (w : World) (hp : 2 ≤ p ∧ p ≤ 257) (hn : n ≤ 70000) (hm : 0 ≤ most ∧ most ≤ 9223372036854775807) :
    Calls Tryz.prog 141 #[.int .u64 p, .int .i64 n, .int .i64 most] w fun en w' => en = .returned (.int .i64 (powL p n most)) ∧ w' = w := by
  obtain ⟨hm0, hm1⟩ := hm
  obtain ⟨q, hq⟩ : ∃ q : Int, q = (p : Int) := ⟨_, rfl⟩
  have hq1 : 2 ≤ q ∧ q ≤ 257 := by omega
  have hd := Int.emod_add_mul_ediv most q
  have hd2 := mod_lt' (show 0 < q by omega) most
  obtain ⟨D, hD⟩ : ∃ D, D = most / q := ⟨_, rfl⟩
  have ht : most.tdiv q = D := by rw [Int.tdiv_eq_ediv_of_nonneg hm0, hD]
  rw [← hD] at hd
  obtain ⟨r0, hr0⟩ : ∃ r0, r0 = most % q := ⟨_, rfl⟩
  rw [← hr0] at hd hd2
  have hDb : 0 ≤ D ∧ D ≤ most := by rw [hD]; exact ⟨Int.ediv_nonneg hm0 (by omega), Int.ediv_le_self _ hm0⟩
  have hq0 : (q == 0) = false := by rw [beq_eq_false_iff_ne]; omega
  have hwq : IntKind.i64.wrap q = q := by rw [IntKind.wrap_i64]; omega
  rw [← hq]
  replace hd := hide hd
  replace hr0 := hide hr0
  replace hq := hide hq
  obtain ⟨hDb0, hDb1⟩ := hDb
  obtain ⟨hq2, hq3⟩ := hq1
  clear hD hd2
  have hd3 : Hid (0 ≤ r0 ∧ r0 < q) := hide (by rw [hr0.out]; exact mod_lt' (by omega) most)
  go_enter Tryz.func141, Tryz.ntmps141
  go_wp2_with fail
  go_loop [1, 7] (fun t1 t7 => ∃ i : Nat, i ≤ n ∧ t1 = .int .i64 ((n : Int) - i) ∧ ∃ r : Int, t7 = .int .i64 r ∧ 1 ≤ r ∧ Hid (r = ((p ^ i : Nat) : Int)) ∧ Hid (i = 0 ∨ r ≤ most)) (fun t1 _ => (intOf t1).toNat)
  case atStart => exact ⟨0, Nat.zero_le _, by simp, 1, rfl, by decide, hide (by simp), hide (.inl rfl)⟩
  case round =>
    obtain ⟨i, hi, rfl, r, rfl, hr1, hr, hri⟩ := hrel
    have hni : (i : Int) ≤ n := by omega
    by_cases hlt : i < n
    · have hlt' : (0 : Int) < (n : Int) - i := by omega
      have hlt2 : decide ((0 : Int) < (n : Int) - i) = true := by simpa using hlt'
      by_cases hrm : r < most
      · by_cases hrd : D < r
        · have hfin : Hid (powL p n most = most) := hide (powL_top (i := i + 1) (by omega) (by omega) (by
            have h1 := hr.out
            have h2 := hd.out
            have h3 := hd3.out
            have h4 : q * (D + 1) ≤ q * r := Int.mul_le_mul_of_nonneg_left (by omega) (by omega)
            rw [Int.mul_add, Int.mul_one] at h4
            rw [Nat.pow_succ, Int.natCast_mul, ← h1, ← hq.out, Int.mul_comm r q]
            omega))
          go_wp2
          go_ret
          exact ⟨congrArg (fun x => Ending.returned (.int .i64 x)) hfin.out.symm, rfl⟩
        · have hrq : r * q ≤ most := by
            have h2 := hd.out
            have h3 := hd3.out
            have h4 : q * r ≤ q * D := Int.mul_le_mul_of_nonneg_left (by omega) (by omega)
            rw [Int.mul_comm r q]
            omega
          have hrq1 : 1 ≤ r * q := by
            have : 1 * 1 ≤ r * q := Int.mul_le_mul hr1 (by omega) (by decide) (by omega)
            omega
          have hw : IntKind.i64.wrap (r * q) = r * q := by rw [IntKind.wrap_i64]; omega
          have hnx : Hid (r * q = ((p ^ (i + 1) : Nat) : Int)) := hide (by rw [Nat.pow_succ, Int.natCast_mul, ← hr.out, ← hq.out])
          go_wp2
          go_round
          case rel => exact ⟨i + 1, by omega, by go_num, r * q, rfl, hrq1, hnx, hide (.inr hrq)⟩
          case measure => simp [intOf]; omega
      · have hfin : Hid (min r most = powL p n most) := hide (by
          rw [powL_top (i := i) (by omega) hi (by rw [← hr.out]; omega)]
          omega)
        go_wp2
        go_ret
        exact ⟨congrArg (fun x => Ending.returned (.int .i64 x)) hfin.out, rfl⟩
    · obtain rfl : i = n := by omega
      have hfin : Hid (min r most = powL p i most) := hide (by unfold powL; rw [hr.out])
      go_wp2
      go_ret
      exact ⟨congrArg (fun x => Ending.returned (.int .i64 x)) hfin.out, rfl⟩
end Go.Proofs.YtalmgeefkcebdaaGreatDoor

/- Exhaustive search: lists of equations; inverses. -/
namespace Go.Proofs.YtalmgeefkcebdaaGreatDoor
open Go.RowKit

instance : Inhabited Eq3 := ⟨⟨⟨0, 0⟩, ⟨0, 0⟩, ⟨0, 0⟩⟩⟩
def eqL : Lay Eq3 := ⟨fun e => [.int .u64 e.a.b, .int .u64 e.a.s, .int .u64 e.b.b, .int .u64 e.b.s, .int .u64 e.c.b, .int .u64 e.c.s], 6, fun _ => rfl, by decide, fun x u hu => by
  simp only [List.mem_cons, List.not_mem_nil, or_false] at hu
  rcases hu with rfl | rfl | rfl | rfl | rfl | rfl <;> rfl⟩
theorem eq_cells {w : World} {ad : Option Addr} {es : List Eq3} (h : SlG eqL w ad es) {i : Nat} (hi : i < es.length) : ∃ b off, ad = some ⟨b, off, none⟩ ∧ b < w.heap.size ∧
    w.cell? ⟨b, off + i * 6, none⟩ = some (.int .u64 (es.getD i default).a.b) ∧ w.cell? ⟨b, off + i * 6 + 1, none⟩ = some (.int .u64 (es.getD i default).a.s) ∧ w.cell? ⟨b, off + i * 6 + 2, none⟩ = some (.int .u64 (es.getD i default).b.b) ∧
    w.cell? ⟨b, off + i * 6 + 3, none⟩ = some (.int .u64 (es.getD i default).b.s) ∧ w.cell? ⟨b, off + i * 6 + 4, none⟩ = some (.int .u64 (es.getD i default).c.b) ∧ w.cell? ⟨b, off + i * 6 + 5, none⟩ = some (.int .u64 (es.getD i default).c.s) := by
  obtain ⟨b, off, e, hl, hc⟩ := h (by omega)
  exact ⟨b, off, e, hl, SlG.at_ (j := 0) default hc hi (by decide) rfl, SlG.at_ (j := 1) default hc hi (by decide) rfl, SlG.at_ (j := 2) default hc hi (by decide) rfl, SlG.at_ (j := 3) default hc hi (by decide) rfl, SlG.at_ (j := 4) default hc hi (by decide) rfl, SlG.at_ (j := 5) default hc hi (by decide) rfl⟩
theorem SlG.mono' {α : Type} {L : Lay α} {w w' : World} {a : Option Addr} {xs : List α} (h : SlG L w a xs) (hb : Below w.heap.size w w') : SlG L w' a xs := h.mono hb

set_option maxRecDepth 10000 in
set_option maxHeartbeats 4000000 in
theorem allHold_any (p x : Int) (ad : Option Addr) (c : Nat) (es : List Eq3) (w : World) (hp : 0 < p ∧ p ≤ 257) (hs : SlG eqL w ad es) (he : ∀ e ∈ es, EqB p e) (hx : 0 ≤ x ∧ x < p) (hl : es.length ≤ 1000000) :
    Calls Tryz.prog 83 #[.slice ad es.length c, .int .u64 x, .int .u64 p] w fun en w' => en = .returned (.bool (es.all (holdsE p x))) ∧ Below w.heap.size w w' := by
  replace he := hide he
  go_enter Tryz.func83, Tryz.ntmps83
  go_wp2_with fail
  go_loopw [11] (fun t11 wr => ∃ i : Nat, i ≤ es.length ∧ t11 = .int .i64 i ∧ Below w.heap.size w wr ∧ Hid (∀ k, k < i → holdsE p x (es.getD k default) = true)) (fun t11 _ => es.length - (intOf t11).toNat)
  case atStart => exact ⟨0, Nat.zero_le _, rfl, Below.refl _ _, hide fun k hk => absurd hk (by omega)⟩
  case round =>
    obtain ⟨i, hi, rfl, hb, hk⟩ := hrel
    by_cases hlt : i < es.length
    · have hlt' : (i : Int) < es.length := by omega
      obtain ⟨b, off, rfl, _, c0, c1, c2, c3, c4, c5⟩ := eq_cells (hs.mono' hb) hlt
      have heb := he.out _ (getD_mem' hlt default)
      have hkn : Hid (∀ v, v = holdsE p x (es.getD i default) → v = true → ∀ k, k < i + 1 → holdsE p x (es.getD k default) = true) := hide fun v hv hvt k hk2 => by
        by_cases e : k = i
        · subst e; rw [← hv, hvt]
        · exact hk.out k (by omega)
      have hno : Hid (∀ v, v = holdsE p x (es.getD i default) → v = false → es.all (holdsE p x) = false) := hide fun v hv hvf => by
        rw [List.all_eq_false]
        exact ⟨_, getD_mem' hlt default, by rw [← hv, hvf]; decide⟩
      have cH := fun W => holds_any p x (es.getD i default) W hp heb hx
      obtain ⟨v, hv⟩ : ∃ v, v = holdsE p x (es.getD i default) := ⟨_, rfl⟩
      rw [← hv] at cH
      replace hkn := hide (hkn.out v hv)
      replace hno := hide (hno.out v hv)
      replace hv := hide hv
      generalize es.getD i default = e at *
      clear heb
      cases v with
      | true =>
        have hkn2 := hide (hkn.out rfl)
        clear hkn
        go_wp2_with fail
        refine (cH _).mono ?_
        rintro en w3 ⟨rfl, hb3⟩
        have hbN := hb.trans (((Below.refl wr.heap.size wr).alloc (Nat.le_refl _) (.cells #[.int .u64 e.a.b, .int .u64 e.a.s, .int .u64 e.b.b, .int .u64 e.b.s, .int .u64 e.c.b, .int .u64 e.c.s] 224)).mono hb.size)
        have hbN2 := below2 hbN hb3
        clear c0 c1 c2 c3 c4 c5 cH hbN hb3
        go_wp2
        go_roundw
        case rel => exact ⟨i + 1, by omega, by go_num, hbN2, hkn2⟩
        case measure => simp [intOf]; omega
      | false =>
        have hno2 := hide (hno.out rfl)
        clear hno
        go_wp2_with fail
        refine (cH _).mono ?_
        rintro en w3 ⟨rfl, hb3⟩
        have hbN := hb.trans (((Below.refl wr.heap.size wr).alloc (Nat.le_refl _) (.cells #[.int .u64 e.a.b, .int .u64 e.a.s, .int .u64 e.b.b, .int .u64 e.b.s, .int .u64 e.c.b, .int .u64 e.c.s] 224)).mono hb.size)
        go_wp2
        go_ret
        exact ⟨congrArg (fun x => Ending.returned (.bool x)) hno2.out.symm, below2 hbN hb3⟩
    · obtain rfl : i = es.length := by omega
      have hall : es.all (holdsE p x) = true := by
        rw [List.all_eq_true]
        intro e he2
        obtain ⟨k, hk2, rfl⟩ := List.mem_iff_getElem.1 he2
        have := hk.out k hk2
        rw [List.getD_eq_getElem?_getD, List.getElem?_eq_getElem hk2] at this
        exact this
      replace hall := hide hall
      go_wp2
      go_ret
      exact ⟨congrArg (fun x => Ending.returned (.bool x)) hall.out.symm, hb⟩

/-- The first quadratic equation, -1 if there is none. -/
def quadI (es : List Eq3) : Int := match es.findIdx? quadE with
  | some i => i
  | none => -1
set_option maxRecDepth 10000 in
set_option maxHeartbeats 4000000 in
theorem IndexFunc_any (ad : Option Addr) (c : Nat) (es : List Eq3) (w : World) (hs : SlG eqL w ad es) (hl : es.length ≤ 1000000) :
    Calls Tryz.prog 143 #[.slice ad es.length c, .func (.func 144) #[] #[]] w fun en w' => en = .returned (.int .i64 (quadI es)) ∧ Below w.heap.size w w' := by
  go_enter Tryz.func143, Tryz.ntmps143
  go_wp2_with fail
  go_loopw [8] (fun t8 wr => ∃ i : Nat, i ≤ es.length ∧ t8 = .int .i64 i ∧ Below w.heap.size w wr ∧ Hid (∀ k, k < i → quadE (es.getD k default) = false)) (fun t8 _ => es.length - (intOf t8).toNat)
  case atStart => exact ⟨0, Nat.zero_le _, rfl, Below.refl _ _, hide fun k hk => absurd hk (by omega)⟩
  case round =>
    obtain ⟨i, hi, rfl, hb, hk⟩ := hrel
    by_cases hlt : i < es.length
    · have hlt' : (i : Int) < es.length := by omega
      obtain ⟨b, off, rfl, _, c0, c1, c2, c3, c4, c5⟩ := eq_cells (hs.mono' hb) hlt
      have hkn : Hid (∀ v, v = quadE (es.getD i default) → v = false → ∀ k, k < i + 1 → quadE (es.getD k default) = false) := hide fun v hv hvt k hk2 => by
        by_cases e : k = i
        · subst e; rw [← hv, hvt]
        · exact hk.out k (by omega)
      have hyes : Hid (∀ v, v = quadE (es.getD i default) → v = true → quadI es = i) := hide fun v hv hvt => by
        have : es.findIdx? quadE = some i := by
          rw [List.findIdx?_eq_some_iff_getElem]
          refine ⟨hlt, ?_, fun j hj => ?_⟩
          · have e2 : es.getD i default = es[i] := by rw [List.getD_eq_getElem?_getD, List.getElem?_eq_getElem hlt]; rfl
            rw [← e2, ← hv, hvt]
          · have e2 : es.getD j default = es[j] := by rw [List.getD_eq_getElem?_getD, List.getElem?_eq_getElem (by omega)]; rfl
            rw [← e2, hk.out j hj]
            decide
        unfold quadI
        rw [this]
      have cH := fun W => isQuad_any (es.getD i default) W
      obtain ⟨v, hv⟩ : ∃ v, v = quadE (es.getD i default) := ⟨_, rfl⟩
      rw [← hv] at cH
      replace hkn := hide (hkn.out v hv)
      replace hyes := hide (hyes.out v hv)
      replace hv := hide hv
      generalize es.getD i default = e at *
      cases v with
      | true =>
        have hq := hide (hyes.out rfl)
        go_wp2_with fail
        refine (cH _).mono ?_
        rintro en w3 ⟨rfl, hb3⟩
        go_wp2
        go_ret
        exact ⟨congrArg (fun x => Ending.returned (.int .i64 x)) hq.out.symm, below2 hb hb3⟩
      | false =>
        have hkn2 := hide (hkn.out rfl)
        clear hkn
        go_wp2_with fail
        refine (cH _).mono ?_
        rintro en w3 ⟨rfl, hb3⟩
        have hbN2 := below2 hb hb3
        clear c0 c1 c2 c3 c4 c5 cH hb3
        go_wp2
        go_roundw
        case rel => exact ⟨i + 1, by omega, by go_num, hbN2, hkn2⟩
        case measure => simp [intOf]; omega
    · obtain rfl : i = es.length := by omega
      have hall : Hid (quadI es = -1) := hide (by
        have : es.findIdx? quadE = none := by
          rw [List.findIdx?_eq_none_iff]
          intro e he2
          obtain ⟨k, hk2, rfl⟩ := List.mem_iff_getElem.1 he2
          have := hk.out k hk2
          rw [List.getD_eq_getElem?_getD, List.getElem?_eq_getElem hk2] at this
          exact this
        unfold quadI
        rw [this])
      go_wp2
      go_ret
      exact ⟨congrArg (fun x => Ending.returned (.int .i64 x)) hall.out.symm, hb⟩
end Go.Proofs.YtalmgeefkcebdaaGreatDoor

/- Exhaustive search: the inverses. -/
namespace Go.Proofs.YtalmgeefkcebdaaGreatDoor
open Go.RowKit

theorem run_mkU {P : Program} {t e : TypeId} {k : IntKind} {bytes : Nat} (ht : P.underlying t = some (.slice e)) (hinfo : (P.info? e).map (fun i => (i.zero, i.size, i.bytes)) = some (some (.int k 0), 1, bytes)) (h8 : bytes ≤ 8) (l : Nat) (hc : l < 1099511627776) (w : World) :
    (Instr.makeSlice t (.int .u64 (l : Int)) (.int .u64 (l : Int))).run P w = .ok (.slice (some ⟨w.heap.size, 0, none⟩) l l) (w.alloc (.cells (madeCells #[.int k 0] l) e)) := by
  obtain ⟨i, hi, hz, hsz, hby⟩ := info_parts hinfo
  have hb : (i.bytes : Int) * (l : Int) ≤ 281474976710656 := by
    rw [hby]
    have : bytes * l ≤ 8 * l := Nat.mul_le_mul_right _ h8
    have h : ((bytes * l : Nat) : Int) ≤ 281474976710656 := by omega
    rwa [Int.natCast_mul] at h
  have hr := run_make (P := P) w t e i (.int k 0) ht hi hz .u64 .u64 l l (by omega) (by omega) hb (by omega)
  simp only [Int.toNat_natCast, hsz, Nat.mul_one] at hr
  exact hr
/-- What the list of inverses is. -/
structure InvL (p : Int) (n : Nat) (L : List Int) : Prop where
  bd : ∀ j, 0 ≤ L.getD j 0 ∧ L.getD j 0 < p
  inv : ∀ j : Nat, 0 < j → j < n → (j : Int) * L.getD j 0 % p = 1
theorem small_vld {p : Int} (hv : vld p = true) (h : p ≤ 257) : p = 17 ∨ p = 97 ∨ p = 193 ∨ p = 257 := by
  rcases vld_cases hv with h1 | h1 | h1 | h1 | h1 | h1 | h1 <;> omega
theorem small_mod {p : Nat} (hv : vld (p : Int) = true) (h : p ≤ 257) {i : Nat} (h1 : 1 < i) (h2 : i < p) : 0 < p % i := by
  have key : ∀ q : Nat, q ∈ [17, 97, 193, 257] → ∀ i : Fin q, 1 < i.val → 0 < q % i.val := by decide +kernel
  have : p ∈ [17, 97, 193, 257] := by
    rcases small_vld hv (by omega) with h | h | h | h
    · rw [show p = 17 by omega]; decide
    · rw [show p = 97 by omega]; decide
    · rw [show p = 193 by omega]; decide
    · rw [show p = 257 by omega]; decide
  exact key p this ⟨i, h2⟩ h1
theorem InvL.step {p : Nat} {n : Nat} {L : List Int} (hv : vld (p : Int) = true) (h257 : p ≤ 257) (h : InvL p n L) (hn : 1 < n) (hnp : n < p) (hl : L.length = p) :
    InvL p (n + 1) (L.set n (((p : Int) - ((p / n : Nat) : Int)) * L.getD (p % n) 0 % p)) := by
  have hp := vld_pos hv
  have hm : p % n < n := Nat.mod_lt _ (by omega)
  have h0 := small_mod hv h257 hn hnp
  have hz := mod_lt' (show (0 : Int) < p by omega) (((p : Int) - ((p / n : Nat) : Int)) * L.getD (p % n) 0)
  have hget : ∀ j, (L.set n (((p : Int) - ((p / n : Nat) : Int)) * L.getD (p % n) 0 % p)).getD j 0 = if j = n then ((p : Int) - ((p / n : Nat) : Int)) * L.getD (p % n) 0 % p else L.getD j 0 := fun j => by
    by_cases e : j = n
    · subst e
      rw [if_pos rfl, List.getD_eq_getElem?_getD, List.getElem?_set_self (by omega)]
      rfl
    · rw [if_neg e, List.getD_eq_getElem?_getD, List.getElem?_set_ne (Ne.symm e), List.getD_eq_getElem?_getD]
  refine ⟨fun j => ?_, fun j hj hjn => ?_⟩
  · rw [hget]
    split
    · exact hz
    · exact h.bd j
  · rw [hget]
    split
    · rename_i e
      subst e
      have hi := h.inv (p % j) h0 hm
      have hd : (p : Int) = (j : Int) * ((p / j : Nat) : Int) + ((p % j : Nat) : Int) := by
        have := Nat.div_add_mod p j
        exact_mod_cast this.symm
      generalize ((p / j : Nat) : Int) = D at *
      generalize L.getD (p % j) 0 = X at *
      generalize ((p % j : Nat) : Int) = M at *
      have c1 : Cg (p : Int) (M * X) 1 := Cg.of (by rw [hi, Int.emod_eq_of_lt (by omega) (by omega)])
      have c2 : Cg (p : Int) ((j : Int) * (((p : Int) - D) * X % p)) 1 := by
        refine ((Cg.refl _ _).mul (Cg.mod _ _)).trans (Cg.trans ?_ c1)
        refine ⟨(j : Int) * X - X, ?_⟩
        have : (j : Int) * D = p - M := by omega
        have e2 : (j : Int) * (((p : Int) - D) * X) = (j : Int) * p * X - (j : Int) * D * X := by grind
        rw [e2, this]
        grind
      have := c2.em
      rw [this, Int.emod_eq_of_lt (by omega) (by omega)]
    · exact h.inv j hj (by omega)
set_option maxRecDepth 10000 in
set_option maxHeartbeats 4000000 in
theorem inverses_any (p : Nat) (w : World) (hv : vld (p : Int) = true) (h257 : p ≤ 257) :
    Calls Tryz.prog 81 #[.int .u64 p] w fun en w' => ∃ g L, en = .returned (.slice (some ⟨g, 0, none⟩) p p) ∧ Own w' w.heap.size 23 .u64 (.slice (some ⟨g, 0, none⟩) p p) L ∧ L.length = p ∧ InvL p p L ∧ Below w.heap.size w w' := by
  have hp := vld_pos hv
  have hmk := fun W => run_mkU (P := Tryz.prog) (t := 52) (e := 23) Tryz.underlying52 Tryz.infoU64 (by decide) p (by omega) W
  have hp1 : (1 : Int) < p := by omega
  have hp17 : 17 ≤ (p : Int) := hp.1
  have hpI : (p : Int) ≤ 257 := by omega
  replace hv := hide hv
  have own0 : Own (w.alloc (.cells (madeCells #[.int .u64 0] p) 23)) w.heap.size 23 .u64 (.slice (some ⟨w.heap.size, 0, none⟩) p p) (List.replicate p 0) := Own.made 0 (Nat.le_refl _) (by simp only [maxLen]; omega)
  have f0 := own0.free 1
  have c0 := own0.cell (j := 1) (by omega)
  clear hp
  go_enter Tryz.func81, Tryz.ntmps81
  go_wp2_with fail
  refine name_world fun w2 hN => ?_
  have hB2 : Below w.heap.size w w2 := by rw [hN]; exact (Below.refl _ _).alloc (Nat.le_refl _) _
  have ow2 : Own w2 w.heap.size 23 .u64 (.slice (some ⟨w.heap.size, 0, none⟩) p p) ((List.replicate p 0).set 1 1) := by
    have := own0.set 1 1
    rw [World.setCell_alloc_new] at this
    rw [hN]
    exact this
  have iv2 : InvL p 2 ((List.replicate p (0 : Int)).set 1 1) := by
    have hget : ∀ j, ((List.replicate p (0 : Int)).set 1 1).getD j 0 = if j = 1 then 1 else 0 := fun j => by
      by_cases e : j = 1
      · subst e
        rw [if_pos rfl, List.getD_eq_getElem?_getD, List.getElem?_set_self (by rw [List.length_replicate]; omega)]
        rfl
      · rw [if_neg e, List.getD_eq_getElem?_getD, List.getElem?_set_ne (Ne.symm e), List.getElem?_replicate]
        split <;> rfl
    refine ⟨fun j => ?_, fun j h1 h2 => ?_⟩
    · rw [hget]; split <;> omega
    · rw [hget, if_pos (by omega), show j = 1 by omega]
      exact Int.emod_eq_of_lt (by decide) (by omega)
  have ll2 : ((List.replicate p (0 : Int)).set 1 1).length = p := by rw [List.length_set, List.length_replicate]
  clear hN own0 f0 c0 hmk
  go_loopw [4] (fun t4 wr => ∃ i : Nat, 2 ≤ i ∧ i ≤ p ∧ t4 = .int .u64 i ∧ Below w.heap.size w wr ∧ ∃ L, Own wr w.heap.size 23 .u64 (.slice (some ⟨w.heap.size, 0, none⟩) p p) L ∧ Hid (InvL p i L) ∧ Hid (L.length = p)) (fun t4 _ => p - (intOf t4).toNat)
  case atStart => exact ⟨2, by omega, by omega, rfl, hB2, _, ow2, hide iv2, hide ll2⟩
  case round =>
    clear hB2 ow2 iv2 ll2
    obtain ⟨i, hi2, hip, rfl, hB, L, ow, hL, hl⟩ := hrel
    by_cases hlt : i < p
    · have hlt' : (i : Int) < p := by omega
      obtain ⟨m, hm⟩ : ∃ m, m = p % i := ⟨_, rfl⟩
      obtain ⟨d, hd⟩ : ∃ d, d = p / i := ⟨_, rfl⟩
      have hmi : m < i := by rw [hm]; exact Nat.mod_lt _ (by omega)
      have hdp : d ≤ p := by rw [hd]; exact Nat.div_le_self _ _
      have t1 : (p : Int).tmod (i : Int) = (m : Int) := by rw [hm, Int.natCast_emod]; exact Int.tmod_eq_emod_of_nonneg (by omega)
      have t2 : (p : Int).tdiv (i : Int) = (d : Int) := by rw [hd, Int.natCast_ediv]; exact Int.tdiv_eq_ediv_of_nonneg (by omega)
      have hst := InvL.step hv.out h257 hL.out (by omega) hlt hl.out
      rw [← hm, ← hd] at hst
      have hc := cell_later' (ow.cell (j := m) (by omega))
      have hxb := hL.out.bd m
      generalize L.getD m 0 = x at *
      have hi0 : ((i : Int) == 0) = false := by rw [beq_eq_false_iff_ne]; omega
      have hp0 : ((p : Int) == 0) = false := by rw [beq_eq_false_iff_ne]; omega
      obtain ⟨q, hq⟩ : ∃ q : Int, q = (p : Int) - d := ⟨_, rfl⟩
      have hqb : 0 ≤ q ∧ q ≤ 257 := by omega
      have w1 : IntKind.u64.wrap ((p : Int) - d) = q := by rw [IntKind.wrap_u64]; omega
      have hmul : 0 ≤ q * x ∧ q * x ≤ 66049 := ⟨Int.mul_nonneg hqb.1 hxb.1, (show q * x ≤ 257 * 257 from Int.mul_le_mul (by omega) (by omega) hxb.1 (by decide))⟩
      have w2 : IntKind.u64.wrap (q * x) = q * x := by rw [IntKind.wrap_u64]; omega
      obtain ⟨z, hz⟩ : ∃ z, z = q * x % p := ⟨_, rfl⟩
      have t3 : (q * x).tmod (p : Int) = z := by rw [hz]; exact Int.tmod_eq_emod_of_nonneg hmul.1
      rw [← hq, ← hz] at hst
      have hmp : (m : Int) < p := by omega
      have hi00 : (0 : Int) ≤ i := by omega
      have hm00 : (0 : Int) ≤ m := by omega
      replace hst := hide hst
      replace hz := hide hz
      replace hq := hide hq
      replace hm := hide hm
      replace hd := hide hd
      obtain ⟨hmul1, hmul2⟩ := hmul
      obtain ⟨hxb1, hxb2⟩ := hxb
      obtain ⟨hqb1, hqb2⟩ := hqb
      go_wp2_with fail
      refine Rel.wp_region_later_tail 16 Tryz.mixed (by kernel_rfl) ?_
      simp only [List.take_succ_cons, List.take_zero, List.drop_succ_cons, List.drop_zero]
      repeat (first | go_big_quiet_step (first | fail) | quiet_step (first | fail))
      refine wpQuiet_nil ?_
      intro w9 hb9
      replace hb9 := below_of_later hb9
      have ow9 := ow.mono hb9
      have f9 := ow9.free i
      have c9 := ow9.cell (j := i) hlt
      have hB9 := below2 hB hb9
      have own' := ow9.set i z
      have hBn : Below w.heap.size w (w9.setCell ⟨w.heap.size, i, none⟩ (.int .u64 z)) := hB9.setCell (Nat.le_refl _) _
      clear hc t1 t2 t3 w1 w2 hmul1 hmul2 hxb1 hxb2 hqb1 hqb2 hi0
      go_wp2
      go_roundw
      case rel => exact ⟨i + 1, by omega, by omega, by go_num, hBn, _, own', hst, hide (by rw [List.length_set]; exact hl.out)⟩
      case measure => simp [intOf]; omega
    · obtain rfl : i = p := by omega
      go_wp2
      go_ret
      exact ⟨_, L, rfl, ow, hl.out, hL.out, hB⟩
end Go.Proofs.YtalmgeefkcebdaaGreatDoor

/- Exhaustive search: the state of a search; lines and equations of a variable. -/
namespace Go.Proofs.YtalmgeefkcebdaaGreatDoor
open Go.ChangeShapes Go.WideShapes Go.ChangeAt Go.RowKit

/-- The state of a search: its values, the inverses, the rows by their greatest variable. -/
structure SS (w0 w : World) (q p V last gi gr gw : Nat) (IL : List Int) (R : List Row3) (Wl : List Int) : Prop where
  below : Below w0.heap.size w0 w
  blk : Blk w q #[.int .u64 p, .slice (some ⟨gi, 0, none⟩) p p, .slice (some ⟨gr, 0, none⟩) V V, .int .i64 last, .slice (some ⟨gw, 0, none⟩) V V] 170
  inv : Own w w0.heap.size 23 .u64 (.slice (some ⟨gi, 0, none⟩) p p) IL
  ow : Own w w0.heap.size 23 .u64 (.slice (some ⟨gw, 0, none⟩) V V) Wl
  neq : gi ≠ gw
  grb : ∃ cs, Blk w gr cs 42
  rows : ∀ v, v < V → ∃ (a : Option Addr) (c : Nat) (Rv : List Rw), w.cell? ⟨gr, v, none⟩ = some (.slice a Rv.length c) ∧ OwnG rwL w w0.heap.size 97 (.slice a Rv.length c) Rv ∧ (∀ r ∈ Rv, LcOk w0 r.a ∧ LcOk w0 r.b ∧ LcOk w0 r.c) ∧ Rv.map Rw.val = rowsAt R v
section
variable {w0 w w' : World} {q p V last gi gr gw : Nat} {IL : List Int} {R : List Row3} {Wl : List Int}
theorem SS.mono (h : SS w0 w q p V last gi gr gw IL R Wl) (hb : Below w.heap.size w w') : SS w0 w' q p V last gi gr gw IL R Wl :=
  ⟨below2 h.below hb, h.blk.mono hb, h.inv.mono hb, h.ow.mono hb, h.neq, by obtain ⟨cs, g⟩ := h.grb; exact ⟨cs, g.mono hb⟩, fun v hv => by
    obtain ⟨a, c, Rv, h1, h2, h3, h4⟩ := h.rows v hv
    exact ⟨a, c, Rv, cell_below hb h1, h2.mono hb, h3, h4⟩⟩
/-- The types of the blocks that a search changes. -/
def XU8 (T : TypeId) : Prop := T = 23
/-- What a search leaves alone: all blocks but its own values. -/
structure KW (gw base : Nat) (w w' : World) : Prop where
  kx : KX XU8 base w w'
  oth : ∀ (b : Nat) (cs : Array Value) (T : TypeId), Blk w b cs T → b ≠ gw → Blk w' b cs T
theorem KW.refl (gw base : Nat) (w : World) : KW gw base w w := ⟨KX.refl _ _ _, fun _ _ _ h _ => h⟩
theorem KW.trans {gw base : Nat} {w w' w2 : World} (h : KW gw base w w') (k : KW gw base w' w2) : KW gw base w w2 :=
  ⟨h.kx.trans k.kx, fun b cs T g h1 => k.oth b cs T (h.oth b cs T g h1) h1⟩
theorem KW.of_below {gw base : Nat} {w w' : World} (h : Below w.heap.size w w') (hb : base ≤ w.heap.size) : KW gw base w w' := ⟨KX.of_below h hb, fun _ _ _ g _ => g.mono h⟩
theorem KW.own {α : Type} {gw : Nat} {L : Lay α} {w w' : World} {base b0 : Nat} {E : TypeId} {v : Value} {xs : List α} (k : KW gw base w w') (hX : ¬ XU8 E) (h : OwnG L w b0 E v xs) : OwnG L w' b0 E v xs := k.kx.own hX h
theorem SS.setW (h : SS w0 w q p V last gi gr gw IL R Wl) (j : Nat) (x : Int) : SS w0 (w.setCell ⟨gw, j, none⟩ (.int .u64 x)) q p V last gi gr gw IL R (Wl.set j x) ∧ KW gw w0.heap.size w (w.setCell ⟨gw, j, none⟩ (.int .u64 x)) := by
  obtain ⟨cs, g⟩ : ∃ cs, Blk w gw cs 23 := by
    rcases h.ow.form with ⟨h0, _⟩ | ⟨g', cap', cur, h0, _, h2, _⟩
    · cases h0
    · cases h0; exact ⟨cur, h2⟩
  have hlo : w0.heap.size ≤ gw := (Own.lt h.ow rfl).1
  have k : KX XU8 w0.heap.size w (w.setCell ⟨gw, j, none⟩ (.int .u64 x)) := KX.set g rfl hlo
  refine ⟨⟨h.below.setCell (show w0.heap.size ≤ gw from hlo) _, k.typ _ _ _ h.blk (by unfold XU8; decide), ?_, h.ow.set j x, h.neq, by obtain ⟨cs, g2⟩ := h.grb; exact ⟨cs, k.typ _ _ _ g2 (by unfold XU8; decide)⟩, fun v hv => ?_⟩, ⟨k, fun _ _ _ g' h3 => g'.other (fun e => h3 e.symm) _ _⟩⟩
  · rcases h.inv.form with ⟨h0, _⟩ | ⟨g', cap', cur, h0, h1, h2, h3, h4, h5, h6⟩
    · cases h0
    · cases h0
      exact Own.of_blk h1 (h2.other (fun e => h.neq e.symm) _ _) h3 h4 h5 h6
  · obtain ⟨a, c, Rv, h1, h2, h3, h4⟩ := h.rows v hv
    refine ⟨a, c, Rv, ?_, k.own (by unfold XU8; decide) h2, h3, h4⟩
    obtain ⟨cs2, g2⟩ := h.grb
    rw [World.cell?_setCell_far _ _ _ _ (fun e => by subst e; exact absurd (blk_type g g2) (by decide))]
    exact h1
end
/-- A line at v. -/
def lnV (p : Int) (Wl : List Int) (v : Nat) (x : Lin) : Ln := if 0 < v ∧ gtL x = v then ⟨lval p Wl x.dropLast, (x.getLast?.getD (0, 0)).2⟩ else ⟨lval p Wl x, 0⟩
theorem lval_take {p : Int} (hv : vld p = true) {Wl : List Int} {v : Nat} {x : Lin} (h : ∀ t ∈ x, t.1 < (v : Int)) (hl : v ≤ Wl.length) : lval p Wl x = lval p (Wl.take v) x := by
  have e : Wl = Wl.take v ++ Wl.drop v := (List.take_append_drop v Wl).symm
  have hlen : (Wl.take v).length = v := by rw [List.length_take]; omega
  conv => lhs; rw [e]
  rw [lval_lsum hv, lval_lsum hv, lsum_more _ _ (fun t ht => by rw [hlen]; exact h t ht)]
theorem lnV_of {p hi : Int} (hv : vld p = true) {Wl : List Int} {v : Nat} {x : Lin} (hx : LinIn p 0 hi x) (hg : gtL x ≤ v) (h0 : 0 < v) (hl : v ≤ Wl.length) : lnV p Wl v x = lnOf p (Wl.take v) x := by
  have hlen : (Wl.take v).length = v := by rw [List.length_take]; omega
  unfold lnV lnOf
  rw [hlen]
  by_cases e0 : x = []
  · subst e0
    rw [if_neg (by simp only [gtL, List.getLast?_nil]; omega), if_neg (by simp only [gtL, List.getLast?_nil]; omega)]
    rfl
  · obtain ⟨y, t, rfl, h1, h2, h3, h4⟩ := lin_last hx e0
    by_cases e : gtL (y ++ [t]) = v
    · rw [if_pos ⟨h0, e⟩, if_pos ⟨e, h0⟩, List.dropLast_concat]
      rw [lval_take hv (fun u hu => by have := h1 u hu; omega) hl]
    · rw [if_neg (fun hh => e hh.2), if_neg (fun hh => e hh.1)]
      rw [lval_take hv (fun u hu => by
        rcases List.mem_append.1 hu with hu | hu
        · have := h1 u hu; omega
        · rw [List.mem_singleton] at hu; subst hu; omega) hl]
theorem lnV_bd {p hi : Int} (hv : vld p = true) {Wl : List Int} {v : Nat} {x : Lin} (hx : LinIn p 0 hi x) : (0 ≤ (lnV p Wl v x).b ∧ (lnV p Wl v x).b < p) ∧ (0 ≤ (lnV p Wl v x).s ∧ (lnV p Wl v x).s < p) := by
  have hp := vld_pos hv
  unfold lnV
  split
  · refine ⟨lval_bds hv _ _, ?_⟩
    cases e : x.getLast? with
    | none => exact ⟨Int.le_refl 0, by show (0 : Int) < p; omega⟩
    | some t =>
      have := hx.1 t (List.mem_of_getLast? e)
      show 0 ≤ t.2 ∧ t.2 < p
      omega
  · exact ⟨lval_bds hv _ _, Int.le_refl 0, by show (0 : Int) < p; omega⟩

set_option maxRecDepth 10000 in
set_option maxHeartbeats 4000000 in
theorem line_any {w0 w : World} {q p V last gi gr gw : Nat} {IL : List Int} {R : List Row3} {Wl : List Int} (D : SS w0 w q p V last gi gr gw IL R Wl) (hA : AllW Wl) (hVl : Wl.length = V) (x : Lc) (v : Nat) (hx : LcOk w0 x) (hv : vld (p : Int) = true) (hin : LinIn p 0 V x.l) (hvV : v < V) (hl : x.l.length ≤ 1000000) :
    Calls Tryz.prog 140 #[.pointer (some ⟨q, 0, none⟩), .slice x.ad x.l.length x.cap, .int .i64 v] w fun en w' => en = .returned (.agg #[.int .u64 (lnV p Wl v x.l).b, .int .u64 (lnV p Wl v x.l).s]) ∧ Below w.heap.size w w' := by
  have cg := fun W h => greatest_any x V W (hx.mono h) (fun t ht => ⟨by obtain ⟨i, hi, rfl⟩ := List.mem_iff_getElem.1 ht; have := asc_get x.l 0 hin.2.1 i hi; rw [List.getD_eq_getElem?_getD, List.getElem?_eq_getElem hi] at this; exact this, hin.2.2 t ht⟩) (by omega)
  have hgp : gtL x.l < V ∨ x.l = [] := by
    by_cases e0 : x.l = []
    · exact .inr e0
    · obtain ⟨y, t, e, h1, h2, h3, h4⟩ := lin_last hin e0
      left; omega
  have hp := vld_pos hv
  have hslw : ∀ W, SS w0 W q p V last gi gr gw IL R Wl → Sl W .u64 (some ⟨gw, 0, none⟩) Wl := fun W D => by
    obtain ⟨_, _, e, h, _⟩ := Own.sl D.ow
    injection e with e1 e2 e3
    subst e1
    exact h
  have cV := fun (y : Lc) W (D : SS w0 W q p V last gi gr gw IL R Wl) h => tValue_any p y (some ⟨gw, 0, none⟩) V Wl W h (hslw W D) hA
  rw [hVl] at cV
  have hvV' : (v : Int) < V := by omega
  by_cases h0 : 0 < v ∧ gtL x.l = v
  · obtain ⟨hv0, hg⟩ := h0
    have hne : x.l ≠ [] := fun e => by rw [e] at hg; simp only [gtL, List.getLast?_nil] at hg; omega
    have hlen : 0 < x.l.length := List.length_pos_iff.2 hne
    obtain ⟨b, off, e2, _, hc⟩ := (hx.sl hlen)
    obtain ⟨n, hn⟩ : ∃ n, n + 1 = x.l.length := ⟨x.l.length - 1, by omega⟩
    have c1 := cell_below D.below (hc n (by omega)).2
    have hgl : x.l.getLast? = some (x.l.getD n (0, 0)) := by
      rw [List.getLast?_eq_getElem?, show x.l.length - 1 = n by omega, List.getD_eq_getElem?_getD, List.getElem?_eq_getElem (by omega)]
      rfl
    have hln : lnV p Wl v x.l = ⟨lval p Wl x.l.dropLast, (x.l.getD n (0, 0)).2⟩ := by
      unfold lnV
      rw [if_pos ⟨hv0, hg⟩, hgl]
      rfl
    rw [hln]
    have hdl : x.l.dropLast.length = n := by rw [List.length_dropLast]; omega
    have hyok : LcOk w0 ⟨x.ad, x.cap, x.l.dropLast⟩ := ⟨fun h => by
      refine ⟨b, off, e2, by obtain ⟨_, _, e3, h3, _⟩ := hx.sl hlen; rw [e2] at e3; cases e3; exact h3, fun i hi => ?_⟩
      have hi2 : i < n := by simp only at hi; omega
      have e5 : x.l.dropLast.getD i (0, 0) = x.l.getD i (0, 0) := by
        rw [List.getD_eq_getElem?_getD, List.getD_eq_getElem?_getD, List.getElem?_dropLast, if_pos (by omega)]
      simp only
      rw [e5]
      exact hc i (by omega), fun t ht => hx.wl t (List.dropLast_subset _ ht), by simp only; rw [hdl]; have := hx.le; omega, hx.mx⟩
    have hle := hx.le
    have hmx := hx.mx
    simp only [maxLen] at hmx
    have cV1 := fun W D h => cV ⟨x.ad, x.cap, x.l.dropLast⟩ W D (hyok.mono h)
    simp only [hdl] at cV1
    generalize lval p Wl x.l.dropLast = A at *
    generalize (x.l.getD n (0, 0)).2 = cf at *
    rw [hg] at cg
    obtain ⟨ad, cap, l⟩ := x
    simp only at *
    subst e2
    have hn2 : (l.length : Int) - 1 = n := by omega
    have hn3 : (n : Int) < l.length := by omega
    have hnc : (n : Int) ≤ cap := by omega
    have hn00 : (0 : Int) ≤ n := by omega
    have hlm : (l.length : Int) ≤ 1000000 := by omega
    have hwr : IntKind.i64.wrap ((l.length : Int) - 1) = n := by rw [IntKind.wrap_i64]; omega
    have hl1 : 1 ≤ (l.length : Int) := by omega
    have hv0' : (0 : Int) < v := by omega
    have hcap : cap ≤ 9223372036854775807 := by omega
    replace hn := hide hn
    clear hc hgl hln hdl hyok hg hne hlen hgp cV hslw hin hl hmx hle hx
    go_enter Tryz.func140, Tryz.ntmps140
    go_wp2_with fail
    refine name_calls fun w2 hN => ?_
    have g6 : Blk w2 w.heap.size #[.int .u64 0, .int .u64 0] 222 := by rw [hN]; exact Blk.newAt rfl
    have hb2 : Below w.heap.size w w2 := by rw [hN]; exact (Below.refl _ _).alloc (Nat.le_refl _) _
    clear hN
    refine (cg w2 (below2 D.below hb2)).mono ?_
    rintro e w3 ⟨rfl, hb3⟩
    replace g6 := g6.mono hb3
    replace hb2 := below2 hb2 hb3
    clear cg hb3
    go_wp2_with fail
    refine Rel.region_any Tryz.mixed fun w4 hb4 => ?_
    replace g6 := g6.mono hb4
    replace hb2 := below2 hb2 hb4
    have D4 := D.mono hb2
    have c14 := cell_below hb2 c1
    clear hb4
    refine Rel.any_held (fun W => W.cell? ⟨q, 0, none⟩ = some (.int .u64 p) ∧ W.cell? ⟨q, 4, none⟩ = some (.slice (some ⟨gw, 0, none⟩) V V) ∧ W.cell? ⟨b, off + n * 2 + 1, none⟩ = some (.int .u64 cf)) 18 ⟨D4.blk.cell (j := 0) rfl, D4.blk.cell (j := 4) rfl, c14⟩ fun hH0 => ?_
    refine Rel.tk (v := ?_) 0 ?_ ?_
    rotate_left
    · (intro W hSw; (try dsimp only at hSw); go_simp; try with_reducible rfl)
    try simp only [Act.put, List.setIfInBounds_toArray, List.set_cons_zero, List.set_cons_succ]
    refine Rel.tk (v := ?_) 1 ?_ ?_
    rotate_left
    · (intro W hSw; (try dsimp only at hSw); go_simp; try with_reducible rfl)
    try simp only [Act.put, List.setIfInBounds_toArray, List.set_cons_zero, List.set_cons_succ]
    refine Rel.tk (v := ?_) 2 ?_ ?_
    rotate_left
    · (intro W hSw; (try dsimp only at hSw); go_simp; try with_reducible rfl)
    try simp only [Act.put, List.setIfInBounds_toArray, List.set_cons_zero, List.set_cons_succ]
    refine Rel.tk (v := ?_) 3 ?_ ?_
    rotate_left
    · (intro W hSw; (try dsimp only at hSw); go_simp; try with_reducible rfl)
    try simp only [Act.put, List.setIfInBounds_toArray, List.set_cons_zero, List.set_cons_succ]
    refine Rel.tk (v := ?_) 4 ?_ ?_
    rotate_left
    · (intro W hSw; (try dsimp only at hSw); go_simp; try with_reducible rfl)
    try simp only [Act.put, List.setIfInBounds_toArray, List.set_cons_zero, List.set_cons_succ]
    refine Rel.tk (v := ?_) 5 ?_ ?_
    rotate_left
    · (intro W hSw; (try dsimp only at hSw); go_simp; try with_reducible rfl)
    try simp only [Act.put, List.setIfInBounds_toArray, List.set_cons_zero, List.set_cons_succ]
    refine Rel.tk (v := ?_) 6 ?_ ?_
    rotate_left
    · (intro W hSw; (try dsimp only at hSw); go_simp; try with_reducible rfl)
    try simp only [Act.put, List.setIfInBounds_toArray, List.set_cons_zero, List.set_cons_succ]
    refine Rel.tk (v := ?_) 7 ?_ ?_
    rotate_left
    · (intro W hSw; (try dsimp only at hSw); go_simp; try with_reducible rfl)
    try simp only [Act.put, List.setIfInBounds_toArray, List.set_cons_zero, List.set_cons_succ]
    refine Rel.tk (v := ?_) 8 ?_ ?_
    rotate_left
    · (intro W hSw; (try dsimp only at hSw); go_simp; try with_reducible rfl)
    try simp only [Act.put, List.setIfInBounds_toArray, List.set_cons_zero, List.set_cons_succ]
    refine Rel.tk (v := ?_) 9 ?_ ?_
    rotate_left
    · (intro W hSw; (try dsimp only at hSw); go_simp; try with_reducible rfl)
    try simp only [Act.put, List.setIfInBounds_toArray, List.set_cons_zero, List.set_cons_succ]
    refine Rel.tk (v := ?_) 10 ?_ ?_
    rotate_left
    · (intro W hSw; (try dsimp only at hSw); go_simp; try with_reducible rfl)
    try simp only [Act.put, List.setIfInBounds_toArray, List.set_cons_zero, List.set_cons_succ]
    refine Rel.tk (v := ?_) 12 ?_ ?_
    rotate_left
    · (intro W hSw; (try dsimp only at hSw); go_simp; try with_reducible rfl)
    try simp only [Act.put, List.setIfInBounds_toArray, List.set_cons_zero, List.set_cons_succ]
    refine Rel.tk (v := ?_) 13 ?_ ?_
    rotate_left
    · (intro W hSw; (try dsimp only at hSw); go_simp; try with_reducible rfl)
    try simp only [Act.put, List.setIfInBounds_toArray, List.set_cons_zero, List.set_cons_succ]
    refine Rel.tk (v := ?_) 14 ?_ ?_
    rotate_left
    · (intro W hSw; (try dsimp only at hSw); go_simp; try with_reducible rfl)
    try simp only [Act.put, List.setIfInBounds_toArray, List.set_cons_zero, List.set_cons_succ]
    refine Rel.tk (v := ?_) 15 ?_ ?_
    rotate_left
    · (intro W hSw; (try dsimp only at hSw); go_simp; try with_reducible rfl)
    try simp only [Act.put, List.setIfInBounds_toArray, List.set_cons_zero, List.set_cons_succ]
    refine Rel.tk (v := ?_) 16 ?_ ?_
    rotate_left
    · (intro W hSw; (try dsimp only at hSw); go_simp; try with_reducible rfl)
    try simp only [Act.put, List.setIfInBounds_toArray, List.set_cons_zero, List.set_cons_succ]
    refine Rel.heldNext 11 rfl (by kernel_rfl) fun K hK => ?_
    go_simp
    refine (cV1 w4 D4 D4.below).mono ?_
    rintro e w5 ⟨rfl, hb5⟩
    have D5 := D4.mono hb5
    replace g6 := g6.mono hb5
    replace hb2 := below2 hb2 hb5
    refine hK.out _ _ ⟨D5.blk.cell (j := 0) rfl, D5.blk.cell (j := 4) rfl, cell_below hb5 c14⟩ (fun hH1 => ?_)
    clear hK K
    try simp only [Act.put, List.setIfInBounds_toArray, List.set_cons_zero, List.set_cons_succ]
    refine Rel.tk (v := ?_) 17 ?_ ?_
    rotate_left
    · (intro W hSw; (try dsimp only at hSw); go_simp; try with_reducible rfl)
    try simp only [Act.put, List.setIfInBounds_toArray, List.set_cons_zero, List.set_cons_succ]
    have k0 := g6.cell (j := 0) (v := .int .u64 0) rfl
    have k1 := g6.cell (j := 1) (v := .int .u64 0) rfl
    have kf := g6.free
    refine Rel.heldLast 18 rfl (by kernel_rfl) rfl (by kernel_rfl) fun K hK => ?_
    go_simp
    refine hK.out _ _ ?_
    clear hK K hH0 hH1 k0 k1
    have g7 := (g6.set 0 (.int .u64 A)).set 1 (.int .u64 cf)
    have hb7 : Below w.heap.size w ((w5.setCell ⟨w.heap.size, 0, none⟩ (.int .u64 A)).setCell ⟨w.heap.size, 1, none⟩ (.int .u64 cf)) := (hb2.setCell (p := ⟨w.heap.size, 0, none⟩) (Nat.le_refl _) _).setCell (p := ⟨w.heap.size, 1, none⟩) (Nat.le_refl _) _
    have r0 := g7.cell (j := 0) (v := .int .u64 A) rfl
    have r1 := g7.cell (j := 1) (v := .int .u64 cf) rfl
    go_wp2
    exact bodyPost_ret (v := .agg #[.int .u64 A, .int .u64 cf]) (by simp [results, Tryz.results140, go_sem, r0, r1]) rfl ⟨rfl, hb7⟩
  · have hln : lnV p Wl v x.l = ⟨lval p Wl x.l, 0⟩ := by unfold lnV; rw [if_neg h0]
    rw [hln]
    have cV1 := fun W D h => cV x W D (hx.mono h)
    have hgn : 0 < v → ((gtL x.l : Int) == v) = false := fun hv0 => by
      rw [beq_eq_false_iff_ne]
      intro e
      exact h0 ⟨hv0, by omega⟩
    generalize lval p Wl x.l = A at *
    generalize gtL x.l = G at *
    obtain ⟨ad, cap, l⟩ := x
    simp only at *
    clear hgp cV hslw hin hx hln h0
    by_cases hv0 : 0 < v
    · have hv0' : (0 : Int) < v := by omega
      have hgn2 := hgn hv0
      clear hgn
      go_enter Tryz.func140, Tryz.ntmps140
      go_wp2_with fail
      refine name_calls fun w2 hN => ?_
      have g6 : Blk w2 w.heap.size #[.int .u64 0, .int .u64 0] 222 := by rw [hN]; exact Blk.newAt rfl
      have hb2 : Below w.heap.size w w2 := by rw [hN]; exact (Below.refl _ _).alloc (Nat.le_refl _) _
      clear hN
      refine (cg w2 (below2 D.below hb2)).mono ?_
      rintro e w3 ⟨rfl, hb3⟩
      replace g6 := g6.mono hb3
      replace hb2 := below2 hb2 hb3
      clear cg hb3
      go_wp2_with fail
      refine Rel.region_any Tryz.mixed fun w4 hb4 => ?_
      replace g6 := g6.mono hb4
      replace hb2 := below2 hb2 hb4
      have D4 := D.mono hb2
      clear hb4
      refine Rel.any_held (fun W => W.cell? ⟨q, 0, none⟩ = some (.int .u64 p) ∧ W.cell? ⟨q, 4, none⟩ = some (.slice (some ⟨gw, 0, none⟩) V V)) 11 ⟨D4.blk.cell (j := 0) rfl, D4.blk.cell (j := 4) rfl⟩ fun hH0 => ?_
      refine Rel.tk (v := ?_) 0 ?_ ?_
      rotate_left
      · (intro W hSw; (try dsimp only at hSw); go_simp; try with_reducible rfl)
      try simp only [Act.put, List.setIfInBounds_toArray, List.set_cons_zero, List.set_cons_succ]
      refine Rel.tk (v := ?_) 1 ?_ ?_
      rotate_left
      · (intro W hSw; (try dsimp only at hSw); go_simp; try with_reducible rfl)
      try simp only [Act.put, List.setIfInBounds_toArray, List.set_cons_zero, List.set_cons_succ]
      refine Rel.tk (v := ?_) 2 ?_ ?_
      rotate_left
      · (intro W hSw; (try dsimp only at hSw); go_simp; try with_reducible rfl)
      try simp only [Act.put, List.setIfInBounds_toArray, List.set_cons_zero, List.set_cons_succ]
      refine Rel.tk (v := ?_) 3 ?_ ?_
      rotate_left
      · (intro W hSw; (try dsimp only at hSw); go_simp; try with_reducible rfl)
      try simp only [Act.put, List.setIfInBounds_toArray, List.set_cons_zero, List.set_cons_succ]
      refine Rel.tk (v := ?_) 4 ?_ ?_
      rotate_left
      · (intro W hSw; (try dsimp only at hSw); go_simp; try with_reducible rfl)
      try simp only [Act.put, List.setIfInBounds_toArray, List.set_cons_zero, List.set_cons_succ]
      refine Rel.tk (v := ?_) 5 ?_ ?_
      rotate_left
      · (intro W hSw; (try dsimp only at hSw); go_simp; try with_reducible rfl)
      try simp only [Act.put, List.setIfInBounds_toArray, List.set_cons_zero, List.set_cons_succ]
      refine Rel.tk (v := ?_) 6 ?_ ?_
      rotate_left
      · (intro W hSw; (try dsimp only at hSw); go_simp; try with_reducible rfl)
      try simp only [Act.put, List.setIfInBounds_toArray, List.set_cons_zero, List.set_cons_succ]
      refine Rel.tk (v := ?_) 7 ?_ ?_
      rotate_left
      · (intro W hSw; (try dsimp only at hSw); go_simp; try with_reducible rfl)
      try simp only [Act.put, List.setIfInBounds_toArray, List.set_cons_zero, List.set_cons_succ]
      refine Rel.tk (v := ?_) 8 ?_ ?_
      rotate_left
      · (intro W hSw; (try dsimp only at hSw); go_simp; try with_reducible rfl)
      try simp only [Act.put, List.setIfInBounds_toArray, List.set_cons_zero, List.set_cons_succ]
      refine Rel.heldNext 9 rfl (by kernel_rfl) fun K hK => ?_
      go_simp
      refine (cV1 w4 D4 D4.below).mono ?_
      rintro e w5 ⟨rfl, hb5⟩
      have D5 := D4.mono hb5
      replace g6 := g6.mono hb5
      replace hb2 := below2 hb2 hb5
      refine hK.out _ _ ⟨D5.blk.cell (j := 0) rfl, D5.blk.cell (j := 4) rfl⟩ (fun hH1 => ?_)
      clear hK K
      try simp only [Act.put, List.setIfInBounds_toArray, List.set_cons_zero, List.set_cons_succ]
      refine Rel.tk (v := ?_) 10 ?_ ?_
      rotate_left
      · (intro W hSw; (try dsimp only at hSw); go_simp; try with_reducible rfl)
      try simp only [Act.put, List.setIfInBounds_toArray, List.set_cons_zero, List.set_cons_succ]
      have k0 := g6.cell (j := 0) (v := .int .u64 0) rfl
      have k1 := g6.cell (j := 1) (v := .int .u64 0) rfl
      have kf := g6.free
      refine Rel.heldLast 11 rfl (by kernel_rfl) rfl (by kernel_rfl) fun K hK => ?_
      go_simp
      refine hK.out _ _ ?_
      clear hK K hH0 hH1 k0 k1
      have g7 := (g6.set 0 (.int .u64 A)).set 1 (.int .u64 0)
      have hb7 : Below w.heap.size w ((w5.setCell ⟨w.heap.size, 0, none⟩ (.int .u64 A)).setCell ⟨w.heap.size, 1, none⟩ (.int .u64 0)) := (hb2.setCell (p := ⟨w.heap.size, 0, none⟩) (Nat.le_refl _) _).setCell (p := ⟨w.heap.size, 1, none⟩) (Nat.le_refl _) _
      have r0 := g7.cell (j := 0) (v := .int .u64 A) rfl
      have r1 := g7.cell (j := 1) (v := .int .u64 0) rfl
      go_wp2
      exact bodyPost_ret (v := .agg #[.int .u64 A, .int .u64 0]) (by simp [results, Tryz.results140, go_sem, r0, r1]) rfl ⟨rfl, hb7⟩
    · obtain rfl : v = 0 := by omega
      have hz : decide ((0 : Int) < ((0 : Nat) : Int)) = false := by decide
      clear hgn cg
      go_enter Tryz.func140, Tryz.ntmps140
      go_wp2_with fail
      refine name_world fun w3 hN => ?_
      have g6 : Blk w3 w.heap.size #[.int .u64 0, .int .u64 0] 222 := by rw [hN]; exact Blk.newAt rfl
      have hb2 : Below w.heap.size w w3 := by rw [hN]; exact (Below.refl _ _).alloc (Nat.le_refl _) _
      clear hN
      refine Rel.region_any Tryz.mixed fun w4 hb4 => ?_
      replace g6 := g6.mono hb4
      replace hb2 := below2 hb2 hb4
      have D4 := D.mono hb2
      clear hb4
      refine Rel.any_held (fun W => W.cell? ⟨q, 0, none⟩ = some (.int .u64 p) ∧ W.cell? ⟨q, 4, none⟩ = some (.slice (some ⟨gw, 0, none⟩) V V)) 11 ⟨D4.blk.cell (j := 0) rfl, D4.blk.cell (j := 4) rfl⟩ fun hH0 => ?_
      refine Rel.tk (v := ?_) 0 ?_ ?_
      rotate_left
      · (intro W hSw; (try dsimp only at hSw); go_simp; try with_reducible rfl)
      try simp only [Act.put, List.setIfInBounds_toArray, List.set_cons_zero, List.set_cons_succ]
      refine Rel.tk (v := ?_) 1 ?_ ?_
      rotate_left
      · (intro W hSw; (try dsimp only at hSw); go_simp; try with_reducible rfl)
      try simp only [Act.put, List.setIfInBounds_toArray, List.set_cons_zero, List.set_cons_succ]
      refine Rel.tk (v := ?_) 2 ?_ ?_
      rotate_left
      · (intro W hSw; (try dsimp only at hSw); go_simp; try with_reducible rfl)
      try simp only [Act.put, List.setIfInBounds_toArray, List.set_cons_zero, List.set_cons_succ]
      refine Rel.tk (v := ?_) 3 ?_ ?_
      rotate_left
      · (intro W hSw; (try dsimp only at hSw); go_simp; try with_reducible rfl)
      try simp only [Act.put, List.setIfInBounds_toArray, List.set_cons_zero, List.set_cons_succ]
      refine Rel.tk (v := ?_) 4 ?_ ?_
      rotate_left
      · (intro W hSw; (try dsimp only at hSw); go_simp; try with_reducible rfl)
      try simp only [Act.put, List.setIfInBounds_toArray, List.set_cons_zero, List.set_cons_succ]
      refine Rel.tk (v := ?_) 5 ?_ ?_
      rotate_left
      · (intro W hSw; (try dsimp only at hSw); go_simp; try with_reducible rfl)
      try simp only [Act.put, List.setIfInBounds_toArray, List.set_cons_zero, List.set_cons_succ]
      refine Rel.tk (v := ?_) 6 ?_ ?_
      rotate_left
      · (intro W hSw; (try dsimp only at hSw); go_simp; try with_reducible rfl)
      try simp only [Act.put, List.setIfInBounds_toArray, List.set_cons_zero, List.set_cons_succ]
      refine Rel.tk (v := ?_) 7 ?_ ?_
      rotate_left
      · (intro W hSw; (try dsimp only at hSw); go_simp; try with_reducible rfl)
      try simp only [Act.put, List.setIfInBounds_toArray, List.set_cons_zero, List.set_cons_succ]
      refine Rel.tk (v := ?_) 8 ?_ ?_
      rotate_left
      · (intro W hSw; (try dsimp only at hSw); go_simp; try with_reducible rfl)
      try simp only [Act.put, List.setIfInBounds_toArray, List.set_cons_zero, List.set_cons_succ]
      refine Rel.heldNext 9 rfl (by kernel_rfl) fun K hK => ?_
      go_simp
      refine (cV1 w4 D4 D4.below).mono ?_
      rintro e w5 ⟨rfl, hb5⟩
      have D5 := D4.mono hb5
      replace g6 := g6.mono hb5
      replace hb2 := below2 hb2 hb5
      refine hK.out _ _ ⟨D5.blk.cell (j := 0) rfl, D5.blk.cell (j := 4) rfl⟩ (fun hH1 => ?_)
      clear hK K
      try simp only [Act.put, List.setIfInBounds_toArray, List.set_cons_zero, List.set_cons_succ]
      refine Rel.tk (v := ?_) 10 ?_ ?_
      rotate_left
      · (intro W hSw; (try dsimp only at hSw); go_simp; try with_reducible rfl)
      try simp only [Act.put, List.setIfInBounds_toArray, List.set_cons_zero, List.set_cons_succ]
      have k0 := g6.cell (j := 0) (v := .int .u64 0) rfl
      have k1 := g6.cell (j := 1) (v := .int .u64 0) rfl
      have kf := g6.free
      refine Rel.heldLast 11 rfl (by kernel_rfl) rfl (by kernel_rfl) fun K hK => ?_
      go_simp
      refine hK.out _ _ ?_
      clear hK K hH0 hH1 k0 k1
      have g7 := (g6.set 0 (.int .u64 A)).set 1 (.int .u64 0)
      have hb7 : Below w.heap.size w ((w5.setCell ⟨w.heap.size, 0, none⟩ (.int .u64 A)).setCell ⟨w.heap.size, 1, none⟩ (.int .u64 0)) := (hb2.setCell (p := ⟨w.heap.size, 0, none⟩) (Nat.le_refl _) _).setCell (p := ⟨w.heap.size, 1, none⟩) (Nat.le_refl _) _
      have r0 := g7.cell (j := 0) (v := .int .u64 A) rfl
      have r1 := g7.cell (j := 1) (v := .int .u64 0) rfl
      go_wp2
      exact bodyPost_ret (v := .agg #[.int .u64 A, .int .u64 0]) (by simp [results, Tryz.results140, go_sem, r0, r1]) rfl ⟨rfl, hb7⟩
end Go.Proofs.YtalmgeefkcebdaaGreatDoor

/- Exhaustive search: the equations of a variable. -/
namespace Go.Proofs.YtalmgeefkcebdaaGreatDoor
open Go.ChangeShapes Go.WideShapes Go.ChangeAt Go.RowKit

theorem Tryz.infoEq : (Tryz.prog.info? 224).map (fun i => (i.zero, i.size, i.bytes)) = some (some (.agg #[.int .u64 0, .int .u64 0, .int .u64 0, .int .u64 0, .int .u64 0, .int .u64 0]), 6, 48) := by kernel_rfl
theorem flat6_set : ∀ (xs : List Eq3) (i : Nat) (t : Eq3), i < xs.length → ((((((xs.flatMap eqL.f).set (i * 6) (.int .u64 t.a.b)).set (i * 6 + 1) (.int .u64 t.a.s)).set (i * 6 + 2) (.int .u64 t.b.b)).set (i * 6 + 3) (.int .u64 t.b.s)).set (i * 6 + 4) (.int .u64 t.c.b)).set (i * 6 + 5) (.int .u64 t.c.s) = (xs.set i t).flatMap eqL.f
  | [], _, _, h => absurd h (by simp)
  | x :: xs, 0, t, _ => rfl
  | x :: xs, i + 1, t, h => by
    have ih := flat6_set xs i t (by simpa using h)
    rw [List.set_cons_succ, List.flatMap_cons, List.flatMap_cons, ← ih, show (i + 1) * 6 = i * 6 + 6 by omega]
    rfl
theorem OwnG.setEq {w : World} {base g n cap : Nat} {E : TypeId} {xs : List Eq3} (h : OwnG eqL w base E (.slice (some ⟨g, 0, none⟩) n cap) xs) (i : Nat) (hi : i < xs.length) (t : Eq3) :
    OwnG eqL ((((((w.setCell ⟨g, i * 6, none⟩ (.int .u64 t.a.b)).setCell ⟨g, i * 6 + 1, none⟩ (.int .u64 t.a.s)).setCell ⟨g, i * 6 + 2, none⟩ (.int .u64 t.b.b)).setCell ⟨g, i * 6 + 3, none⟩ (.int .u64 t.b.s)).setCell ⟨g, i * 6 + 4, none⟩ (.int .u64 t.c.b)).setCell ⟨g, i * 6 + 5, none⟩ (.int .u64 t.c.s)) base E (.slice (some ⟨g, 0, none⟩) n cap) (xs.set i t) := by
  rcases h.form with ⟨h0, _⟩ | ⟨g', cap', cur, h0, h1, h2, h3, h4, h5, h6⟩
  · cases h0
  · cases h0
    have := OwnG.of_blk (L := eqL) (w := (((((w.setCell ⟨g, i * 6, none⟩ (.int .u64 t.a.b)).setCell ⟨g, i * 6 + 1, none⟩ (.int .u64 t.a.s)).setCell ⟨g, i * 6 + 2, none⟩ (.int .u64 t.b.b)).setCell ⟨g, i * 6 + 3, none⟩ (.int .u64 t.b.s)).setCell ⟨g, i * 6 + 4, none⟩ (.int .u64 t.c.b)).setCell ⟨g, i * 6 + 5, none⟩ (.int .u64 t.c.s)) (xs := xs.set i t) (cap := cap) h1 ((((((h2.set (i * 6) _).set (i * 6 + 1) _).set (i * 6 + 2) _).set (i * 6 + 3) _).set (i * 6 + 4) _).set (i * 6 + 5) _) (by simpa using h3) h4 (by simpa using h5) (by
      simp only [Array.toList_setIfInBounds, List.length_set]
      rw [← flat6_set xs i t hi, ← h6]
      simp only [List.take_set])
    rw [List.length_set] at this
    exact this
/-- The equation of a row at v. -/
def eqnV (p : Int) (Wl : List Int) (v : Nat) (r : Row3) : Eq3 := ⟨lnV p Wl v r.a, lnV p Wl v r.b, lnV p Wl v r.c⟩
/-- A row that a search may hold. -/
def RowOk (p V : Nat) (r : Row3) : Prop := (LinIn p 0 V r.a ∧ r.a.length ≤ 1000000) ∧ (LinIn p 0 V r.b ∧ r.b.length ≤ 1000000) ∧ (LinIn p 0 V r.c ∧ r.c.length ≤ 1000000)
theorem eqs_ext {f : Rw → Eq3} {Rv : List Rw} {es : List Eq3} (hl : es.length = Rv.length) (h : ∀ k, k < Rv.length → es.getD k default = f (Rv.getD k default)) : es = Rv.map f := by
  refine List.ext_getElem (by rw [List.length_map, hl]) fun k h1 h2 => ?_
  have h3 := h k (by omega)
  rw [List.getD_eq_getElem?_getD, List.getD_eq_getElem?_getD, List.getElem?_eq_getElem h1, List.getElem?_eq_getElem (by omega)] at h3
  rw [List.getElem_map]
  exact h3

set_option maxRecDepth 10000 in
set_option maxHeartbeats 8000000 in
theorem equations_any {w0 w : World} {q p V last gi gr gw : Nat} {IL : List Int} {R : List Row3} {Wl : List Int} (D : SS w0 w q p V last gi gr gw IL R Wl) (hA : AllW Wl) (hVl : Wl.length = V) (v : Nat) (hv : vld (p : Int) = true) (hR : ∀ r ∈ R, RowOk p V r) (hvV : v < V) (hn : R.length ≤ 1000000) :
    Calls Tryz.prog 84 #[.pointer (some ⟨q, 0, none⟩), .int .i64 v] w fun en w' => ∃ g, en = .returned (.slice (some ⟨g, 0, none⟩) ((rowsAt R v).map (eqnV p Wl v)).length ((rowsAt R v).map (eqnV p Wl v)).length) ∧ OwnG eqL w' w.heap.size 224 (.slice (some ⟨g, 0, none⟩) ((rowsAt R v).map (eqnV p Wl v)).length ((rowsAt R v).map (eqnV p Wl v)).length) ((rowsAt R v).map (eqnV p Wl v)) ∧ Below w.heap.size w w' := by
  obtain ⟨a, c, Rv, h1, h2, h3, h4⟩ := D.rows v hvV
  have hlen : Rv.length ≤ 1000000 := by
    have : (Rv.map Rw.val).length ≤ R.length := by rw [h4]; exact List.length_filter_le _ _
    rw [List.length_map] at this
    omega
  have hrk : ∀ r ∈ Rv, RowOk p V r.val := fun r hr => hR _ (by
    have : r.val ∈ rowsAt R v := by rw [← h4]; exact List.mem_map_of_mem hr
    exact (List.mem_filter.1 this).1)
  have e4 : (rowsAt R v).map (eqnV p Wl v) = Rv.map fun r => eqnV p Wl v r.val := by rw [← h4, List.map_map]; rfl
  rw [e4]
  have cL := fun (x : Lc) W (D : SS w0 W q p V last gi gr gw IL R Wl) h1 h2 h3 => line_any D hA hVl x v h1 hv h2 hvV h3
  have hmk := fun W => run_mkG eqL (P := Tryz.prog) (t := 173) (e := 224) Tryz.underlying173 Tryz.infoEq (by decide) (N := (Rv.length : Int)) (C := (Rv.length : Int)) Rv.length Rv.length rfl rfl (Nat.le_refl _) (by omega) W
  have hvV' : (v : Int) < V := by omega
  have hv0 : (0 : Int) ≤ v := by omega
  replace hrk := hide hrk
  have k2 := D.blk.cell (j := 2) rfl
  obtain ⟨n, hn'⟩ : ∃ n, Rv.length = n := ⟨_, rfl⟩
  rw [hn'] at hlen h1 hmk
  rw [List.length_map, hn']
  have bl := fun o => (Below.refl w.heap.size w).alloc (Nat.le_refl _) o
  have k2' := fun o => cell_below (bl o) k2
  have h1' := fun o => cell_below (bl o) h1
  have sR := h2.slE
  have h30 := hide h3
  clear h3 h4 e4 hR h2 bl
  have hlenI : (n : Int) ≤ 1000000 := by omega
  replace hn' := hide hn'
  have own0 : OwnG eqL (w.alloc (.cells (madeCells #[.int .u64 0, .int .u64 0, .int .u64 0, .int .u64 0, .int .u64 0, .int .u64 0] (n * eqL.m)) 224)) w.heap.size 224 (.slice (some ⟨w.heap.size, 0, none⟩) n n) (List.replicate n ⟨⟨0, 0⟩, ⟨0, 0⟩, ⟨0, 0⟩⟩) := OwnG.made (⟨⟨0, 0⟩, ⟨0, 0⟩, ⟨0, 0⟩⟩ : Eq3) rfl (Nat.le_refl _) (by simp only [maxLen]; omega)
  go_enter Tryz.func84, Tryz.ntmps84
  go_wp2_with fail
  refine name_world fun w2 hN => ?_
  have hB2 : Below w.heap.size w w2 := by rw [hN]; exact (Below.refl _ _).alloc (Nat.le_refl _) _
  rw [← hN] at own0
  clear hN hmk k2 h1 k2' h1'
  go_loopw [25] (fun t25 wr => ∃ i : Nat, i ≤ n ∧ t25 = .int .i64 i ∧ Below w.heap.size w wr ∧ ∃ es, OwnG eqL wr w.heap.size 224 (.slice (some ⟨w.heap.size, 0, none⟩) n n) es ∧ Hid (es.length = n) ∧ Hid (∀ k, k < i → es.getD k default = eqnV p Wl v (Rv.getD k default).val)) (fun t25 _ => n - (intOf t25).toNat)
  case atStart => exact ⟨0, Nat.zero_le _, rfl, hB2, _, own0, hide (List.length_replicate ..), hide fun k hk => absurd hk (by omega)⟩
  case round =>
    clear hB2 own0
    obtain ⟨i, hi, rfl, hB, es, ow, hel, hes⟩ := hrel
    by_cases hlt : i < n
    · have hlt' : (i : Int) < n := by omega
      have hi0 : (0 : Int) ≤ i := by omega
      have hiR : i < Rv.length := by have := hn'.out; omega
      obtain ⟨b, off, rfl, hbl, hc⟩ := sR (by have := hn'.out; omega)
      have hmem := getD_mem' hiR default
      have hok := h30.out _ hmem
      have hrk1 := hrk.out _ hmem
      have d0 := cell_below hB (SlG.at_ (j := 0) default hc hiR (by decide) rfl)
      have d1 := cell_below hB (SlG.at_ (j := 1) default hc hiR (by decide) rfl)
      have d2 := cell_below hB (SlG.at_ (j := 2) default hc hiR (by decide) rfl)
      rw [show off + i * rwL.m + 0 = off + i * 3 from rfl] at d0
      rw [show off + i * rwL.m + 1 = off + i * 3 + 1 from rfl] at d1
      rw [show off + i * rwL.m + 2 = off + i * 3 + 2 from rfl] at d2
      have hnx : ∀ t, t = eqnV p Wl v (Rv.getD i default).val → Hid (∀ k, k < i + 1 → (es.set i t).getD k default = eqnV p Wl v (Rv.getD k default).val) := fun t ht => hide fun k hk => by
        by_cases e : k = i
        · subst e
          rw [List.getD_eq_getElem?_getD, List.getElem?_set_self (by have := hel.out; omega)]
          exact ht
        · rw [List.getD_eq_getElem?_getD, List.getElem?_set_ne (Ne.symm e), ← List.getD_eq_getElem?_getD]
          exact hes.out k (by omega)
      obtain ⟨r, hr⟩ : ∃ r, r = Rv.getD i default := ⟨_, rfl⟩
      rw [← hr] at d0 d1 d2 hok hrk1 hnx
      replace hr := hide hr
      replace d0 : wr.cell? ⟨b, off + i * 3, none⟩ = some (.slice r.a.ad r.a.l.length r.a.cap) := d0
      replace d1 : wr.cell? ⟨b, off + i * 3 + 1, none⟩ = some (.slice r.b.ad r.b.l.length r.b.cap) := d1
      replace d2 : wr.cell? ⟨b, off + i * 3 + 2, none⟩ = some (.slice r.c.ad r.c.l.length r.c.cap) := d2
      clear hc hmem hes sR
      obtain ⟨⟨ra1, ra2⟩, ⟨rb1, rb2⟩, ⟨rc1, rc2⟩⟩ := hrk1
      have cA := fun W D => cL r.a W D hok.1 ra1 ra2
      have cB := fun W D => cL r.b W D hok.2.1 rb1 rb2
      have cC := fun W D => cL r.c W D hok.2.2 rc1 rc2
      replace hnx := hide (hnx _ rfl)
      simp only [eqnV, Rw.val] at hnx
      generalize hA' : lnV p Wl v r.a.l = A at *
      generalize hB' : lnV p Wl v r.b.l = B at *
      generalize hC' : lnV p Wl v r.c.l = C at *
      clear cL hok ra1 ra2 rb1 rb2 rc1 rc2 hA' hB' hC' hvV
      go_wp2_with fail
      refine name_world fun w3 hN => ?_
      have gT : Blk w3 wr.heap.size #[.slice r.a.ad r.a.l.length r.a.cap, .slice r.b.ad r.b.l.length r.b.cap, .slice r.c.ad r.c.l.length r.c.cap] 97 := by rw [hN]; exact Blk.newAt rfl
      have hb3 : Below wr.heap.size wr w3 := by rw [hN]; exact (Below.refl _ _).alloc (Nat.le_refl _) _
      replace ow := ow.mono hb3
      replace hB := below2 hB hb3
      clear hN d0 d1 d2 hb3
      refine Rel.region_any Tryz.mixed fun w4 hb4 => ?_
      replace gT := gT.mono hb4
      replace ow := ow.mono hb4
      replace hB := below2 hB hb4
      have D4 := D.mono hB
      clear hb4
      refine Rel.any_held (fun W => W.cell? ⟨wr.heap.size, 0, none⟩ = some (.slice r.a.ad r.a.l.length r.a.cap) ∧ W.cell? ⟨wr.heap.size, 1, none⟩ = some (.slice r.b.ad r.b.l.length r.b.cap) ∧ W.cell? ⟨wr.heap.size, 2, none⟩ = some (.slice r.c.ad r.c.l.length r.c.cap)) 19 ⟨gT.cell (j := 0) rfl, gT.cell (j := 1) rfl, gT.cell (j := 2) rfl⟩ fun hH0 => ?_
      refine Rel.tk (v := ?_) 0 ?_ ?_
      rotate_left
      · (intro W hSw; (try dsimp only at hSw); go_simp; try with_reducible rfl)
      try simp only [Act.put, List.setIfInBounds_toArray, List.set_cons_zero, List.set_cons_succ]
      refine Rel.tk (v := ?_) 1 ?_ ?_
      rotate_left
      · (intro W hSw; (try dsimp only at hSw); go_simp; try with_reducible rfl)
      try simp only [Act.put, List.setIfInBounds_toArray, List.set_cons_zero, List.set_cons_succ]
      refine Rel.tk (v := ?_) 2 ?_ ?_
      rotate_left
      · (intro W hSw; (try dsimp only at hSw); go_simp; try with_reducible rfl)
      try simp only [Act.put, List.setIfInBounds_toArray, List.set_cons_zero, List.set_cons_succ]
      refine Rel.tk (v := ?_) 3 ?_ ?_
      rotate_left
      · (intro W hSw; (try dsimp only at hSw); go_simp; try with_reducible rfl)
      try simp only [Act.put, List.setIfInBounds_toArray, List.set_cons_zero, List.set_cons_succ]
      refine Rel.tk (v := ?_) 4 ?_ ?_
      rotate_left
      · (intro W hSw; (try dsimp only at hSw); go_simp; try with_reducible rfl)
      try simp only [Act.put, List.setIfInBounds_toArray, List.set_cons_zero, List.set_cons_succ]
      refine Rel.tk (v := ?_) 5 ?_ ?_
      rotate_left
      · (intro W hSw; (try dsimp only at hSw); go_simp; try with_reducible rfl)
      try simp only [Act.put, List.setIfInBounds_toArray, List.set_cons_zero, List.set_cons_succ]
      refine Rel.tk (v := ?_) 7 ?_ ?_
      rotate_left
      · (intro W hSw; (try dsimp only at hSw); go_simp; try with_reducible rfl)
      try simp only [Act.put, List.setIfInBounds_toArray, List.set_cons_zero, List.set_cons_succ]
      refine Rel.tk (v := ?_) 8 ?_ ?_
      rotate_left
      · (intro W hSw; (try dsimp only at hSw); go_simp; try with_reducible rfl)
      try simp only [Act.put, List.setIfInBounds_toArray, List.set_cons_zero, List.set_cons_succ]
      refine Rel.tk (v := ?_) 9 ?_ ?_
      rotate_left
      · (intro W hSw; (try dsimp only at hSw); go_simp; try with_reducible rfl)
      try simp only [Act.put, List.setIfInBounds_toArray, List.set_cons_zero, List.set_cons_succ]
      refine Rel.tk (v := ?_) 10 ?_ ?_
      rotate_left
      · (intro W hSw; (try dsimp only at hSw); go_simp; try with_reducible rfl)
      try simp only [Act.put, List.setIfInBounds_toArray, List.set_cons_zero, List.set_cons_succ]
      refine Rel.tk (v := ?_) 12 ?_ ?_
      rotate_left
      · (intro W hSw; (try dsimp only at hSw); go_simp; try with_reducible rfl)
      try simp only [Act.put, List.setIfInBounds_toArray, List.set_cons_zero, List.set_cons_succ]
      refine Rel.tk (v := ?_) 13 ?_ ?_
      rotate_left
      · (intro W hSw; (try dsimp only at hSw); go_simp; try with_reducible rfl)
      try simp only [Act.put, List.setIfInBounds_toArray, List.set_cons_zero, List.set_cons_succ]
      refine Rel.tk (v := ?_) 14 ?_ ?_
      rotate_left
      · (intro W hSw; (try dsimp only at hSw); go_simp; try with_reducible rfl)
      try simp only [Act.put, List.setIfInBounds_toArray, List.set_cons_zero, List.set_cons_succ]
      refine Rel.tk (v := ?_) 15 ?_ ?_
      rotate_left
      · (intro W hSw; (try dsimp only at hSw); go_simp; try with_reducible rfl)
      try simp only [Act.put, List.setIfInBounds_toArray, List.set_cons_zero, List.set_cons_succ]
      refine Rel.heldNext 6 rfl (by kernel_rfl) fun K hK => ?_
      go_simp
      refine (cA w4 D4).mono ?_
      rintro e w5 ⟨rfl, hb5⟩
      have D5 := D4.mono hb5
      replace gT := gT.mono hb5
      replace ow := ow.mono hb5
      replace hB := below2 hB hb5
      clear hb5
      refine hK.out _ _ ⟨gT.cell (j := 0) rfl, gT.cell (j := 1) rfl, gT.cell (j := 2) rfl⟩ (fun hH1 => ?_)
      clear hK K
      try simp only [Act.put, List.setIfInBounds_toArray, List.set_cons_zero, List.set_cons_succ]
      refine Rel.heldNext 11 rfl (by kernel_rfl) fun K hK => ?_
      go_simp
      refine (cB w5 D5).mono ?_
      rintro e w6 ⟨rfl, hb6⟩
      have D6 := D5.mono hb6
      replace gT := gT.mono hb6
      replace ow := ow.mono hb6
      replace hB := below2 hB hb6
      clear hb6
      refine hK.out _ _ ⟨gT.cell (j := 0) rfl, gT.cell (j := 1) rfl, gT.cell (j := 2) rfl⟩ (fun hH2 => ?_)
      clear hK K
      try simp only [Act.put, List.setIfInBounds_toArray, List.set_cons_zero, List.set_cons_succ]
      refine Rel.heldNext 16 rfl (by kernel_rfl) fun K hK => ?_
      go_simp
      refine (cC w6 D6).mono ?_
      rintro e w7 ⟨rfl, hb7⟩
      replace gT := gT.mono hb7
      replace ow := ow.mono hb7
      replace hB := below2 hB hb7
      clear hb7
      refine hK.out _ _ ⟨gT.cell (j := 0) rfl, gT.cell (j := 1) rfl, gT.cell (j := 2) rfl⟩ (fun hH3 => ?_)
      clear hK K
      try simp only [Act.put, List.setIfInBounds_toArray, List.set_cons_zero, List.set_cons_succ]
      refine Rel.tk (v := ?_) 17 ?_ ?_
      rotate_left
      · (intro W hSw; (try dsimp only at hSw); go_simp; try with_reducible rfl)
      try simp only [Act.put, List.setIfInBounds_toArray, List.set_cons_zero, List.set_cons_succ]
      refine Rel.tk (v := ?_) 18 ?_ ?_
      rotate_left
      · (intro W hSw; (try dsimp only at hSw); go_simp; try with_reducible rfl)
      try simp only [Act.put, List.setIfInBounds_toArray, List.set_cons_zero, List.set_cons_succ]
      have hiE : i < es.length := by have := hel.out; omega
      have k0 := ow.cellE (i := i) (j := 0) default hiE (by decide) rfl
      have k1 := ow.cellE (i := i) (j := 1) default hiE (by decide) rfl
      have k2 := ow.cellE (i := i) (j := 2) default hiE (by decide) rfl
      have k3 := ow.cellE (i := i) (j := 3) default hiE (by decide) rfl
      have k4 := ow.cellE (i := i) (j := 4) default hiE (by decide) rfl
      have k5 := ow.cellE (i := i) (j := 5) default hiE (by decide) rfl
      rw [show i * eqL.m + 0 = i * 6 from rfl] at k0
      rw [show i * eqL.m + 1 = i * 6 + 1 from rfl] at k1
      rw [show i * eqL.m + 2 = i * 6 + 2 from rfl] at k2
      rw [show i * eqL.m + 3 = i * 6 + 3 from rfl] at k3
      rw [show i * eqL.m + 4 = i * 6 + 4 from rfl] at k4
      rw [show i * eqL.m + 5 = i * 6 + 5 from rfl] at k5
      obtain ⟨_, cs, gE⟩ := ow.blkE
      have kf := gE.free
      have own' := ow.setEq i hiE ⟨A, B, C⟩
      refine Rel.heldLast 19 rfl (by kernel_rfl) rfl (by kernel_rfl) fun K hK => ?_
      go_simp
      refine hK.out _ _ ?_
      clear hK K hH0 hH1 hH2 hH3 k0 k1 k2 k3 k4 k5 kf
      have hBn := (((((hB.setCell (p := ⟨w.heap.size, i * 6, none⟩) (Nat.le_refl _) (.int .u64 A.b)).setCell (p := ⟨w.heap.size, i * 6 + 1, none⟩) (Nat.le_refl _) (.int .u64 A.s)).setCell (p := ⟨w.heap.size, i * 6 + 2, none⟩) (Nat.le_refl _) (.int .u64 B.b)).setCell (p := ⟨w.heap.size, i * 6 + 3, none⟩) (Nat.le_refl _) (.int .u64 B.s)).setCell (p := ⟨w.heap.size, i * 6 + 4, none⟩) (Nat.le_refl _) (.int .u64 C.b)).setCell (p := ⟨w.heap.size, i * 6 + 5, none⟩) (Nat.le_refl _) (.int .u64 C.s)
      go_wp2
      go_roundw
      case rel => exact ⟨i + 1, by omega, by go_num, hBn, _, own', hide (by rw [List.length_set]; exact hel.out), hnx⟩
      case measure => simp [intOf]; omega
    · obtain rfl : i = n := by omega
      have hfin : es = Rv.map fun r => eqnV p Wl v r.val := eqs_ext (by have := hel.out; have := hn'.out; omega) (by rw [hn'.out]; exact hes.out)
      go_wp2
      go_ret
      exact ⟨_, rfl, by rw [← hfin]; exact ow, hB⟩
end Go.Proofs.YtalmgeefkcebdaaGreatDoor

