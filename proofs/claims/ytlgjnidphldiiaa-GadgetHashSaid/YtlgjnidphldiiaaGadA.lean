/- Gadgets: sums of linear combinations, in plain Lean. -/
import Derived.Test.YtlgjnidphldiiaaCircM
namespace Go.Proofs.Ytlgjnidphldiiaa
open Go.RowKit

abbrev Lin := List (Int × Int)
def keepT (t : Int × Int) : Lin := if t.2 = 0 then [] else [t]
/-- x + n y, as the program reckons it. -/
def comb (p n : Int) : Lin → Lin → Lin
  | [], [] => []
  | x :: xs, [] => keepT x ++ comb p n xs []
  | [], y :: ys => keepT (y.1, fmul p n y.2) ++ comb p n [] ys
  | x :: xs, y :: ys => if x.1 < y.1 then keepT x ++ comb p n xs (y :: ys) else if y.1 < x.1 then keepT (y.1, fmul p n y.2) ++ comb p n (x :: xs) ys else keepT (x.1, fadd p x.2 (fmul p n y.2)) ++ comb p n xs ys
termination_by x y => x.length + y.length

/-- The sum and the product with a number, as the reference reckons them. -/
def radd (p : Int) : Lin → Lin → Lin
  | [], [] => []
  | x :: xs, [] => x :: radd p xs []
  | [], y :: ys => y :: radd p [] ys
  | x :: xs, y :: ys => if x.1 < y.1 then x :: radd p xs (y :: ys) else if y.1 < x.1 then y :: radd p (x :: xs) ys else keepT (x.1, fadd p x.2 y.2) ++ radd p xs ys
termination_by x y => x.length + y.length
def rscale (p : Int) (x : Lin) (n : Int) : Lin := x.flatMap fun t => keepT (t.1, fmul p t.2 n)

/-- All coefficients are reduced and not 0. -/
def CoefOk (p : Int) (x : Lin) : Prop := ∀ t ∈ x, 0 < t.2 ∧ t.2 < p
theorem CoefOk.tail {p : Int} {t : Int × Int} {x : Lin} (h : CoefOk p (t :: x)) : CoefOk p x := fun u hu => h u (List.mem_cons_of_mem _ hu)
theorem CoefOk.head {p : Int} {t : Int × Int} {x : Lin} (h : CoefOk p (t :: x)) : 0 < t.2 ∧ t.2 < p := h t (List.mem_cons_self ..)
theorem CoefOk.nil (p : Int) : CoefOk p [] := fun t ht => by cases ht

theorem keepT_of {t : Int × Int} (h : 0 < t.2) : keepT t = [t] := by unfold keepT; rw [if_neg (by omega)]
theorem fmul_one {p c : Int} (hv : vld p = true) (h : 0 < c ∧ c < p) : fmul p 1 c = c := by rw [fmul_eq hv, Int.one_mul, Int.emod_eq_of_lt (by omega) h.2]
theorem fmul_comm (p a b : Int) : fmul p a b = fmul p b a := by unfold fmul; rw [Int.mul_comm]
theorem fmul_neg {p c : Int} (hv : vld p = true) (h : 0 < c ∧ c < p) : fmul p (p - 1) c = p - c := by
  rw [fmul_eq hv]
  have e : (p - 1) * c = (p - c) + p * (c - 1) := by rw [Int.sub_mul, Int.mul_sub]; omega
  rw [e, Int.add_mul_emod_self_left, Int.emod_eq_of_lt (by omega) (by omega)]

/-- n does not turn a coefficient to 0. -/
theorem comb_add {p : Int} (hv : vld p = true) : ∀ (x y : Lin), CoefOk p x → CoefOk p y → comb p 1 x y = radd p x y
  | [], [], _, _ => by rw [comb, radd]
  | x :: xs, [], hx, hy => by rw [comb, radd, keepT_of hx.head.1, comb_add hv xs [] hx.tail hy]; rfl
  | [], y :: ys, hx, hy => by rw [comb, radd, fmul_one hv hy.head, keepT_of hy.head.1, comb_add hv [] ys hx hy.tail]; rfl
  | x :: xs, y :: ys, hx, hy => by
    rw [comb, radd, fmul_one hv hy.head, keepT_of hx.head.1, keepT_of hy.head.1, comb_add hv xs (y :: ys) hx.tail hy, comb_add hv (x :: xs) ys hx hy.tail, comb_add hv xs ys hx.tail hy.tail]
    rfl
termination_by x y => x.length + y.length

theorem rscale_nil (p n : Int) : rscale p [] n = [] := rfl
theorem rscale_cons (p n : Int) (t : Int × Int) (x : Lin) : rscale p (t :: x) n = keepT (t.1, fmul p t.2 n) ++ rscale p x n := rfl
theorem rscale_neg {p : Int} (hv : vld p = true) {y : Lin} (hy : CoefOk p y) : rscale p y (p - 1) = y.map fun t => (t.1, p - t.2) := by
  induction y with
  | nil => rfl
  | cons t y ih =>
    have h := hy.head
    rw [rscale_cons, fmul_comm, fmul_neg hv h, keepT_of (by simp; omega), ih hy.tail]
    rfl
theorem comb_sub {p : Int} (hv : vld p = true) : ∀ (x y : Lin), CoefOk p x → CoefOk p y → comb p (p - 1) x y = radd p x (y.map fun t => (t.1, p - t.2))
  | [], [], _, _ => by rw [comb, List.map_nil, radd]
  | x :: xs, [], hx, hy => by rw [comb, List.map_nil, radd, keepT_of hx.head.1, comb_sub hv xs [] hx.tail hy]; rfl
  | [], y :: ys, hx, hy => by
    have h := hy.head
    rw [comb, List.map_cons, radd, fmul_neg hv h, keepT_of (by simp; omega), comb_sub hv [] ys hx hy.tail]; rfl
  | x :: xs, y :: ys, hx, hy => by
    have h := hy.head
    rw [comb, List.map_cons, radd, fmul_neg hv h, keepT_of hx.head.1, keepT_of (t := (y.1, p - y.2)) (by simp; omega), comb_sub hv xs (y :: ys) hx.tail hy, comb_sub hv (x :: xs) ys hx hy.tail, comb_sub hv xs ys hx.tail hy.tail]
    rfl
termination_by x y => x.length + y.length
theorem comb_scale (p n : Int) : ∀ y : Lin, comb p n [] y = rscale p y n
  | [] => by rw [comb]; rfl
  | y :: ys => by rw [comb, rscale_cons, comb_scale p n ys, fmul_comm]

/-- What the program's functions return. -/
def addP (p : Int) (x y : Lin) (n : Int) : Lin := if vld p then comb p n x y else []
theorem comb_len (p n : Int) : ∀ (x y : Lin), (comb p n x y).length ≤ x.length + y.length := by
  have hk : ∀ t, (keepT t).length ≤ 1 := fun t => by unfold keepT; split <;> simp
  intro x y
  induction x, y using comb.induct with
  | case1 => rw [comb]; simp
  | case2 x xs ih => rw [comb, List.length_append]; have := hk x; simp at ih ⊢; omega
  | case3 y ys ih => rw [comb, List.length_append]; have := hk (y.1, fmul p n y.2); simp at ih ⊢; omega
  | case4 x xs y ys h ih => rw [comb, if_pos h, List.length_append]; have := hk x; simp at ih ⊢; omega
  | case5 x xs y ys h h2 ih => rw [comb, if_neg h, if_pos h2, List.length_append]; have := hk (y.1, fmul p n y.2); simp at ih ⊢; omega
  | case6 x xs y ys h h2 ih => rw [comb, if_neg h, if_neg h2, List.length_append]; have := hk (x.1, fadd p x.2 (fmul p n y.2)); simp at ih ⊢; omega

/-- Ascending variables, from lo on and below hi; coefficients as they must be. -/
def Asc (lo : Int) : Lin → Prop
  | [] => True
  | t :: x => lo ≤ t.1 ∧ Asc (t.1 + 1) x
def LinIn (p lo hi : Int) (x : Lin) : Prop := CoefOk p x ∧ Asc lo x ∧ ∀ t ∈ x, t.1 < hi
theorem Asc.low {lo l2 : Int} {x : Lin} (h : Asc lo x) (hl : l2 ≤ lo) : Asc l2 x := by
  cases x with
  | nil => trivial
  | cons t x => exact ⟨Int.le_trans hl h.1, h.2⟩
theorem CoefOk.keep {p v c : Int} {x : Lin} (hc : 0 ≤ c ∧ c < p) (h : CoefOk p x) : CoefOk p (keepT (v, c) ++ x) := by
  unfold keepT
  split
  · exact h
  · rename_i h0
    intro t ht
    rcases List.mem_append.1 ht with h1 | h1
    · rw [List.mem_singleton] at h1; subst h1; simp only at h0 ⊢; omega
    · exact h t h1
theorem Asc.keep {lo v c : Int} {x : Lin} (hv : lo ≤ v) (h : Asc (v + 1) x) : Asc lo (keepT (v, c) ++ x) := by
  unfold keepT
  split
  · exact h.low (by omega)
  · exact ⟨hv, h⟩
theorem fmul_lt {p : Int} (hv : vld p = true) (a b : Int) : 0 ≤ fmul p a b ∧ fmul p a b < p := by
  have hp := vld_pos hv
  rw [fmul_eq hv]
  exact mod_lt' (by omega) _
theorem fadd_ltp {p : Int} (hv : vld p = true) (a b : Int) : 0 ≤ fadd p a b ∧ fadd p a b < p := by
  have hp := vld_pos hv
  rw [fadd_eq hv]
  exact mod_lt' (by omega) _
theorem comb_ok {p n : Int} (hv : vld p = true) : ∀ (x y : Lin) (lo : Int), CoefOk p x → CoefOk p y → Asc lo x → Asc lo y → CoefOk p (comb p n x y) ∧ Asc lo (comb p n x y) := by
  intro x y
  induction x, y using comb.induct with
  | case1 => intro lo _ _ _ _; rw [comb]; exact ⟨CoefOk.nil _, trivial⟩
  | case2 x xs ih =>
    intro lo h1 h2 h3 h4
    obtain ⟨i1, i2⟩ := ih (x.1 + 1) h1.tail h2 h3.2 trivial
    rw [comb]
    have := h1.head
    exact ⟨CoefOk.keep ⟨by omega, this.2⟩ i1, Asc.keep h3.1 i2⟩
  | case3 y ys ih =>
    intro lo h1 h2 h3 h4
    obtain ⟨i1, i2⟩ := ih (y.1 + 1) h1 h2.tail trivial h4.2
    rw [comb]
    exact ⟨CoefOk.keep (fmul_lt hv _ _) i1, Asc.keep h4.1 i2⟩
  | case4 x xs y ys h ih =>
    intro lo h1 h2 h3 h4
    obtain ⟨i1, i2⟩ := ih (x.1 + 1) h1.tail h2 h3.2 ⟨by omega, h4.2⟩
    rw [comb, if_pos h]
    have := h1.head
    exact ⟨CoefOk.keep ⟨by omega, this.2⟩ i1, Asc.keep h3.1 i2⟩
  | case5 x xs y ys h hh ih =>
    intro lo h1 h2 h3 h4
    obtain ⟨i1, i2⟩ := ih (y.1 + 1) h1 h2.tail ⟨by omega, h3.2⟩ h4.2
    rw [comb, if_neg h, if_pos hh]
    exact ⟨CoefOk.keep (fmul_lt hv _ _) i1, Asc.keep h4.1 i2⟩
  | case6 x xs y ys h hh ih =>
    intro lo h1 h2 h3 h4
    obtain ⟨i1, i2⟩ := ih (x.1 + 1) h1.tail h2.tail h3.2 (h4.2.low (by omega))
    rw [comb, if_neg h, if_neg hh]
    exact ⟨CoefOk.keep (fadd_ltp hv _ _) i1, Asc.keep h3.1 i2⟩
theorem comb_vars (p n : Int) : ∀ (x y : Lin) (Q : Int → Prop), (∀ t ∈ x, Q t.1) → (∀ t ∈ y, Q t.1) → ∀ t ∈ comb p n x y, Q t.1 := by
  have hk : ∀ (u t : Int × Int) (Q : Int → Prop), Q u.1 → t ∈ keepT u → Q t.1 := fun u t Q h ht => by
    unfold keepT at ht
    split at ht
    · cases ht
    · rw [List.mem_singleton] at ht; rw [ht]; exact h
  intro x y
  induction x, y using comb.induct with
  | case1 => intro Q _ _ t ht; rw [comb] at ht; cases ht
  | case2 x xs ih =>
    intro Q h1 h2 t ht
    rw [comb] at ht
    rcases List.mem_append.1 ht with h | h
    · exact hk _ _ Q (h1 x (List.mem_cons_self ..)) h
    · exact ih Q (fun t ht => h1 t (List.mem_cons_of_mem _ ht)) h2 t h
  | case3 y ys ih =>
    intro Q h1 h2 t ht
    rw [comb] at ht
    rcases List.mem_append.1 ht with h | h
    · exact hk (y.1, fmul p n y.2) _ Q (h2 y (List.mem_cons_self ..)) h
    · exact ih Q h1 (fun t ht => h2 t (List.mem_cons_of_mem _ ht)) t h
  | case4 x xs y ys hh ih =>
    intro Q h1 h2 t ht
    rw [comb, if_pos hh] at ht
    rcases List.mem_append.1 ht with h | h
    · exact hk _ _ Q (h1 x (List.mem_cons_self ..)) h
    · exact ih Q (fun t ht => h1 t (List.mem_cons_of_mem _ ht)) h2 t h
  | case5 x xs y ys hh h3 ih =>
    intro Q h1 h2 t ht
    rw [comb, if_neg hh, if_pos h3] at ht
    rcases List.mem_append.1 ht with h | h
    · exact hk (y.1, fmul p n y.2) _ Q (h2 y (List.mem_cons_self ..)) h
    · exact ih Q h1 (fun t ht => h2 t (List.mem_cons_of_mem _ ht)) t h
  | case6 x xs y ys hh h3 ih =>
    intro Q h1 h2 t ht
    rw [comb, if_neg hh, if_neg h3] at ht
    rcases List.mem_append.1 ht with h | h
    · exact hk (x.1, fadd p x.2 (fmul p n y.2)) _ Q (h1 x (List.mem_cons_self ..)) h
    · exact ih Q (fun t ht => h1 t (List.mem_cons_of_mem _ ht)) (fun t ht => h2 t (List.mem_cons_of_mem _ ht)) t h
theorem comb_in {p n lo hi : Int} (hv : vld p = true) {x y : Lin} (hx : LinIn p lo hi x) (hy : LinIn p lo hi y) : LinIn p lo hi (comb p n x y) := by
  obtain ⟨h1, h2⟩ := comb_ok (n := n) hv x y lo hx.1 hy.1 hx.2.1 hy.2.1
  exact ⟨h1, h2, comb_vars p n x y (fun v => v < hi) hx.2.2 hy.2.2⟩
end Go.Proofs.Ytlgjnidphldiiaa
