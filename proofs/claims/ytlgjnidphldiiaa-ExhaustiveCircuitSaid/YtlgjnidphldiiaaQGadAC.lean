/- Gadgets: sums of linear combinations, in plain Lean. -/
import Derived.Test.YtlgjnidphldiiaaQCircM
import Derived.Test.YtlgjnidphldiiaaQCirL
import Derived.Test.YtlgjnidphldiiaaQRef1X
namespace Go.Proofs.Ytlgjnidphldiiaa
open Go.RowKit

abbrev Lin := List (Int × Int)
def keepT (t : Int × Int) : Lin := if t.2 = 0 then [] else [t]
/-- x + n y, as the program reckons it. -/
def comb (p n : Int) : Lin → Lin → Lin
  | [], [] => []
  | x :: xs, [] => keepT x ++ comb p n xs []
  | [], y :: ys => keepT (y.1, fmul p n y.2) ++ comb p n [] ys
  | x :: xs, y :: ys => if x.1 < y.1 then keepT x ++ comb p n xs (y :: ys) else if y.1 < x.1 then keepT (y.1, fmul p n y.2) ++ comb p n (x :: xs) ys else keepT (x.1, fadd p x.2 (fmul p n y.2)) ++ comb p n xs ys
termination_by x y => x.length + y.length

/-- The sum and the product with a number, as the reference reckons them. -/
def radd (p : Int) : Lin → Lin → Lin
  | [], [] => []
  | x :: xs, [] => x :: radd p xs []
  | [], y :: ys => y :: radd p [] ys
  | x :: xs, y :: ys => if x.1 < y.1 then x :: radd p xs (y :: ys) else if y.1 < x.1 then y :: radd p (x :: xs) ys else keepT (x.1, fadd p x.2 y.2) ++ radd p xs ys
termination_by x y => x.length + y.length
def rscale (p : Int) (x : Lin) (n : Int) : Lin := x.flatMap fun t => keepT (t.1, fmul p t.2 n)

/-- All coefficients are reduced and not 0. -/
def CoefOk (p : Int) (x : Lin) : Prop := ∀ t ∈ x, 0 < t.2 ∧ t.2 < p
theorem CoefOk.tail {p : Int} {t : Int × Int} {x : Lin} (h : CoefOk p (t :: x)) : CoefOk p x := fun u hu => h u (List.mem_cons_of_mem _ hu)
theorem CoefOk.head {p : Int} {t : Int × Int} {x : Lin} (h : CoefOk p (t :: x)) : 0 < t.2 ∧ t.2 < p := h t (List.mem_cons_self ..)
theorem CoefOk.nil (p : Int) : CoefOk p [] := fun t ht => by cases ht

theorem keepT_of {t : Int × Int} (h : 0 < t.2) : keepT t = [t] := by unfold keepT; rw [if_neg (by omega)]
theorem fmul_one {p c : Int} (hv : vld p = true) (h : 0 < c ∧ c < p) : fmul p 1 c = c := by rw [fmul_eq hv, Int.one_mul, Int.emod_eq_of_lt (by omega) h.2]
theorem fmul_comm (p a b : Int) : fmul p a b = fmul p b a := by unfold fmul; rw [Int.mul_comm]
theorem fmul_neg {p c : Int} (hv : vld p = true) (h : 0 < c ∧ c < p) : fmul p (p - 1) c = p - c := by
  rw [fmul_eq hv]
  have e : (p - 1) * c = (p - c) + p * (c - 1) := by rw [Int.sub_mul, Int.mul_sub]; omega
  rw [e, Int.add_mul_emod_self_left, Int.emod_eq_of_lt (by omega) (by omega)]

/-- n does not turn a coefficient to 0. -/
theorem comb_add {p : Int} (hv : vld p = true) : ∀ (x y : Lin), CoefOk p x → CoefOk p y → comb p 1 x y = radd p x y
  | [], [], _, _ => by rw [comb, radd]
  | x :: xs, [], hx, hy => by rw [comb, radd, keepT_of hx.head.1, comb_add hv xs [] hx.tail hy]; rfl
  | [], y :: ys, hx, hy => by rw [comb, radd, fmul_one hv hy.head, keepT_of hy.head.1, comb_add hv [] ys hx hy.tail]; rfl
  | x :: xs, y :: ys, hx, hy => by
    rw [comb, radd, fmul_one hv hy.head, keepT_of hx.head.1, keepT_of hy.head.1, comb_add hv xs (y :: ys) hx.tail hy, comb_add hv (x :: xs) ys hx hy.tail, comb_add hv xs ys hx.tail hy.tail]
    rfl
termination_by x y => x.length + y.length

theorem rscale_nil (p n : Int) : rscale p [] n = [] := rfl
theorem rscale_cons (p n : Int) (t : Int × Int) (x : Lin) : rscale p (t :: x) n = keepT (t.1, fmul p t.2 n) ++ rscale p x n := rfl
theorem rscale_neg {p : Int} (hv : vld p = true) {y : Lin} (hy : CoefOk p y) : rscale p y (p - 1) = y.map fun t => (t.1, p - t.2) := by
  induction y with
  | nil => rfl
  | cons t y ih =>
    have h := hy.head
    rw [rscale_cons, fmul_comm, fmul_neg hv h, keepT_of (by simp; omega), ih hy.tail]
    rfl
theorem comb_sub {p : Int} (hv : vld p = true) : ∀ (x y : Lin), CoefOk p x → CoefOk p y → comb p (p - 1) x y = radd p x (y.map fun t => (t.1, p - t.2))
  | [], [], _, _ => by rw [comb, List.map_nil, radd]
  | x :: xs, [], hx, hy => by rw [comb, List.map_nil, radd, keepT_of hx.head.1, comb_sub hv xs [] hx.tail hy]; rfl
  | [], y :: ys, hx, hy => by
    have h := hy.head
    rw [comb, List.map_cons, radd, fmul_neg hv h, keepT_of (by simp; omega), comb_sub hv [] ys hx hy.tail]; rfl
  | x :: xs, y :: ys, hx, hy => by
    have h := hy.head
    rw [comb, List.map_cons, radd, fmul_neg hv h, keepT_of hx.head.1, keepT_of (t := (y.1, p - y.2)) (by simp; omega), comb_sub hv xs (y :: ys) hx.tail hy, comb_sub hv (x :: xs) ys hx hy.tail, comb_sub hv xs ys hx.tail hy.tail]
    rfl
termination_by x y => x.length + y.length
theorem comb_scale (p n : Int) : ∀ y : Lin, comb p n [] y = rscale p y n
  | [] => by rw [comb]; rfl
  | y :: ys => by rw [comb, rscale_cons, comb_scale p n ys, fmul_comm]

/-- What the program's functions return. -/
def addP (p : Int) (x y : Lin) (n : Int) : Lin := if vld p then comb p n x y else []
theorem comb_len (p n : Int) : ∀ (x y : Lin), (comb p n x y).length ≤ x.length + y.length := by
  have hk : ∀ t, (keepT t).length ≤ 1 := fun t => by unfold keepT; split <;> simp
  intro x y
  induction x, y using comb.induct with
  | case1 => rw [comb]; simp
  | case2 x xs ih => rw [comb, List.length_append]; have := hk x; simp at ih ⊢; omega
  | case3 y ys ih => rw [comb, List.length_append]; have := hk (y.1, fmul p n y.2); simp at ih ⊢; omega
  | case4 x xs y ys h ih => rw [comb, if_pos h, List.length_append]; have := hk x; simp at ih ⊢; omega
  | case5 x xs y ys h h2 ih => rw [comb, if_neg h, if_pos h2, List.length_append]; have := hk (y.1, fmul p n y.2); simp at ih ⊢; omega
  | case6 x xs y ys h h2 ih => rw [comb, if_neg h, if_neg h2, List.length_append]; have := hk (x.1, fadd p x.2 (fmul p n y.2)); simp at ih ⊢; omega

/-- Ascending variables, from lo on and below hi; coefficients as they must be. -/
def Asc (lo : Int) : Lin → Prop
  | [] => True
  | t :: x => lo ≤ t.1 ∧ Asc (t.1 + 1) x
def LinIn (p lo hi : Int) (x : Lin) : Prop := CoefOk p x ∧ Asc lo x ∧ ∀ t ∈ x, t.1 < hi
theorem Asc.low {lo l2 : Int} {x : Lin} (h : Asc lo x) (hl : l2 ≤ lo) : Asc l2 x := by
  cases x with
  | nil => trivial
  | cons t x => exact ⟨Int.le_trans hl h.1, h.2⟩
theorem CoefOk.keep {p v c : Int} {x : Lin} (hc : 0 ≤ c ∧ c < p) (h : CoefOk p x) : CoefOk p (keepT (v, c) ++ x) := by
  unfold keepT
  split
  · exact h
  · rename_i h0
    intro t ht
    rcases List.mem_append.1 ht with h1 | h1
    · rw [List.mem_singleton] at h1; subst h1; simp only at h0 ⊢; omega
    · exact h t h1
theorem Asc.keep {lo v c : Int} {x : Lin} (hv : lo ≤ v) (h : Asc (v + 1) x) : Asc lo (keepT (v, c) ++ x) := by
  unfold keepT
  split
  · exact h.low (by omega)
  · exact ⟨hv, h⟩
theorem fmul_lt {p : Int} (hv : vld p = true) (a b : Int) : 0 ≤ fmul p a b ∧ fmul p a b < p := by
  have hp := vld_pos hv
  rw [fmul_eq hv]
  exact mod_lt' (by omega) _
theorem fadd_ltp {p : Int} (hv : vld p = true) (a b : Int) : 0 ≤ fadd p a b ∧ fadd p a b < p := by
  have hp := vld_pos hv
  rw [fadd_eq hv]
  exact mod_lt' (by omega) _
theorem comb_ok {p n : Int} (hv : vld p = true) : ∀ (x y : Lin) (lo : Int), CoefOk p x → CoefOk p y → Asc lo x → Asc lo y → CoefOk p (comb p n x y) ∧ Asc lo (comb p n x y) := by
  intro x y
  induction x, y using comb.induct with
  | case1 => intro lo _ _ _ _; rw [comb]; exact ⟨CoefOk.nil _, trivial⟩
  | case2 x xs ih =>
    intro lo h1 h2 h3 h4
    obtain ⟨i1, i2⟩ := ih (x.1 + 1) h1.tail h2 h3.2 trivial
    rw [comb]
    have := h1.head
    exact ⟨CoefOk.keep ⟨by omega, this.2⟩ i1, Asc.keep h3.1 i2⟩
  | case3 y ys ih =>
    intro lo h1 h2 h3 h4
    obtain ⟨i1, i2⟩ := ih (y.1 + 1) h1 h2.tail trivial h4.2
    rw [comb]
    exact ⟨CoefOk.keep (fmul_lt hv _ _) i1, Asc.keep h4.1 i2⟩
  | case4 x xs y ys h ih =>
    intro lo h1 h2 h3 h4
    obtain ⟨i1, i2⟩ := ih (x.1 + 1) h1.tail h2 h3.2 ⟨by omega, h4.2⟩
    rw [comb, if_pos h]
    have := h1.head
    exact ⟨CoefOk.keep ⟨by omega, this.2⟩ i1, Asc.keep h3.1 i2⟩
  | case5 x xs y ys h hh ih =>
    intro lo h1 h2 h3 h4
    obtain ⟨i1, i2⟩ := ih (y.1 + 1) h1 h2.tail ⟨by omega, h3.2⟩ h4.2
    rw [comb, if_neg h, if_pos hh]
    exact ⟨CoefOk.keep (fmul_lt hv _ _) i1, Asc.keep h4.1 i2⟩
  | case6 x xs y ys h hh ih =>
    intro lo h1 h2 h3 h4
    obtain ⟨i1, i2⟩ := ih (x.1 + 1) h1.tail h2.tail h3.2 (h4.2.low (by omega))
    rw [comb, if_neg h, if_neg hh]
    exact ⟨CoefOk.keep (fadd_ltp hv _ _) i1, Asc.keep h3.1 i2⟩
theorem comb_vars (p n : Int) : ∀ (x y : Lin) (Q : Int → Prop), (∀ t ∈ x, Q t.1) → (∀ t ∈ y, Q t.1) → ∀ t ∈ comb p n x y, Q t.1 := by
  have hk : ∀ (u t : Int × Int) (Q : Int → Prop), Q u.1 → t ∈ keepT u → Q t.1 := fun u t Q h ht => by
    unfold keepT at ht
    split at ht
    · cases ht
    · rw [List.mem_singleton] at ht; rw [ht]; exact h
  intro x y
  induction x, y using comb.induct with
  | case1 => intro Q _ _ t ht; rw [comb] at ht; cases ht
  | case2 x xs ih =>
    intro Q h1 h2 t ht
    rw [comb] at ht
    rcases List.mem_append.1 ht with h | h
    · exact hk _ _ Q (h1 x (List.mem_cons_self ..)) h
    · exact ih Q (fun t ht => h1 t (List.mem_cons_of_mem _ ht)) h2 t h
  | case3 y ys ih =>
    intro Q h1 h2 t ht
    rw [comb] at ht
    rcases List.mem_append.1 ht with h | h
    · exact hk (y.1, fmul p n y.2) _ Q (h2 y (List.mem_cons_self ..)) h
    · exact ih Q h1 (fun t ht => h2 t (List.mem_cons_of_mem _ ht)) t h
  | case4 x xs y ys hh ih =>
    intro Q h1 h2 t ht
    rw [comb, if_pos hh] at ht
    rcases List.mem_append.1 ht with h | h
    · exact hk _ _ Q (h1 x (List.mem_cons_self ..)) h
    · exact ih Q (fun t ht => h1 t (List.mem_cons_of_mem _ ht)) h2 t h
  | case5 x xs y ys hh h3 ih =>
    intro Q h1 h2 t ht
    rw [comb, if_neg hh, if_pos h3] at ht
    rcases List.mem_append.1 ht with h | h
    · exact hk (y.1, fmul p n y.2) _ Q (h2 y (List.mem_cons_self ..)) h
    · exact ih Q h1 (fun t ht => h2 t (List.mem_cons_of_mem _ ht)) t h
  | case6 x xs y ys hh h3 ih =>
    intro Q h1 h2 t ht
    rw [comb, if_neg hh, if_neg h3] at ht
    rcases List.mem_append.1 ht with h | h
    · exact hk (x.1, fadd p x.2 (fmul p n y.2)) _ Q (h1 x (List.mem_cons_self ..)) h
    · exact ih Q (fun t ht => h1 t (List.mem_cons_of_mem _ ht)) (fun t ht => h2 t (List.mem_cons_of_mem _ ht)) t h
theorem comb_in {p n lo hi : Int} (hv : vld p = true) {x y : Lin} (hx : LinIn p lo hi x) (hy : LinIn p lo hi y) : LinIn p lo hi (comb p n x y) := by
  obtain ⟨h1, h2⟩ := comb_ok (n := n) hv x y lo hx.1 hy.1 hx.2.1 hy.2.1
  exact ⟨h1, h2, comb_vars p n x y (fun v => v < hi) hx.2.2 hy.2.2⟩
end Go.Proofs.Ytlgjnidphldiiaa

/- Gadgets: a builder in memory. -/
namespace Go.Proofs.Ytlgjnidphldiiaa
open Go.RowKit

/-- A linear combination whose block holds terms. -/
structure LinT (w : World) (s : Lc) : Prop where
  ok : LcOk w s
  blk : s.l ≠ [] → ∃ b off cs, s.ad = some ⟨b, off, none⟩ ∧ Blk w b cs 100
theorem LinT.nil (w : World) : LinT w ⟨none, 0, []⟩ := ⟨⟨fun h => absurd h (by simp), fun t ht => (by cases ht), by simp, by simp⟩, fun h => absurd rfl h⟩
theorem LinT.mono {w w' : World} {s : Lc} (h : LinT w s) (hb : Below w.heap.size w w') : LinT w' s := ⟨h.ok.mono hb, fun h0 => by
  obtain ⟨b, off, cs, e, g⟩ := h.blk h0
  exact ⟨b, off, cs, e, g.mono hb⟩⟩
theorem lc_nil {w : World} {s : Lc} (h : LcOk w s) (e : s.l = []) (w' : World) : LcOk w' s := ⟨fun h0 => absurd h0 (by rw [e]; simp), h.wl, h.le, h.mx⟩

/-- w' is w behind calls that change the builders of the call's own alone. -/
structure Kept (base : Nat) (w w' : World) : Prop where
  below : Below base w w'
  typ : ∀ (b : Nat) (cs : Array Value) (T : TypeId), Blk w b cs T → T ≠ 106 → T ≠ 108 → T ≠ 104 → Blk w' b cs T
theorem Kept.refl (base : Nat) (w : World) : Kept base w w := ⟨Below.refl _ _, fun _ _ _ h _ _ _ => h⟩
theorem Kept.trans {base : Nat} {w w' w2 : World} (h : Kept base w w') (k : Kept base w' w2) : Kept base w w2 :=
  ⟨h.below.trans k.below, fun b cs T g h1 h2 h3 => k.typ b cs T (h.typ b cs T g h1 h2 h3) h1 h2 h3⟩
theorem Kept.of_below {base : Nat} {w w' : World} (h : Below w.heap.size w w') (hb : base ≤ w.heap.size) : Kept base w w' := ⟨h.mono hb, fun _ _ _ g _ _ _ => g.mono h⟩
theorem Kept.low {base b : Nat} {w w' : World} (h : Kept base w w') (hb : b ≤ base) : Kept b w w' := ⟨h.below.mono hb, h.typ⟩
theorem Kept.size {base : Nat} {w w' : World} (h : Kept base w w') : w.heap.size ≤ w'.heap.size := h.below.size
theorem Kept.lin {base : Nat} {w w' : World} {s : Lc} (k : Kept base w w') (h : LinT w s) : LinT w' s := by
  by_cases e : s.l = []
  · exact ⟨lc_nil h.ok e _, fun h0 => absurd e h0⟩
  · obtain ⟨b, off, cs, e2, g⟩ := h.blk e
    have g' := k.typ b cs _ g (by decide) (by decide) (by decide)
    refine ⟨⟨fun h0 => ?_, h.ok.wl, h.ok.le, h.ok.mx⟩, fun _ => ⟨b, off, cs, e2, g'⟩⟩
    obtain ⟨b', off', e3, hl, hc⟩ := h.ok.sl h0
    rw [e2] at e3
    cases e3
    have hh : w'.heap[b]? = w.heap[b]? := by
      have h1 : w.heap[b]? = _ := g
      have h2 : w'.heap[b]? = _ := g'
      rw [h1, h2]
    exact ⟨b, off, e2, Nat.lt_of_lt_of_le hl k.size, fun i hi => ⟨by rw [World.cell?_of_block (w := w) hh]; exact (hc i hi).1, by rw [World.cell?_of_block (w := w) hh]; exact (hc i hi).2⟩⟩

/-- The values of rows and hints. -/
structure Row3 where
  a : Lin
  b : Lin
  c : Lin
structure Hint4 where
  k : Int
  a : Lin
  b : Lin
  bit : Int
def Rw.val (r : Rw) : Row3 := ⟨r.a.l, r.b.l, r.c.l⟩
def Hn.val (h : Hn) : Hint4 := ⟨h.k, h.a.l, h.b.l, h.bit⟩
/-- A circuit under way. -/
structure St where
  p : Int
  pub : Int
  vars : Int
  R : List Row3
  sec : Int
  H : List Hint4

/-- The terms of s do not lie in a block of A. -/
def Av (A : Nat → Prop) (s : Lc) : Prop := s.l ≠ [] → ∀ a, s.ad = some a → ¬ A a.block
theorem Av.none (s : Lc) : Av (fun _ => False) s := fun _ _ _ h => h
/-- A builder in block b; its slices are of the call's own; its combinations do not lie in a block of A. -/
structure BS (w : World) (base b : Nat) (S : St) (vr : Value) (R : List Rw) (vh : Value) (H : List Hn) (A : Nat → Prop) : Prop where
  blk : Blk w b #[.int .u64 S.p, .int .u64 S.p, .int .i64 S.pub, .int .i64 S.vars, vr, .int .i64 S.sec, vh] 104
  lo : base ≤ b
  rows : OwnG rwL w base 106 vr R
  hints : OwnG hnL w base 108 vh H
  rok : ∀ r ∈ R, LinT w r.a ∧ LinT w r.b ∧ LinT w r.c
  hok : ∀ h ∈ H, LinT w h.a ∧ LinT w h.b ∧ (Lit.int .i64 h.k).wf = true ∧ (Lit.int .i64 h.bit).wf = true
  rv : R.map Rw.val = S.R
  hv : H.map Hn.val = S.H
  rav : ∀ r ∈ R, Av A r.a ∧ Av A r.b ∧ Av A r.c
  hav : ∀ h ∈ H, Av A h.a ∧ Av A h.b
def Bld (w : World) (base b : Nat) (S : St) (A : Nat → Prop := fun _ => False) : Prop := ∃ vr R vh H, BS w base b S vr R vh H A
theorem BS.mono {w w' : World} {base b : Nat} {S : St} {vr vh : Value} {R : List Rw} {H : List Hn} {A : Nat → Prop} (h : BS w base b S vr R vh H A) (hb : Below w.heap.size w w') : BS w' base b S vr R vh H A :=
  ⟨h.blk.mono hb, h.lo, h.rows.mono hb, h.hints.mono hb, fun r hr => ⟨(h.rok r hr).1.mono hb, (h.rok r hr).2.1.mono hb, (h.rok r hr).2.2.mono hb⟩, fun r hr => ⟨(h.hok r hr).1.mono hb, (h.hok r hr).2.1.mono hb, (h.hok r hr).2.2⟩, h.rv, h.hv, h.rav, h.hav⟩
theorem Bld.mono {w w' : World} {base b : Nat} {S : St} {A : Nat → Prop} (h : Bld w base b S A) (hb : Below w.heap.size w w') : Bld w' base b S A := by
  obtain ⟨vr, R, vh, H, h⟩ := h
  exact ⟨vr, R, vh, H, h.mono hb⟩
theorem BS.lt {w : World} {base b : Nat} {S : St} {vr vh : Value} {R : List Rw} {H : List Hn} {A : Nat → Prop} (h : BS w base b S vr R vh H A) : base ≤ w.heap.size := by
  have := h.blk.lt
  have := h.lo
  omega
end Go.Proofs.Ytlgjnidphldiiaa

/- Gadgets: the program's linear combinations: term, Constant, variable, Clone, Clip. -/
namespace Go.Proofs.Ytlgjnidphldiiaa
open Go.RowKit

/-- A call that returns a linear combination of a block of its own. -/
def RetLn (w : World) (L : Lin) (e : Ending) (w' : World) : Prop := ∃ s : Lc, e = .returned (.slice s.ad s.l.length s.cap) ∧ Hid (s.l = L) ∧ LinT w' s ∧ Below w.heap.size w w'
theorem RetLn.nil (w : World) {w' : World} (hb : Below w.heap.size w w') : RetLn w [] (.returned (.slice none 0 0)) w' := ⟨⟨none, 0, []⟩, rfl, hide rfl, LinT.nil _, hb⟩
theorem wfI {k : Int} (h : -9223372036854775808 ≤ k ∧ k ≤ 9223372036854775807) : (Lit.int .i64 k).wf = true := by
  simp [Lit.wf, IntKind.min, IntKind.max, IntKind.signed, IntKind.bits]; omega
theorem wfU {k : Int} (h : 0 ≤ k ∧ k < 18446744073709551616) : (Lit.int .u64 k).wf = true := by
  simp [Lit.wf, IntKind.min, IntKind.max, IntKind.signed, IntKind.bits]; omega
theorem LinT.one {w : World} {b : Nat} {v c : Int} (g : Blk w b #[.int .i64 v, .int .u64 c] 100) (hv : (Lit.int .i64 v).wf = true) (hc : (Lit.int .u64 c).wf = true) : LinT w ⟨some ⟨b, 0, none⟩, 1, [(v, c)]⟩ :=
  ⟨⟨fun _ => ⟨b, 0, rfl, g.lt, fun i hi => by
    have : i = 0 := by simpa using hi
    subst this
    exact ⟨g.cell (j := 0) rfl, g.cell (j := 1) rfl⟩⟩, fun t ht => by
    rw [List.mem_singleton] at ht; subst ht; exact ⟨hv, hc⟩, by simp, by simp [maxLen]⟩, fun _ => ⟨b, 0, _, rfl, g⟩⟩

/-- A slice of terms of the call's own, as a linear combination. -/
theorem OwnG.lin {w : World} {base : Nat} {v : Value} {L : Lin} (h : OwnG tmL w base 100 v L) (hw : LinW L) : ∃ s : Lc, v = .slice s.ad s.l.length s.cap ∧ s.l = L ∧ LinT w s := by
  obtain ⟨ad, c, rfl, hs, h1, h2, _⟩ := h.sl
  refine ⟨⟨ad, c, L⟩, rfl, rfl, ⟨⟨LinS.of_slg hs, hw, h1, h2⟩, fun h0 => ?_⟩⟩
  rcases h.form with ⟨_, e⟩ | ⟨g, cap, cur, e, _, gb, _⟩
  · exact absurd e h0
  · cases e
    exact ⟨g, 0, cur, rfl, gb⟩

/-- make([]T, l, c) of elements of several cells. -/
theorem run_mkG {α : Type} (L : Lay α) {P : Program} {t e : TypeId} {z : Value} {bytes : Nat} (ht : P.underlying t = some (.slice e)) (hinfo : (P.info? e).map (fun i => (i.zero, i.size, i.bytes)) = some (some z, L.m, bytes)) (h8 : bytes ≤ 128) {N C : Int} (l c : Nat) (hN : N = l) (hC : C = c) (hlc : l ≤ c) (hc : c < 1073741824) (w : World) :
    (Instr.makeSlice t (.int .i64 N) (.int .i64 C)).run P w = .ok (.slice (some ⟨w.heap.size, 0, none⟩) l c) (w.alloc (.cells (madeCells z.cells (c * L.m)) e)) := by
  subst hN hC
  obtain ⟨i, hi, hz, hsz, hby⟩ := info_partsG hinfo
  have hb : (i.bytes : Int) * (c : Int) ≤ 281474976710656 := by
    rw [hby]
    have : bytes * c ≤ 128 * c := Nat.mul_le_mul_right _ h8
    have h : ((bytes * c : Nat) : Int) ≤ 281474976710656 := by omega
    rwa [Int.natCast_mul] at h
  have hr := run_make (P := P) w t e i z ht hi hz .i64 .i64 l c (by omega) (by omega) hb (by omega)
  simp only [Int.toNat_natCast, hsz] at hr
  exact hr
end Go.Proofs.Ytlgjnidphldiiaa
