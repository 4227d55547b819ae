/- Gadgets: the values of combinations and of circuits under way, in plain Lean. -/
import Derived.Test.YtalmgeefkcebdaaGreatDoorQ12
import Derived.Test.YtalmgeefkcebdaaGreatDoorQ14
namespace Go.Proofs.YtalmgeefkcebdaaGreatDoor
open Go.RowKit

/-- Equal modulo p. -/
def Cg (p a b : Int) : Prop := ∃ k, a = b + p * k
theorem Cg.of {p a b : Int} (h : a % p = b % p) : Cg p a b := ⟨a / p - b / p, by
  have h1 := Int.emod_add_mul_ediv a p
  have h2 := Int.emod_add_mul_ediv b p
  rw [Int.mul_sub]
  omega⟩
theorem Cg.em {p a b : Int} (h : Cg p a b) : a % p = b % p := by
  obtain ⟨k, rfl⟩ := h
  rw [Int.add_mul_emod_self_left]
theorem Cg.refl (p a : Int) : Cg p a a := ⟨0, by simp⟩
theorem Cg.mod (p a : Int) : Cg p (a % p) a := Cg.of (Int.emod_emod_of_dvd _ (Int.dvd_refl p))
theorem Cg.symm {p a b : Int} (h : Cg p a b) : Cg p b a := Cg.of h.em.symm
theorem Cg.trans {p a b c : Int} (h : Cg p a b) (k : Cg p b c) : Cg p a c := Cg.of (h.em.trans k.em)
theorem Cg.add {p a b c d : Int} (h : Cg p a b) (k : Cg p c d) : Cg p (a + c) (b + d) := by
  obtain ⟨x, rfl⟩ := h
  obtain ⟨y, rfl⟩ := k
  exact ⟨x + y, by grind⟩
theorem Cg.sub {p a b c d : Int} (h : Cg p a b) (k : Cg p c d) : Cg p (a - c) (b - d) := by
  obtain ⟨x, rfl⟩ := h
  obtain ⟨y, rfl⟩ := k
  exact ⟨x - y, by grind⟩
theorem Cg.mul {p a b c d : Int} (h : Cg p a b) (k : Cg p c d) : Cg p (a * c) (b * d) := by
  obtain ⟨x, rfl⟩ := h
  obtain ⟨y, rfl⟩ := k
  exact ⟨x * d + b * y + p * x * y, by grind⟩
theorem Cg.eq {p a b : Int} (h : Cg p a b) (ha : 0 ≤ a ∧ a < p) (hb : 0 ≤ b ∧ b < p) : a = b := by
  have := h.em
  rwa [Int.emod_eq_of_lt ha.1 ha.2, Int.emod_eq_of_lt hb.1 hb.2] at this
theorem Cg.of_eq {p a b : Int} (h : a = b) : Cg p a b := h ▸ Cg.refl p a

/-- The value of a variable, 0 outside. -/
def gv (W : List Int) (v : Int) : Int := if 0 ≤ v ∧ v < (W.length : Int) then W.getD v.toNat 0 else 0
def lsum (W : List Int) : Lin → Int
  | [] => 0
  | t :: x => t.2 * gv W t.1 + lsum W x
theorem lsum_app (W : List Int) (x y : Lin) : lsum W (x ++ y) = lsum W x + lsum W y := by
  induction x with
  | nil => simp [lsum]
  | cons t x ih => rw [List.cons_append, lsum, lsum, ih]; omega
theorem lval_lsum {p : Int} (hv : vld p = true) (W : List Int) (L : Lin) : lval p W L = lsum W L % p := by
  have hp := vld_pos hv
  unfold lval
  have : ∀ (l : Lin) (s : Int), 0 ≤ s → s < p → l.foldl (lstep p W) s = (s + lsum W l) % p := by
    intro l
    induction l with
    | nil => intro s h0 h1; rw [List.foldl_nil, lsum, Int.add_zero, Int.emod_eq_of_lt h0 h1]
    | cons t x ih =>
      intro s h0 h1
      have hm : 0 ≤ lstep p W s t ∧ lstep p W s t < p ∧ Cg p (lstep p W s t) (s + t.2 * gv W t.1) := by
        unfold lstep gv
        split
        · rw [fadd_eq hv, fmul_eq hv]
          have := mod_lt' (show 0 < p by omega) (s + t.2 * W.getD t.1.toNat 0 % p)
          exact ⟨this.1, this.2, (Cg.mod _ _).trans ((Cg.refl _ _).add (Cg.mod _ _))⟩
        · exact ⟨h0, h1, Cg.of_eq (by rw [Int.mul_zero, Int.add_zero])⟩
      rw [List.foldl_cons, ih _ hm.1 hm.2.1, lsum]
      refine ((hm.2.2.add (Cg.refl p (lsum W x))).trans (Cg.of_eq ?_)).em
      omega
  rw [this L 0 (by omega) (by omega), Int.zero_add]
theorem lsum_keep (W : List Int) (v c : Int) (L : Lin) : lsum W (keepT (v, c) ++ L) = c * gv W v + lsum W L := by
  unfold keepT
  split
  · rename_i h; simp only at h; rw [h]; simp
  · rfl
theorem lsum_comb {p : Int} (hv : vld p = true) (n : Int) (W : List Int) : ∀ x y : Lin, Cg p (lsum W (comb p n x y)) (lsum W x + n * lsum W y) := by
  have hm : ∀ a b g, Cg p (fmul p a b * g) (a * b * g) := fun a b g => by rw [fmul_eq hv]; exact (Cg.mod _ _).mul (Cg.refl _ _)
  intro x y
  induction x, y using comb.induct with
  | case1 => rw [comb]; exact Cg.of_eq (by simp [lsum])
  | case2 x xs ih =>
    rw [comb, lsum_keep, lsum]
    exact ((Cg.refl p (x.2 * gv W x.1)).add ih).trans (Cg.of_eq (by simp only [lsum]; grind))
  | case3 y ys ih =>
    rw [comb, lsum_keep]
    exact ((hm n y.2 (gv W y.1)).add ih).trans (Cg.of_eq (by simp only [lsum]; grind))
  | case4 x xs y ys h ih =>
    rw [comb, if_pos h, lsum_keep]
    exact ((Cg.refl p (x.2 * gv W x.1)).add ih).trans (Cg.of_eq (by simp only [lsum]; grind))
  | case5 x xs y ys h h2 ih =>
    rw [comb, if_neg h, if_pos h2, lsum_keep]
    exact ((hm n y.2 (gv W y.1)).add ih).trans (Cg.of_eq (by simp only [lsum]; grind))
  | case6 x xs y ys h h2 ih =>
    rw [comb, if_neg h, if_neg h2, lsum_keep]
    have e : x.1 = y.1 := by omega
    have h1 : Cg p (fadd p x.2 (fmul p n y.2) * gv W x.1) ((x.2 + n * y.2) * gv W x.1) := by
      rw [fadd_eq hv, fmul_eq hv]
      exact ((Cg.mod _ _).trans ((Cg.refl _ _).add (Cg.mod _ _))).mul (Cg.refl _ _)
    exact (h1.add ih).trans (Cg.of_eq (by simp only [lsum]; rw [e]; grind))
theorem lval_add {p : Int} (hv : vld p = true) (W : List Int) (x y : Lin) : lval p W (addL p x y) = (lval p W x + lval p W y) % p := by
  rw [lval_lsum hv, lval_lsum hv, lval_lsum hv, addL, addP, if_pos hv]
  refine ((lsum_comb hv 1 W x y).trans ?_).em
  rw [Int.one_mul]
  exact ((Cg.mod p _).add (Cg.mod p _)).symm
theorem lval_sub {p : Int} (hv : vld p = true) (W : List Int) (x y : Lin) : lval p W (subL p x y) = (lval p W x - lval p W y) % p := by
  rw [lval_lsum hv, lval_lsum hv, lval_lsum hv, subL, addP, if_pos hv]
  refine ((lsum_comb hv _ W x y).trans ?_).em
  refine Cg.trans ?_ ((Cg.mod p (lsum W x)).sub (Cg.mod p (lsum W y))).symm
  rw [show fneg p 1 = (-1) % p by rw [fneg, if_pos hv]]
  exact ((Cg.refl _ _).add ((Cg.mod p (-1)).mul (Cg.refl p (lsum W y)))).trans (Cg.of_eq (by omega))
/-- Values do not see what is appended. -/
theorem gv_app (W X : List Int) {v : Int} (h : v < W.length) : gv (W ++ X) v = gv W v := by
  unfold gv
  by_cases h0 : 0 ≤ v
  · rw [if_pos ⟨h0, by rw [List.length_append]; omega⟩, if_pos ⟨h0, h⟩, List.getD_eq_getElem?_getD, List.getElem?_append_left (by omega), List.getD_eq_getElem?_getD]
  · rw [if_neg (by omega), if_neg (by omega)]
theorem lsum_more (W X : List Int) {L : Lin} (h : ∀ t ∈ L, t.1 < (W.length : Int)) : lsum (W ++ X) L = lsum W L := by
  induction L with
  | nil => rfl
  | cons t x ih => rw [lsum, lsum, ih fun u hu => h u (List.mem_cons_of_mem _ hu), gv_app W X (h t (List.mem_cons_self ..))]
theorem lval_more {p lo : Int} (hv : vld p = true) (W X : List Int) {L : Lin} (h : LinIn p lo W.length L) : lval p (W ++ X) L = lval p W L := by
  rw [lval_lsum hv, lval_lsum hv, lsum_more W X h.2.2]
theorem lval_bds {p : Int} (hv : vld p = true) (W : List Int) (L : Lin) : 0 ≤ lval p W L ∧ lval p W L < p := by
  have := vld_pos hv
  rw [lval_lsum hv]; exact mod_lt' (by omega) _
theorem gv_last (W : List Int) (v : Int) : gv (W ++ [v]) W.length = v := by
  unfold gv
  rw [if_pos ⟨by omega, by simp; omega⟩]
  simp
theorem gv_zero {W : List Int} {v : Int} (X : List Int) (h : W = v :: X) : gv W 0 = v := by
  subst h
  unfold gv
  rw [if_pos ⟨by omega, by simp⟩]
  rfl
theorem lval_one {p : Int} (hv : vld p = true) (W : List Int) (v : Int) : lval p W [(v, 1)] = gv W v % p := by
  rw [lval_lsum hv, lsum, lsum, Int.one_mul, Int.add_zero]

/-- Combinations that are in range. -/
theorem LinIn.up {p lo hi h2 : Int} {x : Lin} (h : LinIn p lo hi x) (hh : hi ≤ h2) : LinIn p lo h2 x := ⟨h.1, h.2.1, fun t ht => by have := h.2.2 t ht; omega⟩
theorem LinIn.nil (p lo hi : Int) : LinIn p lo hi [] := ⟨CoefOk.nil _, trivial, fun t ht => by cases ht⟩
theorem LinIn.one {p hi v : Int} (hp : 1 < p) (h : 0 ≤ v ∧ v < hi) : LinIn p 0 hi [(v, 1)] :=
  ⟨fun t ht => by rw [List.mem_singleton] at ht; subst ht; simp; omega, ⟨h.1, trivial⟩, fun t ht => by rw [List.mem_singleton] at ht; subst ht; exact h.2⟩
theorem LinIn.add {p lo hi n : Int} {x y : Lin} (hv : vld p = true) (hx : LinIn p lo hi x) (hy : LinIn p lo hi y) : LinIn p lo hi (addP p x y n) := by
  rw [addP, if_pos hv]; exact comb_in hv hx hy
theorem asc_len : ∀ (x : Lin) (lo hi : Int), Asc lo x → (∀ t ∈ x, t.1 < hi) → lo ≤ hi → (x.length : Int) ≤ hi - lo
  | [], _, _, _, _, h => by simp; omega
  | t :: x, lo, hi, h, h2, _ => by
    have ht := h2 t (List.mem_cons_self ..)
    have := asc_len x (t.1 + 1) hi h.2 (fun u hu => h2 u (List.mem_cons_of_mem _ hu)) (by omega)
    have := h.1
    rw [List.length_cons]
    omega
theorem LinIn.len {p hi : Int} {x : Lin} (h : LinIn p 0 hi x) (h0 : 0 ≤ hi) : (x.length : Int) ≤ hi := by
  have := asc_len x 0 hi h.2.1 h.2.2 h0
  omega

/-- Hints and rows on values. -/
def hv4 (p : Int) (W : List Int) (h : Hint4) : Int := if h.k = 1 then fmul p (lval p W h.a) (lval p W h.b) else if h.k = 2 then finv p (lval p W h.a) else lval p W h.a / 2 ^ h.bit.toNat % 2
def run4 (p : Int) (W : List Int) (H : List Hint4) : List Int := H.foldl (fun W h => W ++ [hv4 p W h]) W
theorem runH_val (p : Int) (W : List Int) (H : List Hn) : runH p W H = run4 p W (H.map Hn.val) := by
  unfold runH run4
  rw [List.foldl_map]
  rfl
def sat3 (p : Int) (W : List Int) (r : Row3) : Prop := fmul p (lval p W r.a) (lval p W r.b) = lval p W r.c
theorem hv4_bds {p : Int} (hv : vld p = true) (W : List Int) (h : Hint4) : 0 ≤ hv4 p W h ∧ hv4 p W h < p := by
  have hp := vld_pos hv
  unfold hv4
  split
  · rw [fmul_eq hv]; exact mod_lt' (by omega) _
  · split
    · rw [finv, if_pos hv]; exact mod_lt' (by omega) _
    · omega
theorem run4_len (p : Int) (H : List Hint4) : ∀ W : List Int, (run4 p W H).length = W.length + H.length := by
  unfold run4
  induction H with
  | nil => intro W; rfl
  | cons h H ih => intro W; rw [List.foldl_cons, ih]; simp; omega
theorem run4_cons (p x : Int) (H : List Hint4) : ∀ W : List Int, (∃ Y, W = x :: Y) → ∃ Y, run4 p W H = x :: Y := by
  unfold run4
  induction H with
  | nil => exact fun W h => h
  | cons h H ih =>
    intro W hW
    obtain ⟨Y, rfl⟩ := hW
    rw [List.foldl_cons]
    exact ih _ ⟨Y ++ [hv4 p (x :: Y) h], rfl⟩

def fin (S : St) (I : List Int) : List Int := run4 S.p (1 :: I) S.H
def Sat (S : St) (I : List Int) : Prop := ∀ r ∈ S.R, sat3 S.p (fin S I) r
def V (S : St) (I : List Int) (x : Lin) : Int := lval S.p (fin S I) x
def hOk (p v : Int) (h : Hint4) : Prop := LinIn p 0 v h.a ∧ LinIn p 0 v h.b ∧ (0 ≤ h.bit ∧ h.bit ≤ 63) ∧ (h.k = 1 ∧ h.bit = 0 ∨ h.k = 2 ∧ h.b = [] ∧ h.bit = 0 ∨ h.k = 3 ∧ h.b = [])
/-- A circuit under way that can be completed. -/
structure Wf (S : St) (I : List Int) : Prop where
  v : vld S.p = true
  i : ∀ x ∈ I, 0 ≤ x ∧ x < S.p
  ps : 0 ≤ S.pub ∧ 0 ≤ S.sec ∧ (I.length : Int) = S.pub + S.sec
  len : S.vars = 1 + (I.length : Int) + S.H.length
  rows : ∀ r ∈ S.R, LinIn S.p 0 S.vars r.a ∧ LinIn S.p 0 S.vars r.b ∧ LinIn S.p 0 S.vars r.c
  hints : ∀ k, k < S.H.length → hOk S.p (1 + (I.length : Int) + k) (S.H.getD k ⟨0, [], [], 0⟩)
theorem Wf.pos {S : St} {I : List Int} (h : Wf S I) : 0 < S.vars := by have := h.len; omega
theorem Wf.fin_len {S : St} {I : List Int} (h : Wf S I) : ((fin S I).length : Int) = S.vars := by
  rw [fin, run4_len, h.len]; simp; omega
theorem fin_head (S : St) (I : List Int) : gv (fin S I) 0 = 1 := by
  obtain ⟨Y, hY⟩ := run4_cons S.p 1 S.H (1 :: I) ⟨I, rfl⟩
  exact gv_zero Y hY
theorem V_one {S : St} {I : List Int} (hv : vld S.p = true) : V S I [(0, 1)] = 1 := by
  have := vld_pos hv
  rw [V, lval_one hv, fin_head, Int.emod_eq_of_lt (by omega) (by omega)]
theorem V_bds {S : St} {I : List Int} (h : Wf S I) (x : Lin) : 0 ≤ V S I x ∧ V S I x < S.p := lval_bds h.v _ _
theorem V_add {S : St} {I : List Int} (hv : vld S.p = true) (x y : Lin) : V S I (addL S.p x y) = (V S I x + V S I y) % S.p := lval_add hv _ _ _
theorem V_sub {S : St} {I : List Int} (hv : vld S.p = true) (x y : Lin) : V S I (subL S.p x y) = (V S I x - V S I y) % S.p := lval_sub hv _ _ _

/-- S' is S with further hints and rows: nothing that was there changes. -/
structure Ext (S S' : St) (I : List Int) : Prop where
  wf : Wf S' I
  p : S'.p = S.p
  pub : S'.pub = S.pub
  sec : S'.sec = S.sec
  le : S.vars ≤ S'.vars
  val : ∀ x, LinIn S.p 0 S.vars x → V S' I x = V S I x
theorem Ext.trans {S S' T : St} {I : List Int} (h : Ext S S' I) (k : Ext S' T I) : Ext S T I :=
  ⟨k.wf, by rw [k.p, h.p], by rw [k.pub, h.pub], by rw [k.sec, h.sec], by have := h.le; have := k.le; omega, fun x hx => by rw [k.val x (by rw [h.p]; exact hx.up h.le), h.val x hx]⟩
theorem Ext.refl {S : St} {I : List Int} (h : Wf S I) : Ext S S I := ⟨h, rfl, rfl, rfl, Int.le_refl _, fun _ _ => rfl⟩
theorem Ext.lin {S S' : St} {I : List Int} (h : Ext S S' I) {x : Lin} (hx : LinIn S.p 0 S.vars x) : LinIn S'.p 0 S'.vars x := by rw [h.p]; exact hx.up h.le

theorem fin_hint (S : St) (I : List Int) (k : Int) (x y : Lin) (bit : Int) : fin (gHint S k x y bit) I = fin S I ++ [hv4 S.p (fin S I) ⟨k, x, y, bit⟩] := by
  simp [fin, run4, gHint, List.foldl_append]
theorem hint_ext {S : St} {I : List Int} (h : Wf S I) {k : Int} {x y : Lin} {bit : Int} (hh : hOk S.p S.vars ⟨k, x, y, bit⟩) :
    Ext S (gHint S k x y bit) I ∧ (Sat (gHint S k x y bit) I ↔ Sat S I) ∧ V (gHint S k x y bit) I (nv S) = hv4 S.p (fin S I) ⟨k, x, y, bit⟩ ∧ LinIn S.p 0 (S.vars + 1) (nv S) := by
  have hp := vld_pos h.v
  have hl := h.fin_len
  have h0 := h.pos
  have hval : ∀ z, LinIn S.p 0 S.vars z → lval S.p (fin (gHint S k x y bit) I) z = lval S.p (fin S I) z := fun z hz => by
    rw [fin_hint]
    exact lval_more h.v _ _ (by rw [hl]; exact hz)
  refine ⟨⟨⟨h.v, h.i, h.ps, ?_, fun r hr => ?_, fun j hj => ?_⟩, rfl, rfl, rfl, ?_, hval⟩, ?_, ?_, ?_⟩
  · show S.vars + 1 = 1 + (I.length : Int) + (S.H ++ [_]).length
    rw [h.len]; simp; omega
  · obtain ⟨h1, h2, h3⟩ := h.rows r hr
    exact ⟨h1.up (by show S.vars ≤ S.vars + 1; omega), h2.up (by show S.vars ≤ S.vars + 1; omega), h3.up (by show S.vars ≤ S.vars + 1; omega)⟩
  · show hOk S.p _ ((S.H ++ [_]).getD j _)
    rw [List.getD_eq_getElem?_getD]
    by_cases hj2 : j < S.H.length
    · rw [List.getElem?_append_left hj2, ← List.getD_eq_getElem?_getD]; exact h.hints j hj2
    · have : j = S.H.length := by
        have : j < (S.H ++ [_]).length := hj
        simp at this; omega
      subst this
      rw [List.getElem?_append_right (Nat.le_refl _), Nat.sub_self, ← h.len]
      exact hh
  · show S.vars ≤ S.vars + 1; omega
  · constructor
    · intro hs r hr
      have := hs r hr
      obtain ⟨h1, h2, h3⟩ := h.rows r hr
      unfold sat3 at this ⊢
      rw [show (gHint S k x y bit).p = S.p from rfl, hval _ h1, hval _ h2, hval _ h3] at this
      exact this
    · intro hs r hr
      have := hs r hr
      obtain ⟨h1, h2, h3⟩ := h.rows r hr
      unfold sat3 at this ⊢
      rw [show (gHint S k x y bit).p = S.p from rfl, hval _ h1, hval _ h2, hval _ h3]
      exact this
  · obtain ⟨b1, b2⟩ := hv4_bds h.v (fin S I) ⟨k, x, y, bit⟩
    show lval S.p _ [(S.vars, 1)] = _
    rw [fin_hint, lval_one h.v, ← hl, gv_last, Int.emod_eq_of_lt b1 b2]
  · exact LinIn.one (by omega) (by omega)
theorem row_ext {S : St} {I : List Int} (h : Wf S I) {x y z : Lin} (hx : LinIn S.p 0 S.vars x) (hy : LinIn S.p 0 S.vars y) (hz : LinIn S.p 0 S.vars z) :
    Ext S (gRow S x y z) I ∧ (Sat (gRow S x y z) I ↔ Sat S I ∧ V S I x * V S I y % S.p = V S I z) := by
  refine ⟨⟨⟨h.v, h.i, h.ps, h.len, fun r hr => ?_, h.hints⟩, rfl, rfl, rfl, Int.le_refl _, fun _ _ => rfl⟩, ?_⟩
  · rcases List.mem_append.1 (show r ∈ S.R ++ [⟨x, y, z⟩] from hr) with h1 | h1
    · exact h.rows r h1
    · rw [List.mem_singleton] at h1; subst h1; exact ⟨hx, hy, hz⟩
  · have key : sat3 S.p (fin S I) ⟨x, y, z⟩ ↔ V S I x * V S I y % S.p = V S I z := by unfold sat3; rw [fmul_eq h.v]; rfl
    constructor
    · intro hs
      exact ⟨fun r hr => hs r (List.mem_append_left _ hr), key.1 (hs ⟨x, y, z⟩ (List.mem_append_right _ (List.mem_singleton.2 rfl)))⟩
    · rintro ⟨h1, h2⟩ r hr
      rcases List.mem_append.1 (show r ∈ S.R ++ [⟨x, y, z⟩] from hr) with h3 | h3
      · exact h1 r h3
      · rw [List.mem_singleton] at h3; subst h3; exact key.2 h2

/-- Mul. -/
theorem mul_ext {S : St} {I : List Int} (h : Wf S I) {x y : Lin} (hx : LinIn S.p 0 S.vars x) (hy : LinIn S.p 0 S.vars y) :
    Ext S (gMul S x y) I ∧ (Sat (gMul S x y) I ↔ Sat S I) ∧ V (gMul S x y) I (nv S) = V S I x * V S I y % S.p ∧ LinIn S.p 0 (gMul S x y).vars (nv S) := by
  obtain ⟨e1, s1, v1, l1⟩ := hint_ext h (k := 1) (bit := 0) (x := x) (y := y) ⟨hx, hy, ⟨Int.le_refl _, (by decide : (0 : Int) ≤ 63)⟩, Or.inl ⟨rfl, rfl⟩⟩
  obtain ⟨e2, s2⟩ := row_ext e1.wf (e1.lin hx) (e1.lin hy) (z := nv S) l1
  have hv1 : V (gHint S 1 x y 0) I (nv S) = V S I x * V S I y % S.p := by rw [v1, hv4, if_pos rfl, fmul_eq h.v]; rfl
  refine ⟨e1.trans e2, ?_, hv1, l1⟩
  show Sat (gRow _ _ _ _) I ↔ _
  rw [s2, s1, e1.val x hx, e1.val y hy, hv1]
  exact ⟨fun h => h.1, fun h => ⟨h, rfl⟩⟩
theorem one_lin {S : St} {I : List Int} (h : Wf S I) : LinIn S.p 0 S.vars [(0, 1)] := LinIn.one (by have := vld_pos h.v; omega) ⟨by omega, h.pos⟩
theorem not_val {S : St} {I : List Int} (h : Wf S I) {x : Lin} (hx : LinIn S.p 0 S.vars x) : LinIn S.p 0 S.vars (gNot S.p x) ∧ V S I (gNot S.p x) = (1 - V S I x) % S.p :=
  ⟨LinIn.add h.v (one_lin h) hx, by rw [gNot, V_sub h.v, V_one h.v]⟩
theorem assert_ext {S : St} {I : List Int} (h : Wf S I) {x y : Lin} (hx : LinIn S.p 0 S.vars x) (hy : LinIn S.p 0 S.vars y) :
    Ext S (gAssert S x y) I ∧ (Sat (gAssert S x y) I ↔ Sat S I ∧ V S I x = V S I y) := by
  have hp := vld_pos h.v
  obtain ⟨e, s⟩ := row_ext h (LinIn.add h.v hx hy) (one_lin h) (LinIn.nil S.p 0 S.vars) (x := subL S.p x y)
  refine ⟨e, s.trans (and_congr_right fun _ => ?_)⟩
  have b1 := V_bds h x
  have b2 := V_bds h y
  rw [V_sub h.v, V_one h.v, Int.mul_one, Int.emod_emod_of_dvd _ (Int.dvd_refl _), show V S I [] = 0 from rfl]
  constructor
  · intro h0
    have : Cg S.p (V S I x) (V S I y) := by
      have c1 : Cg S.p (V S I x - V S I y) 0 := Cg.of (by rw [h0, Int.zero_emod])
      have := c1.add (Cg.refl S.p (V S I y))
      rwa [Int.sub_add_cancel, Int.zero_add] at this
    exact this.eq b1 b2
  · intro h0; rw [h0, Int.sub_self, Int.zero_emod]

theorem nat_fermat {P g : Nat} {qs : List Nat} (G : Gen P g qs) (n : Nat) (hn : (n : Int) % (P : Int) ≠ 0) : (n : Int) ^ ((P : Int) - 1).toNat % (P : Int) = 1 := by
  have h : ((P : Int) - 1).toNat = P - 1 := by omega
  have hn' : n % P ≠ 0 := fun e => hn (by rw [← Int.natCast_emod, e]; rfl)
  rw [h, ← Int.natCast_pow, ← Int.natCast_emod, G.fermat n hn']
  rfl
theorem int_fermat {p : Int} (h : vld p = true) (x : Int) (hx : 0 ≤ x) (hn : x % p ≠ 0) : x ^ (p - 1).toNat % p = 1 := by
  obtain ⟨n, rfl⟩ := Int.eq_ofNat_of_zero_le hx
  rcases vld_cases h with rfl | rfl | rfl | rfl | rfl | rfl | rfl
  · exact nat_fermat genBig n hn
  · exact nat_fermat gen17 n hn
  · exact nat_fermat gen97 n hn
  · exact nat_fermat gen193 n hn
  · exact nat_fermat gen257 n hn
  · exact nat_fermat gen12289 n hn
  · exact nat_fermat gen65537 n hn
theorem mul_inv {p a : Int} (h : vld p = true) (h0 : 0 < a) (h1 : a < p) : a * finv p a % p = 1 := by
  have hp := vld_pos h
  rw [finv, if_pos h]
  have e : a ^ (p - 1).toNat = a * a ^ (p - 2).toNat := by
    rw [show (p - 1).toNat = (p - 2).toNat + 1 by omega, Int.pow_succ, Int.mul_comm]
  have := int_fermat h a (by omega) (by rw [Int.emod_eq_of_lt (by omega) h1]; omega)
  rw [e] at this
  rw [Int.mul_emod, Int.emod_emod_of_dvd _ (Int.dvd_refl p), ← Int.mul_emod]
  exact this
theorem inv_zero {p : Int} (h : vld p = true) : finv p 0 = 0 := by
  have hp := vld_pos h
  rw [finv, if_pos h, show (p - 2).toNat = (p - 3).toNat + 1 by omega, Int.pow_succ, Int.mul_zero, Int.zero_emod]

/-- IsZero. -/
theorem isZero_ext {S : St} {I : List Int} (h : Wf S I) {x : Lin} (hx : LinIn S.p 0 S.vars x) :
    Ext S (gIsZero S x).1 I ∧ (Sat (gIsZero S x).1 I ↔ Sat S I) ∧ V (gIsZero S x).1 I (gIsZero S x).2 = (if V S I x = 0 then 1 else 0) ∧ LinIn S.p 0 (gIsZero S x).1.vars (gIsZero S x).2 := by
  have hp := vld_pos h.v
  obtain ⟨e1, s1, v1, l1⟩ := hint_ext h (k := 2) (bit := 0) (x := x) (y := []) ⟨hx, LinIn.nil .., ⟨Int.le_refl _, (by decide : (0 : Int) ≤ 63)⟩, Or.inr (Or.inl ⟨rfl, rfl, rfl⟩)⟩
  obtain ⟨e2, s2, v2, l2⟩ := mul_ext e1.wf (e1.lin hx) (y := nv S) l1
  obtain ⟨l3, v3⟩ := not_val e2.wf l2
  have e12 := e1.trans e2
  obtain ⟨e4, s4⟩ := row_ext e2.wf (e12.lin hx) l3 (LinIn.nil ..)
  obtain ⟨e5, s5⟩ := row_ext e4.wf (e4.lin (e2.lin l1)) (e4.lin l3) (LinIn.nil ..)
  have hvi : V (gHint S 2 x [] 0) I (nv S) = finv S.p (V S I x) := by rw [v1, hv4, if_neg (show ¬ (2 : Int) = 1 by decide), if_pos rfl]; rfl
  have hvx : V (gMul (gHint S 2 x [] 0) x (nv S)) I x = V S I x := e12.val x hx
  have hvn : V (gMul (gHint S 2 x [] 0) x (nv S)) I (nv S) = finv S.p (V S I x) := by rw [e2.val (nv S) l1, hvi]
  rw [e1.val x hx, hvi] at v2
  have b := V_bds h x
  have hz : V (gMul (gHint S 2 x [] 0) x (nv S)) I (gNot S.p (nv (gHint S 2 x [] 0))) = (if V S I x = 0 then 1 else 0) := by
    rw [show gNot S.p (nv (gHint S 2 x [] 0)) = gNot (gMul (gHint S 2 x [] 0) x (nv S)).p (nv (gHint S 2 x [] 0)) from rfl, v3, v2]
    show (1 - V S I x * finv S.p (V S I x) % S.p) % S.p = _
    split
    · rename_i h0; rw [h0, Int.zero_mul, Int.zero_emod]; exact Int.emod_eq_of_lt (by omega) (by omega)
    · rw [mul_inv h.v (by omega) b.2]; rfl
  refine ⟨(e12.trans e4).trans e5, ?_, hz, l3⟩
  show Sat (gRow (gRow (gMul (gHint S 2 x [] 0) x (nv S)) x _ []) (nv S) _ []) I ↔ _
  refine (s5.trans (and_congr s4 Iff.rfl)).trans ?_
  rw [s2, s1]
  refine ⟨fun h => h.1.1, fun hs => ⟨⟨hs, ?_⟩, ?_⟩⟩
  · rw [hvx]
    show V S I x * V (gMul (gHint S 2 x [] 0) x (nv S)) I (gNot S.p (nv (gHint S 2 x [] 0))) % _ = 0
    rw [hz]
    split
    · rename_i h0; rw [h0]; rfl
    · rw [Int.mul_zero]; rfl
  · show V (gMul (gHint S 2 x [] 0) x (nv S)) I (nv S) * V (gMul (gHint S 2 x [] 0) x (nv S)) I (gNot S.p (nv (gHint S 2 x [] 0))) % _ = 0
    rw [hz, hvn]
    split
    · rename_i h0; rw [h0, inv_zero h.v]; rfl
    · rw [Int.mul_zero]; rfl
theorem equal_ext {S : St} {I : List Int} (h : Wf S I) {x y : Lin} (hx : LinIn S.p 0 S.vars x) (hy : LinIn S.p 0 S.vars y) :
    Ext S (gEqual S x y).1 I ∧ (Sat (gEqual S x y).1 I ↔ Sat S I) ∧ V (gEqual S x y).1 I (gEqual S x y).2 = (if V S I x = V S I y then 1 else 0) ∧ LinIn S.p 0 (gEqual S x y).1.vars (gEqual S x y).2 := by
  obtain ⟨e, s, v, l⟩ := isZero_ext h (x := subL S.p x y) (LinIn.add h.v hx hy)
  refine ⟨e, s, v.trans ?_, l⟩
  have b1 := V_bds h x
  have b2 := V_bds h y
  have hp := vld_pos h.v
  rw [V_sub h.v]
  by_cases hc : V S I x = V S I y
  · rw [if_pos hc, hc, Int.sub_self, Int.zero_emod, if_pos rfl]
  · rw [if_neg hc, if_neg]
    intro h0
    apply hc
    have c1 : Cg S.p (V S I x - V S I y) 0 := Cg.of (by rw [h0, Int.zero_emod])
    have := c1.add (Cg.refl S.p (V S I y))
    rw [Int.sub_add_cancel, Int.zero_add] at this
    exact this.eq b1 b2

theorem cst_lin {p hi c : Int} (hc : 0 < c ∧ c < p) (h : 0 < hi) : LinIn p 0 hi [(0, c)] :=
  ⟨fun t ht => by rw [List.mem_singleton] at ht; subst ht; exact hc, ⟨Int.le_refl _, trivial⟩, fun t ht => by rw [List.mem_singleton] at ht; subst ht; exact h⟩
/-- Combinations that are in range are valid. -/
theorem asc_get : ∀ (x : Lin) (lo : Int), Asc lo x → ∀ i, i < x.length → lo ≤ (x.getD i (0, 0)).1
  | [], _, _, i, hi => absurd hi (by simp)
  | t :: x, lo, h, 0, _ => h.1
  | t :: x, lo, h, i + 1, hi => by
    have := asc_get x _ h.2 i (by simpa using hi)
    have := h.1
    rw [List.getD_cons_succ]
    omega
theorem asc_next : ∀ (x : Lin) (lo : Int), Asc lo x → ∀ i, i + 1 < x.length → (x.getD i (0, 0)).1 < (x.getD (i + 1) (0, 0)).1
  | [], _, _, i, hi => absurd hi (by simp)
  | t :: x, lo, h, 0, hi => by
    have := asc_get x _ h.2 0 (by simpa using hi)
    rw [List.getD_cons_succ, List.getD_cons_zero]
    omega
  | t :: x, lo, h, i + 1, hi => by
    rw [List.getD_cons_succ, List.getD_cons_succ]
    exact asc_next x _ h.2 i (by simpa using hi)
theorem lin_ok {p n : Int} {x : Lin} (h : LinIn p 0 n x) : linOk p n x = true := by
  refine decide_eq_true fun i hi => ?_
  have hm := getD_mem' hi (0, 0)
  have h1 := h.1 _ hm
  have h2 := h.2.2 _ hm
  have h3 := asc_get x 0 h.2.1 i hi
  refine ⟨⟨h3, h2⟩, fun h0 => ?_, by omega, h1.2⟩
  have := asc_next x 0 h.2.1 (i - 1) (by omega)
  rwa [show i - 1 + 1 = i by omega] at this
theorem hOk_ok {p v : Int} {h : Hn} (e : hOk p v h.val) : hintOk p v h = true := by
  obtain ⟨h1, h2, h3, h4⟩ := e
  unfold hintOk
  have e1 : linOk p v h.a.l = true := lin_ok h1
  have e2 : linOk p v h.b.l = true := lin_ok h2
  have h3 : 0 ≤ h.bit ∧ h.bit ≤ 63 := h3
  rw [e1, e2]
  rcases h4 with ⟨k, b⟩ | ⟨k, l, b⟩ | ⟨k, l⟩
  · rw [if_pos (show h.k = 1 from k), decide_eq_true (show h.bit = 0 from b)]; rfl
  · rw [if_neg (by rw [show h.k = 2 from k]; decide), if_pos (show h.k = 2 from k), decide_eq_true (show h.bit = 0 from b), decide_eq_true (show h.b.l.length = 0 by rw [show h.b.l = [] from l]; rfl)]; rfl
  · rw [if_neg (by rw [show h.k = 3 from k]; decide), if_neg (by rw [show h.k = 3 from k]; decide), if_pos (show h.k = 3 from k), decide_eq_true h3, decide_eq_true (show h.b.l.length = 0 by rw [show h.b.l = [] from l]; rfl)]; rfl
theorem getD_map' {α β : Type} (f : α → β) (l : List α) (i : Nat) (d : α) (e : β) (hi : i < l.length) : (l.map f).getD i e = f (l.getD i d) := by
  rw [List.getD_eq_getElem?_getD, List.getD_eq_getElem?_getD, List.getElem?_map, List.getElem?_eq_getElem hi]
  rfl
theorem cir_of {S : St} {I : List Int} (h : Wf S I) {R : List Rw} {H : List Hn} (hv : S.vars ≤ 65536) (hr : S.R.length ≤ 16384) (eR : R.map Rw.val = S.R) (eH : H.map Hn.val = S.H) : cirOk S.p S.pub S.vars R S.sec H = true := by
  have lR : R.length = S.R.length := by rw [← eR, List.length_map]
  have lH : H.length = S.H.length := by rw [← eH, List.length_map]
  obtain ⟨p1, p2, p3⟩ := h.ps
  have hl := h.len
  refine decide_eq_true ⟨decide_eq_true ⟨⟨h.v, p1, by omega, hv⟩, by omega, fun i hi => ?_⟩, p2, by omega, fun i hi => ?_⟩
  · have := h.rows (R.getD i default).val (by rw [← eR]; exact List.mem_map_of_mem (getD_mem' hi default))
    unfold rowOk
    rw [show linOk S.p S.vars (R.getD i default).a.l = true from lin_ok this.1, show linOk S.p S.vars (R.getD i default).b.l = true from lin_ok this.2.1, show linOk S.p S.vars (R.getD i default).c.l = true from lin_ok this.2.2]
    rfl
  · have := h.hints i (by omega)
    rw [← eH, getD_map' Hn.val H i default _ hi] at this
    rw [show 1 + S.pub + S.sec + (i : Int) = 1 + (I.length : Int) + i by omega]
    exact hOk_ok this
theorem sat_of {S : St} {I : List Int} {R : List Rw} {H : List Hn} (eR : R.map Rw.val = S.R) (eH : H.map Hn.val = S.H) : rowsSat S.p (runH S.p (1 :: I) H) R = true ↔ Sat S I := by
  have hf : runH S.p (1 :: I) H = fin S I := by rw [runH_val, eH]; rfl
  have key : ∀ r : Rw, rowSat S.p (fin S I) r = true ↔ sat3 S.p (fin S I) r.val := fun r => by
    unfold rowSat sat3
    rw [beq_iff_eq]
    rfl
  rw [hf]
  unfold rowsSat Sat
  rw [decide_eq_true_eq, ← eR]
  constructor
  · intro hh r hr
    obtain ⟨q, hq, rfl⟩ := List.mem_map.1 hr
    obtain ⟨i, hi, rfl⟩ := List.mem_iff_getElem.1 hq
    have := hh i hi
    rw [List.getD_eq_getElem?_getD, List.getElem?_eq_getElem hi] at this
    exact (key _).1 this
  · intro hh i hi
    exact (key _).2 (hh _ (List.mem_map_of_mem (getD_mem' hi default)))

theorem new_wf {p pub sec : Int} {I : List Int} (hv : vld p = true) (hI : ∀ x ∈ I, 0 ≤ x ∧ x < p) (h : 0 ≤ pub ∧ 0 ≤ sec ∧ (I.length : Int) = pub + sec) : Wf (newS p pub sec) I ∧ Sat (newS p pub sec) I :=
  ⟨⟨hv, hI, h, by show 1 + pub + sec = 1 + (I.length : Int) + (0 : Nat); omega, fun r (hr : r ∈ []) => (by cases hr), fun k (hk : k < 0) => absurd hk (by omega)⟩, fun r (hr : r ∈ []) => by cases hr⟩
theorem new_in {p pub sec : Int} {I : List Int} (hv : vld p = true) (hI : ∀ x ∈ I, 0 ≤ x ∧ x < p) (h : 0 ≤ pub ∧ 0 ≤ sec ∧ (I.length : Int) = pub + sec) {i : Nat} (hi : i < I.length) :
    LinIn p 0 (newS p pub sec).vars [(1 + (i : Int), 1)] ∧ V (newS p pub sec) I [(1 + (i : Int), 1)] = I.getD i 0 := by
  have hp := vld_pos hv
  refine ⟨LinIn.one (by omega) ⟨by omega, by show 1 + (i : Int) < 1 + pub + sec; omega⟩, ?_⟩
  show lval p (1 :: I) _ = _
  have hb := hI _ (getD_mem' hi 0)
  rw [lval_one hv, gv, if_pos ⟨by omega, by simp; omega⟩, show (1 + (i : Int)).toNat = i + 1 by omega, List.getD_cons_succ, Int.emod_eq_of_lt hb.1 hb.2]

/-- Sizes. -/
theorem Wf.szR {S : St} {I : List Int} (h : Wf S I) (hv : S.vars ≤ 10000000) : SzR S.R := fun r hr => by
  obtain ⟨h1, h2, h3⟩ := h.rows r hr
  have h0 := h.pos
  have := h1.len (by omega)
  have := h2.len (by omega)
  have := h3.len (by omega)
  omega
theorem Wf.szH {S : St} {I : List Int} (h : Wf S I) (hv : S.vars ≤ 10000000) : SzH S.H := fun r hr => by
  obtain ⟨i, hi, rfl⟩ := List.mem_iff_getElem.1 hr
  obtain ⟨h1, h2, _⟩ := h.hints i hi
  rw [List.getD_eq_getElem?_getD, List.getElem?_eq_getElem hi] at h1 h2
  have h0 := h.len
  have := h1.len (by omega)
  have := h2.len (by omega)
  simp only [Option.getD_some] at *
  omega



/-- w' is w behind calls that change blocks of the types of X alone. -/
structure KX (X : TypeId → Prop) (base : Nat) (w w' : World) : Prop where
  below : Below base w w'
  typ : ∀ (b : Nat) (cs : Array Value) (T : TypeId), Blk w b cs T → ¬ X T → Blk w' b cs T
theorem KX.refl (X : TypeId → Prop) (base : Nat) (w : World) : KX X base w w := ⟨Below.refl _ _, fun _ _ _ h _ => h⟩
theorem KX.trans {X : TypeId → Prop} {base : Nat} {w w' w2 : World} (h : KX X base w w') (k : KX X base w' w2) : KX X base w w2 :=
  ⟨h.below.trans k.below, fun b cs T g h1 => k.typ b cs T (h.typ b cs T g h1) h1⟩
theorem KX.of_below {X : TypeId → Prop} {base : Nat} {w w' : World} (h : Below w.heap.size w w') (hb : base ≤ w.heap.size) : KX X base w w' := ⟨h.mono hb, fun _ _ _ g _ => g.mono h⟩
theorem KX.lin {X : TypeId → Prop} {base : Nat} {w w' : World} {s : Lc} (k : KX X base w w') (hX : ¬ X 131) (h : LinT w s) : LinT w' s := by
  by_cases e : s.l = []
  · exact ⟨lc_nil h.ok e _, fun h0 => absurd e h0⟩
  · obtain ⟨b, off, cs, e2, g⟩ := h.blk e
    have g' := k.typ b cs _ g hX
    refine ⟨⟨fun h0 => ?_, h.ok.wl, h.ok.le, h.ok.mx⟩, fun _ => ⟨b, off, cs, e2, g'⟩⟩
    obtain ⟨b', off', e3, hl, hc⟩ := h.ok.sl h0
    rw [e2] at e3
    cases e3
    have hh : w'.heap[b]? = w.heap[b]? := by
      have h1 : w.heap[b]? = _ := g
      have h2 : w'.heap[b]? = _ := g'
      rw [h1, h2]
    exact ⟨b, off, e2, Nat.lt_of_lt_of_le hl k.below.size, fun i hi => ⟨by rw [World.cell?_of_block (w := w) hh]; exact (hc i hi).1, by rw [World.cell?_of_block (w := w) hh]; exact (hc i hi).2⟩⟩
theorem KX.own {α : Type} {X : TypeId → Prop} {L : Lay α} {w w' : World} {base b0 : Nat} {E : TypeId} {v : Value} {xs : List α} (k : KX X base w w') (hX : ¬ X E) (h : OwnG L w b0 E v xs) : OwnG L w' b0 E v xs := by
  rcases h.form with ⟨rfl, rfl⟩ | ⟨g, cap, cur, rfl, g1, g2, g3, g4, g5, g6⟩
  · exact OwnG.nil _ _ _ _
  · exact OwnG.of_blk g1 (k.typ g cur E g2 hX) g3 g4 g5 g6
theorem KX.grew {α : Type} {X : TypeId → Prop} {L : Lay α} {w w' : World} {base : Nat} {T : TypeId} {v v' : Value} {xs : List α} (ho : OwnG L w base T v xs) (hg : Grew w w' v v') (hX : X T) (hb : base ≤ w.heap.size) : KX X base w w' :=
  ⟨hg.belowG (Below.refl _ _) ho (Nat.le_refl _) hb, fun _ _ _ g' h1 => hg.blk g' (ho.neq g' (fun e => h1 (e ▸ hX)))⟩
theorem KX.set {X : TypeId → Prop} {w : World} {base b j : Nat} {cs : Array Value} {T : TypeId} {u : Value} (g : Blk w b cs T) (hX : X T) (hb : base ≤ b) : KX X base w (w.setCell ⟨b, j, none⟩ u) :=
  ⟨(Below.refl _ _).setCell hb _, fun _ _ _ g' h3 => g'.other (fun e => by subst e; exact h3 ((blk_type g' g) ▸ hX)) _ _⟩

theorem Bd.isZero {S : St} {n : Int} {x : Lin} (h : Bd S n) : Bd (gIsZero S x).1 (n + 5) := (((h.hint.mul).row).row).up (by omega)
end Go.Proofs.YtalmgeefkcebdaaGreatDoor

