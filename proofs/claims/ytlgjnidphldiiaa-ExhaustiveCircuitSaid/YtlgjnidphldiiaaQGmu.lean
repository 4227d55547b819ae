/- Gadgets: an assignment that satisfies all rows is the completion: on values. -/
import Derived.Test.YtlgjnidphldiiaaQGm
namespace Go.Proofs.Ytlgjnidphldiiaa
open Go.RowKit

/-- W begins with the completion of S, and its numbers are reduced. -/
structure Beg (S : St) (I W : List Int) : Prop where
  red : ∀ x ∈ W, 0 ≤ x ∧ x < S.p
  beg : ∃ X, W = fin S I ++ X
theorem Beg.val {S : St} {I W : List Int} (h : Beg S I W) (wf : Wf S I) {x : Lin} (hx : LinIn S.p 0 S.vars x) : lval S.p W x = V S I x := by
  obtain ⟨X, rfl⟩ := h.beg
  exact lval_more wf.v _ _ (by rw [wf.fin_len]; exact hx)
theorem Beg.next {S : St} {I W : List Int} (h : Beg S I W) (wf : Wf S I) (hl : S.vars + 1 ≤ W.length) : ∃ c X, W = fin S I ++ c :: X ∧ (0 ≤ c ∧ c < S.p) ∧ lval S.p W (nv S) = c := by
  obtain ⟨X, rfl⟩ := h.beg
  have hf := wf.fin_len
  cases X with
  | nil => rw [List.append_nil] at hl; omega
  | cons c X =>
    have hc := h.red c (by simp)
    refine ⟨c, X, rfl, hc, ?_⟩
    rw [nv, lval_one wf.v, ← hf]
    have : gv (fin S I ++ c :: X) ((fin S I).length : Int) = c := by
      unfold gv
      rw [if_pos ⟨by omega, by simp; omega⟩]
      simp
    rw [this, Int.emod_eq_of_lt hc.1 hc.2]
/-- What follows S in S' is determined by the rows of S'. -/
def Uq (S S' : St) (I : List Int) : Prop := (∀ r ∈ S.R, r ∈ S'.R) ∧ ∀ W : List Int, Beg S I W → S'.vars ≤ W.length → (∀ r ∈ S'.R, sat3 S.p W r) → Beg S' I W
theorem Uq.refl (S : St) (I : List Int) : Uq S S I := ⟨fun _ h => h, fun _ h _ _ => h⟩
theorem Uq.trans {S T U : St} {I : List Int} (h : Uq S T I) (k : Uq T U I) (hv : T.vars ≤ U.vars) (hp : T.p = S.p) : Uq S U I :=
  ⟨fun r hr => k.1 r (h.1 r hr), fun W hW hl hs => k.2 W (h.2 W hW (by omega) fun r hr => hs r (k.1 r hr)) hl (fun r hr => by rw [hp]; exact hs r hr)⟩
/-- Mul: the row tells the value of the new variable. -/
theorem mul_uq {S : St} {I : List Int} (h : Wf S I) {x y : Lin} (hx : LinIn S.p 0 S.vars x) (hy : LinIn S.p 0 S.vars y) : Uq S (gMul S x y) I := by
  refine ⟨fun r hr => List.mem_append_left _ hr, fun W hW hl hs => ?_⟩
  have hl1 : S.vars + 1 ≤ W.length := hl
  obtain ⟨c, X, hX, hc, hn⟩ := hW.next h hl1
  have hrow := hs ⟨x, y, nv S⟩ (List.mem_append_right _ (List.mem_singleton.2 rfl))
  unfold sat3 at hrow
  simp only at hrow
  rw [hW.val h hx, hW.val h hy, hn, fmul_eq h.v] at hrow
  refine ⟨hW.red, X, ?_⟩
  rw [show fin (gMul S x y) I = fin S I ++ [hv4 S.p (fin S I) ⟨1, x, y, 0⟩] from fin_hint S I 1 x y 0, hX, List.append_assoc]
  congr 1
  rw [List.singleton_append, ← hrow, hv4, if_pos (show (1 : Int) = 1 from rfl), fmul_eq h.v]
  rfl
theorem row_uq {S : St} (I : List Int) (x y z : Lin) : Uq S (gRow S x y z) I :=
  ⟨fun _ hr => List.mem_append_left _ hr, fun _ hW _ _ => ⟨hW.red, hW.beg⟩⟩
/-- The inverse is determined by the rows of IsZero. -/
theorem inv_uq {p a c d : Int} (hv : vld p = true) (ha : 0 ≤ a ∧ a < p) (hc : 0 ≤ c ∧ c < p) (hd : 0 ≤ d ∧ d < p) (r1 : a * c % p = d) (r2 : a * ((1 - d) % p) % p = 0) (r3 : c * ((1 - d) % p) % p = 0) : c = finv p a := by
  have hp := vld_pos hv
  by_cases h0 : a = 0
  · subst h0
    rw [Int.zero_mul, Int.zero_emod] at r1
    subst r1
    rw [show (1 - 0 : Int) % p = 1 from Int.emod_eq_of_lt (by omega) (by omega), Int.mul_one, Int.emod_eq_of_lt hc.1 hc.2] at r3
    rw [r3, inv_zero hv]
  · have hm := mul_inv hv (show 0 < a by omega) ha.2
    have hi : 0 ≤ finv p a ∧ finv p a < p := by rw [finv, if_pos hv]; exact mod_lt' (by omega) _
    have k1 : Cg p (a * finv p a) 1 := Cg.of (by rw [hm, Int.emod_eq_of_lt (by omega) (by omega)])
    have k2 : Cg p (a * (1 - d)) 0 := ((Cg.refl p a).mul (Cg.mod p (1 - d)).symm).trans (Cg.of (by rw [r2, Int.zero_emod]))
    have k3 : Cg p (1 - d) 0 := by
      have e1 : Cg p (finv p a * (a * (1 - d))) 0 := ((Cg.refl p (finv p a)).mul k2).trans (Cg.of_eq (Int.mul_zero _))
      have e2 : Cg p (finv p a * (a * (1 - d))) (1 - d) := (Cg.of_eq (by grind)).trans ((k1.mul (Cg.refl p (1 - d))).trans (Cg.of_eq (Int.one_mul _)))
      exact e2.symm.trans e1
    have k4 : Cg p (a * c) 1 := by
      have e1 : Cg p (a * c) d := (Cg.mod p (a * c)).symm.trans (Cg.of_eq r1)
      have e2 : Cg p d 1 := by
        have := (Cg.refl p 1).sub k3
        exact (Cg.of_eq (by omega)).trans (this.trans (Cg.of_eq (by omega)))
      exact e1.trans e2
    have k5 : Cg p c (finv p a) := by
      have e1 : Cg p (finv p a * (a * c)) (finv p a) := ((Cg.refl p (finv p a)).mul k4).trans (Cg.of_eq (Int.mul_one _))
      have e2 : Cg p (finv p a * (a * c)) c := (Cg.of_eq (by grind)).trans ((k1.mul (Cg.refl p c)).trans (Cg.of_eq (Int.one_mul _)))
      exact e2.symm.trans e1
    exact k5.eq hc hi
/-- A bit is determined by its row. -/
theorem bit_uq {p c : Int} (hv : vld p = true) (hc : 0 ≤ c ∧ c < p) (h : c * c % p = c) : c = 0 ∨ c = 1 := by
  have := (self_mul hv hc).1 h
  omega
/-- IsZero. -/
theorem isZero_uq {S : St} {I : List Int} (h : Wf S I) {x : Lin} (hx : LinIn S.p 0 S.vars x) : Uq S (gIsZero S x).1 I := by
  have hp := vld_pos h.v
  obtain ⟨e1, _, v1, l1⟩ := hint_ext h (k := 2) (bit := 0) (x := x) (y := []) ⟨hx, LinIn.nil .., ⟨Int.le_refl _, (by decide : (0 : Int) ≤ 63)⟩, Or.inr (Or.inl ⟨rfl, rfl, rfl⟩)⟩
  have hm := mul_uq e1.wf (e1.lin hx) (y := nv S) l1
  refine ⟨fun r hr => List.mem_append_left _ (List.mem_append_left _ (List.mem_append_left _ hr)), fun W hW hl hs => ?_⟩
  have hl2 : S.vars + 2 ≤ W.length := by
    have : (gIsZero S x).1.vars = S.vars + 1 + 1 := rfl
    omega
  obtain ⟨c, X, hX, hc, hn⟩ := hW.next h (by omega)
  have hf := h.fin_len
  obtain ⟨d, X2, rfl⟩ : ∃ d X2, X = d :: X2 := by
    cases X with
    | nil => rw [hX] at hl2; simp at hl2; omega
    | cons d X2 => exact ⟨d, X2, rfl⟩
  have hd : 0 ≤ d ∧ d < S.p := hW.red d (by rw [hX]; simp)
  have hnd : lval S.p W (nv (gHint S 2 x [] 0)) = d := by
    show lval S.p W [(S.vars + 1, 1)] = d
    rw [lval_one h.v]
    have : gv W (S.vars + 1) = d := by
      rw [hX]
      unfold gv
      rw [if_pos ⟨by have := h.pos; omega, by simp; omega⟩, show (S.vars + 1).toNat = (fin S I).length + 1 by omega]
      simp
    rw [this, Int.emod_eq_of_lt hd.1 hd.2]
  have hz : lval S.p W (gNot S.p (nv (gHint S 2 x [] 0))) = (1 - d) % S.p := by
    rw [gNot, lval_sub h.v, hnd, hW.val h (one_lin h), V_one h.v]
  have r1 := hs ⟨x, nv S, nv (gHint S 2 x [] 0)⟩ (List.mem_append_left _ (List.mem_append_left _ (List.mem_append_right _ (List.mem_singleton.2 rfl))))
  have r2 := hs ⟨x, gNot S.p (nv (gHint S 2 x [] 0)), []⟩ (List.mem_append_left _ (List.mem_append_right _ (List.mem_singleton.2 rfl)))
  have r3 := hs ⟨nv S, gNot S.p (nv (gHint S 2 x [] 0)), []⟩ (List.mem_append_right _ (List.mem_singleton.2 rfl))
  unfold sat3 at r1 r2 r3
  simp only at r1 r2 r3
  rw [hW.val h hx, hn, hnd, fmul_eq h.v] at r1
  rw [hW.val h hx, hz, fmul_eq h.v] at r2
  rw [hn, hz, fmul_eq h.v] at r3
  have hci := inv_uq h.v (V_bds h x) hc hd r1 r2 r3
  have hB1 : Beg (gHint S 2 x [] 0) I W := ⟨hW.red, d :: X2, by
    rw [fin_hint, hX, List.append_assoc]
    congr 1
    rw [List.singleton_append, hci, hv4, if_neg (show ¬ (2 : Int) = 1 by decide), if_pos (show (2 : Int) = 2 from rfl)]
    rfl⟩
  obtain ⟨hr, X3, hX3⟩ := hm.2 W hB1 (by show S.vars + 1 + 1 ≤ _; omega) (fun r hr => hs r (List.mem_append_left _ (List.mem_append_left _ hr)))
  exact ⟨hr, X3, hX3⟩
/-- The digits of a number to the base 2 are determined. -/
def bsum (b : Nat → Int) : Nat → Int
  | 0 => 0
  | k + 1 => bsum b k + b k * 2 ^ k
theorem bsum_bd {b : Nat → Int} : ∀ n : Nat, (∀ i, i < n → b i = 0 ∨ b i = 1) → 0 ≤ bsum b n ∧ bsum b n < 2 ^ n
  | 0, _ => ⟨Int.le_refl 0, by show (0 : Int) < 1; decide⟩
  | k + 1, h => by
    obtain ⟨h1, h2⟩ := bsum_bd k fun i hi => h i (by omega)
    have h3 := two_pos k
    rw [bsum, Int.pow_succ]
    rcases h k (by omega) with e | e <;> rw [e] <;> omega
theorem bsum_mod {b : Nat → Int} {n : Nat} (h : ∀ i, i < n → b i = 0 ∨ b i = 1) : ∀ k, k ≤ n → bsum b n % 2 ^ k = bsum b k := by
  have key : ∀ m k : Nat, k ≤ m → m ≤ n → bsum b m % 2 ^ k = bsum b k := by
    intro m
    induction m with
    | zero =>
      intro k hk _
      obtain rfl : k = 0 := by omega
      rfl
    | succ m ih =>
      intro k hk hm
      by_cases hkm : k = m + 1
      · subst hkm
        obtain ⟨h1, h2⟩ := bsum_bd (b := b) (m + 1) fun i hi => h i (by omega)
        exact Int.emod_eq_of_lt h1 h2
      · have he : (2 : Int) ^ m = 2 ^ k * 2 ^ (m - k) := by rw [← Int.pow_add]; congr 1; omega
        rw [bsum, he, show b m * (2 ^ k * 2 ^ (m - k)) = 2 ^ k * (b m * 2 ^ (m - k)) by grind, Int.add_mul_emod_self_left]
        exact ih k (by omega) (by omega)
  exact fun k hk => key n k hk (Nat.le_refl _)
theorem bsum_digit {b : Nat → Int} {n : Nat} (h : ∀ i, i < n → b i = 0 ∨ b i = 1) {i : Nat} (hi : i < n) : b i = bsum b n / 2 ^ i % 2 := by
  have h0 := (bsum_bd n h).1
  have h1 := bsum_mod h (i + 1) (by omega)
  rw [mod_pow h0, bsum_mod h i (by omega), bsum] at h1
  have h3 := two_pos i
  have h4 : 2 ^ i * (bsum b n / 2 ^ i % 2) = 2 ^ i * b i := by
    rw [Int.mul_comm (2 ^ i) (b i)]
    omega
  exact (Int.eq_of_mul_eq_mul_left (by omega) h4).symm
theorem bitsS_row (S : St) (x : Lin) : ∀ (n i : Nat), i < n → (⟨[(S.vars + i, 1)], [(S.vars + i, 1)], [(S.vars + i, 1)]⟩ : Row3) ∈ (bitsS S x n).R
  | 0, i, h => absurd h (by omega)
  | n + 1, i, h => by
    by_cases hi : i < n
    · exact List.mem_append_left _ (bitsS_row S x n i hi)
    · obtain rfl : i = n := by omega
      refine List.mem_append_right _ (List.mem_singleton.2 ?_)
      show _ = (⟨[((bitsS S x i).vars, 1)], [((bitsS S x i).vars, 1)], [((bitsS S x i).vars, 1)]⟩ : Row3)
      rw [bitsS_vars]
theorem bitsS_old (S : St) (x : Lin) : ∀ n : Nat, ∀ r ∈ S.R, r ∈ (bitsS S x n).R
  | 0, _, h => h
  | n + 1, r, h => List.mem_append_left _ (bitsS_old S x n r h)
/-- Bits. -/
theorem bits_uq {S : St} {I : List Int} (h : Wf S I) {x : Lin} (hx : LinIn S.p 0 S.vars x) (n : Nat) (hn : n ≤ 64) (h2 : (2 : Int) ^ n < S.p) : Uq S (gBits S x n) I := by
  have hp := vld_pos h.v
  refine ⟨fun r hr => List.mem_append_left _ (bitsS_old S x n r hr), fun W hW hl hs => ?_⟩
  have hl2 : S.vars + n ≤ W.length := by
    have : (gBits S x n).vars = S.vars + n := bitsS_vars S x n
    omega
  obtain ⟨X, hX⟩ := hW.beg
  have hf := h.fin_len
  have hXl : n ≤ X.length := by
    have := congrArg List.length hX
    rw [List.length_append] at this
    omega
  have hpos := h.pos
  have hc : ∀ i, i < n → lval S.p W [(S.vars + (i : Int), 1)] = X.getD i 0 ∧ gv W (S.vars + i) = X.getD i 0 ∧ (0 ≤ X.getD i 0 ∧ X.getD i 0 < S.p) := fun i hi => by
    have hr := hW.red (X.getD i 0) (by rw [hX]; exact List.mem_append_right _ (getD_mem' (by omega) 0))
    have hg : gv W (S.vars + i) = X.getD i 0 := by
      rw [hX]
      unfold gv
      rw [if_pos ⟨by omega, by rw [List.length_append]; omega⟩, show (S.vars + (i : Int)).toNat = (fin S I).length + i by omega, List.getD_eq_getElem?_getD, List.getElem?_append_right (by omega), Nat.add_sub_cancel_left, List.getD_eq_getElem?_getD]
    exact ⟨by rw [lval_one h.v, hg, Int.emod_eq_of_lt hr.1 hr.2], hg, hr⟩
  have hb : ∀ i, i < n → X.getD i 0 = 0 ∨ X.getD i 0 = 1 := fun i hi => by
    obtain ⟨q1, _, q3⟩ := hc i hi
    have := hs _ (List.mem_append_left _ (bitsS_row S x n i hi))
    unfold sat3 at this
    simp only at this
    rw [q1, fmul_eq h.v] at this
    exact bit_uq h.v q3 this
  have hsum : ∀ k, k ≤ n → Cg S.p (lsum W (bitsSum S k)) (bsum (fun i => X.getD i 0) k) := by
    intro k
    induction k with
    | zero => exact fun _ => Cg.of_eq rfl
    | succ k ih =>
      intro hk
      rw [bitsSum_succ, lsum_app, bsum]
      refine (ih (by omega)).add ?_
      show Cg S.p (fred S.p (2 ^ k) * gv W (S.vars + k) + 0) _
      rw [(hc k (by omega)).2.1, Int.add_zero, Int.mul_comm (X.getD k 0)]
      exact Cg.mul (by rw [fred_valid h.v]; exact Cg.mod _ _) (Cg.refl _ _)
  have hass := hs _ (List.mem_append_right _ (List.mem_singleton.2 rfl))
  unfold sat3 at hass
  simp only at hass
  rw [bitsS_p, lval_sub h.v, hW.val h hx, hW.val h (one_lin h), V_one h.v, fmul_eq h.v, Int.mul_one, Int.emod_emod_of_dvd _ (Int.dvd_refl _), lval_nil, lval_lsum h.v] at hass
  have hbd := bsum_bd (b := fun i => X.getD i 0) n hb
  have hxb := V_bds h x
  have heq : bsum (fun i => X.getD i 0) n = V S I x := by
    have c1 : Cg S.p (lsum W (bitsSum S n) % S.p - V S I x) 0 := Cg.of (by rw [hass, Int.zero_emod])
    have c2 : Cg S.p (lsum W (bitsSum S n) % S.p) (V S I x) := by
      have := c1.add (Cg.refl S.p (V S I x))
      rwa [Int.sub_add_cancel, Int.zero_add] at this
    exact ((hsum n (Nat.le_refl _)).symm.trans ((Cg.mod _ _).symm.trans c2)).eq ⟨hbd.1, by omega⟩ hxb
  have hdig : ∀ i, i < n → X.getD i 0 = V S I x / 2 ^ i % 2 := fun i hi => by
    have := bsum_digit (b := fun i => X.getD i 0) hb hi
    rw [heq] at this
    exact this
  have hfin : ∀ k, k ≤ n → W = fin (bitsS S x k) I ++ X.drop k := by
    intro k
    induction k with
    | zero => exact fun _ => by rw [List.drop_zero]; exact hX
    | succ k ih =>
      intro hk
      obtain ⟨e, _, _⟩ := bits_ext h hx k (by omega)
      have hh : fin (bitsS S x (k + 1)) I = fin (bitsS S x k) I ++ [hv4 (bitsS S x k).p (fin (bitsS S x k) I) ⟨3, x, [], (k : Int)⟩] := fin_hint (bitsS S x k) I 3 x [] k
      have hv : hv4 (bitsS S x k).p (fin (bitsS S x k) I) ⟨3, x, [], (k : Int)⟩ = X.getD k 0 := by
        rw [hdig k (by omega), hv4, if_neg (show ¬ (3 : Int) = 1 by decide), if_neg (show ¬ (3 : Int) = 2 by decide)]
        show V (bitsS S x k) I x / 2 ^ (k : Int).toNat % 2 = _
        rw [e.val x hx, Int.toNat_natCast]
      have hdr : X.drop k = X.getD k 0 :: X.drop (k + 1) := by
        rw [List.drop_eq_getElem_cons (by omega), List.getD_eq_getElem?_getD, List.getElem?_eq_getElem (by omega)]
        rfl
      rw [hh, hv, List.append_assoc, List.singleton_append, ← hdr]
      exact ih (by omega)
  refine ⟨fun y hy => ?_, X.drop n, hfin n (Nat.le_refl _)⟩
  have := hW.red y hy
  rw [show (gBits S x n).p = S.p from bitsS_p S x n]
  exact this
theorem equal_uq {S : St} {I : List Int} (h : Wf S I) {x y : Lin} (hx : LinIn S.p 0 S.vars x) (hy : LinIn S.p 0 S.vars y) : Uq S (gEqual S x y).1 I := isZero_uq h (LinIn.add h.v hx hy)
theorem or_uq {S : St} {I : List Int} (h : Wf S I) {x y : Lin} (hx : LinIn S.p 0 S.vars x) (hy : LinIn S.p 0 S.vars y) : Uq S (gOr S x y).1 I := mul_uq h hx hy
theorem select_uq {S : St} {I : List Int} (h : Wf S I) {c x y : Lin} (hc : LinIn S.p 0 S.vars c) (hx : LinIn S.p 0 S.vars x) (hy : LinIn S.p 0 S.vars y) : Uq S (gSelect S c x y).1 I := mul_uq h hc (LinIn.add h.v hx hy)
theorem less_uq {S : St} {I : List Int} (h : Wf S I) {x y : Lin} (hx : LinIn S.p 0 S.vars x) (hy : LinIn S.p 0 S.vars y) (n : Nat) (hn : n ≤ 63) (h2 : (2 : Int) ^ (n + 1) < S.p) : Uq S (gLess S x y n).1 I := by
  have h3 : (2 : Int) ^ n < S.p := by
    have := two_pos n
    rw [Int.pow_succ] at h2
    omega
  have hk : keepT (0, fred S.p (2 ^ n)) = [(0, 2 ^ n)] := by
    rw [fred_valid h.v, Int.emod_eq_of_lt (Int.le_of_lt (two_pos n)) h3]
    exact keepT_of (two_pos n)
  refine bits_uq h (x := lessX S.p n x y) ?_ (n + 1) (by omega) h2
  unfold lessX
  rw [hk]
  exact LinIn.add h.v (LinIn.add h.v (cst_lin ⟨two_pos n, h3⟩ h.pos) hx) hy
/-- An assignment that satisfies all rows, and begins with the inputs, is the completion. -/
theorem uq_all {S0 S : St} {I W : List Int} (u : Uq S0 S I) (wf : Wf S I) (hW : Beg S0 I W) (hl : (W.length : Int) = S.vars) (hs : ∀ r ∈ S.R, sat3 S0.p W r) : W = fin S I := by
  obtain ⟨_, X, hX⟩ := u.2 W hW (by omega) hs
  have hf := wf.fin_len
  have : X = [] := List.eq_nil_of_length_eq_zero (by
    have := congrArg List.length hX
    rw [List.length_append] at this
    omega)
  rw [hX, this, List.append_nil]
end Go.Proofs.Ytlgjnidphldiiaa
