/- Gadgets: a script on values: what a list of gadgets makes of a circuit, and what holds of it. -/
import Derived.Test.YtlgjnidphldiiaaQGmv
namespace Go.Proofs.Ytlgjnidphldiiaa
open Go.RowKit

/-- A gadget of a script. -/
structure Op5 where
  k : Int
  x : Int
  y : Int
  z : Int
  n : Int
instance : Inhabited Op5 := ⟨⟨0, 0, 0, 0, 0⟩⟩
def opd (VL : List Lin) (n : Int) : Lin := VL.getD (n % VL.length).toNat []
def gOp (S : St) (VL : List Lin) (x y z : Lin) (m : Nat) (n : Int) : Nat → St × List Lin
  | 0 => (gMul S x y, VL ++ [nv S])
  | 1 => (gAssert S x y, VL)
  | 2 => (gBool S x, VL)
  | 3 => (gBits S x m, VL ++ bitsL S m)
  | 4 => ((gIsZero S x).1, VL ++ [(gIsZero S x).2])
  | 5 => ((gEqual S x y).1, VL ++ [(gEqual S x y).2])
  | 6 => (S, VL ++ [gNot S.p x])
  | 7 => (gMul S x y, VL ++ [nv S])
  | 8 => ((gOr S x y).1, VL ++ [(gOr S x y).2])
  | 9 => ((gSelect S x y z).1, VL ++ [(gSelect S x y z).2])
  | 10 => ((gLess S x y m).1, VL ++ [(gLess S x y m).2])
  | 11 => (S, VL ++ [addL S.p x y])
  | 12 => (S, VL ++ [addP S.p [] x n])
  | _ => ((gHash S n ([x, y, z].take (n % 4).toNat)).1, VL ++ [(gHash S n ([x, y, z].take (n % 4).toNat)).2])
def wOf (p : Int) (n : Int) : Nat := (n % (wid p + 1)).toNat
def stO (p : Int) (q : St × List Lin) (o : Op5) : St × List Lin := gOp q.1 q.2 (opd q.2 o.x) (opd q.2 o.y) (opd q.2 o.z) (wOf p o.n) o.n (o.k % 14).toNat
def runO (p : Int) (ops : List Op5) (q : St × List Lin) : St × List Lin := ops.foldl (stO p) q
theorem wOf_bd {p : Int} (hv : vld p = true) (n : Int) : ((wOf p n : Nat) : Int) = n % (wid p + 1) ∧ wOf p n ≤ 6 ∧ (2 : Int) ^ (wOf p n + 1) < p := by
  obtain ⟨d1, d2, d3⟩ := wid_bd hv
  have hm := mod_lt' (show 0 < wid p + 1 by omega) n
  have he : ((wOf p n : Nat) : Int) = n % (wid p + 1) := by unfold wOf; omega
  refine ⟨he, by omega, ?_⟩
  have h3 : (2 : Int) ^ (wOf p n + 1) ≤ 2 ^ ((wid p).toNat + 1) := by exact_mod_cast Nat.pow_le_pow_right (show 0 < 2 by decide) (show wOf p n + 1 ≤ (wid p).toNat + 1 by omega)
  omega
theorem Bd.hash {S : St} {n : Int} (h : Bd S n) (label : Int) (VL : List Lin) : Bd (gHash S label VL).1 (n + 192 * (hashM VL.length : Nat)) := gHashN_bd (q := (S, hash0 S.p label VL.length)) h (hashM VL.length)
theorem Bd.less {S : St} {n : Int} (h : Bd S n) (x y : Lin) (m : Nat) : Bd (gLess S x y m).1 (n + 2 * (m + 1 : Nat) + 1) := h.bits _ (m + 1)
theorem bitsL_len (S : St) (n : Nat) : (bitsL S n).length = n := by simp [bitsL]
theorem bitsL_in {S : St} {n : Nat} {p : Int} (hp : 1 < p) (h0 : 0 < S.vars) : ∀ x ∈ bitsL S n, LinIn p 0 (S.vars + n) x := fun x hx => by
  unfold bitsL at hx
  obtain ⟨i, hi, rfl⟩ := List.mem_map.1 hx
  rw [List.mem_range] at hi
  exact LinIn.one hp ⟨by omega, by omega⟩

/-- What holds behind k gadgets. -/
structure RI (p pub sec : Int) (I : List Int) (S : St) (VL : List Lin) (k : Nat) : Prop where
  wf : Wf S I
  pp : S.p = p
  bd : Bd S (9 + 400 * (k : Int))
  lin : ∀ x ∈ VL, LinIn p 0 S.vars x
  len : 3 ≤ VL.length ∧ VL.length ≤ 11 + 6 * k
  e : Ext (newS p pub sec) S I
  u : Uq (newS p pub sec) S I
section
variable {p pub sec : Int} {I : List Int} {S : St} {VL : List Lin} {k : Nat}
theorem RI.v (h : RI p pub sec I S VL k) : vld S.p = true := h.wf.v
theorem RI.push {S' : St} {L : List Lin} (h : RI p pub sec I S VL k) (e : Ext S S' I) (u : Uq S S' I) (hb : Bd S' (9 + 400 * (k : Int) + 400)) (hL : ∀ z ∈ L, LinIn p 0 S'.vars z) (hl : L.length ≤ 6) : RI p pub sec I S' (VL ++ L) (k + 1) :=
  ⟨e.wf, by rw [e.p, h.pp], hb.up (by omega), fun x hx => by
    rcases List.mem_append.1 hx with h1 | h1
    · exact (h.lin x h1).up e.le
    · exact hL x h1, by rw [List.length_append]; have := h.len; omega, h.e.trans e, h.u.ext h.e u e⟩
theorem RI.push0 {S' : St} (h : RI p pub sec I S VL k) (e : Ext S S' I) (u : Uq S S' I) (hb : Bd S' (9 + 400 * (k : Int) + 400)) : RI p pub sec I S' VL (k + 1) := by
  have := h.push (L := []) e u hb (fun z hz => by cases hz) (by simp)
  rwa [List.append_nil] at this
theorem RI.push1 {S' : St} {z : Lin} (h : RI p pub sec I S VL k) (e : Ext S S' I) (u : Uq S S' I) (hb : Bd S' (9 + 400 * (k : Int) + 400)) (hz : LinIn S.p 0 S'.vars z) : RI p pub sec I S' (VL ++ [z]) (k + 1) :=
  h.push e u hb (fun x hx => by rw [List.mem_singleton] at hx; subst hx; rw [← h.pp]; exact hz) (by simp)
theorem opd_mem (h0 : 0 < VL.length) (n : Int) : opd VL n ∈ VL := by
  have := mod_lt' (show (0 : Int) < VL.length by omega) n
  exact getD_mem' (by omega) []
theorem RI.get (h : RI p pub sec I S VL k) {x : Lin} (hx : x ∈ VL) : LinIn S.p 0 S.vars x := by rw [h.pp]; exact h.lin x hx
theorem RI.lens (h : RI p pub sec I S VL k) {x : Lin} (hx : x ∈ VL) : (x.length : Int) ≤ 9 + 400 * (k : Int) := by
  have h1 := h.bd.v
  have := (h.lin x hx).len h1.1
  omega
theorem RI.gop (h : RI p pub sec I S VL k) {x y z : Lin} (hx : x ∈ VL) (hy : y ∈ VL) (hz : z ∈ VL) (m : Nat) (n : Int) (hm : m ≤ 6) (h2 : (2 : Int) ^ (m + 1) < p) (c : Nat) : RI p pub sec I (gOp S VL x y z m n c).1 (gOp S VL x y z m n c).2 (k + 1) := by
  have hx' := h.get hx
  have hy' := h.get hy
  have hz' := h.get hz
  have hp := vld_pos h.v
  have hpw : ∀ i : Nat, i ≤ m + 1 → (2 : Int) ^ i < S.p := fun i hi => by
    have h3 : (2 : Int) ^ i ≤ 2 ^ (m + 1) := by exact_mod_cast Nat.pow_le_pow_right (show 0 < 2 by decide) hi
    rw [h.pp]
    omega
  match c with
  | 0 => obtain ⟨e, _, _, l⟩ := mul_ext h.wf hx' hy'; exact h.push1 e (mul_uq h.wf hx' hy') (h.bd.mul.up (by omega)) l
  | 1 => obtain ⟨e, _⟩ := assert_ext h.wf hx' hy'; exact h.push0 e (row_uq ..) (Bd.up (Bd.row h.bd) (by omega))
  | 2 => obtain ⟨e, _⟩ := bool_ext h.wf hx'; exact h.push0 e (row_uq ..) (Bd.up (Bd.row h.bd) (by omega))
  | 3 =>
    obtain ⟨e, _⟩ := gBits_ext h.wf hx' m (by omega) (fun i hi => hpw i (by omega))
    refine h.push e (bits_uq h.wf hx' m (by omega) (hpw m (by omega))) ((h.bd.bits x m).up (by omega)) (fun q hq => ?_) (by rw [bitsL_len]; exact hm)
    rw [show (gOp S VL x y z m n 3).1.vars = S.vars + m from bitsS_vars S x m]
    exact bitsL_in (by rw [← h.pp]; omega) h.wf.pos q hq
  | 4 => obtain ⟨e, _, _, l⟩ := isZero_ext h.wf hx'; exact h.push1 e (isZero_uq h.wf hx') (h.bd.isZero.up (by omega)) l
  | 5 => obtain ⟨e, _, _, l⟩ := equal_ext h.wf hx' hy'; exact h.push1 e (equal_uq h.wf hx' hy') (show Bd (gIsZero S (subL S.p x y)).1 _ from h.bd.isZero.up (by omega)) l
  | 6 => exact h.push1 (Ext.refl h.wf) (Uq.refl ..) (h.bd.up (by omega)) (not_val h.wf hx').1
  | 7 => obtain ⟨e, _, _, l⟩ := mul_ext h.wf hx' hy'; exact h.push1 e (mul_uq h.wf hx' hy') (h.bd.mul.up (by omega)) l
  | 8 => obtain ⟨e, _, _, l⟩ := or_ext h.wf hx' hy'; exact h.push1 e (or_uq h.wf hx' hy') (show Bd (gMul S x y) _ from h.bd.mul.up (by omega)) l
  | 9 => obtain ⟨e, _, _, l⟩ := select_ext h.wf hx' hy' hz'; exact h.push1 e (select_uq h.wf hx' hy' hz') (show Bd (gMul S x (subL S.p y z)) _ from h.bd.mul.up (by omega)) l
  | 10 => obtain ⟨e, _, _, l⟩ := less_ext h.wf hx' hy' m (by omega) (hpw m (by omega)); exact h.push1 e (less_uq h.wf hx' hy' m (by omega) (hpw (m + 1) (by omega))) ((h.bd.less x y m).up (by omega)) l
  | 11 => exact h.push1 (Ext.refl h.wf) (Uq.refl ..) (h.bd.up (by omega)) (LinIn.add h.v hx' hy')
  | 12 => exact h.push1 (Ext.refl h.wf) (Uq.refl ..) (h.bd.up (by omega)) (LinIn.add h.v (LinIn.nil ..) hx')
  | _ + 13 =>
    have hV : ∀ q ∈ [x, y, z].take (n % 4).toNat, LinIn S.p 0 S.vars q := fun q hq => by
      have := List.mem_of_mem_take hq
      simp only [List.mem_cons, List.not_mem_nil, or_false] at this
      rcases this with rfl | rfl | rfl <;> assumption
    obtain ⟨e, _, _, l⟩ := hash_ext h.wf n hV
    refine h.push1 e (hash_uq h.wf n hV) ((h.bd.hash n _).up ?_) l
    have hl : ([x, y, z].take (n % 4).toNat).length ≤ 3 := by rw [List.length_take]; exact Nat.min_le_right _ _
    have : hashM ([x, y, z].take (n % 4).toNat).length ≤ 2 := by unfold hashM; split <;> omega
    omega
theorem RI.step (h : RI p pub sec I S VL k) (o : Op5) : RI p pub sec I (stO p (S, VL) o).1 (stO p (S, VL) o).2 (k + 1) := by
  have h0 := h.len.1
  have hv := h.v
  rw [h.pp] at hv
  obtain ⟨_, w2, w3⟩ := wOf_bd hv o.n
  exact h.gop (opd_mem (by omega) _) (opd_mem (by omega) _) (opd_mem (by omega) _) _ _ w2 w3 _
end
theorem RI.run {p pub sec : Int} {I : List Int} : ∀ (ops : List Op5) {S : St} {VL : List Lin} {k : Nat}, RI p pub sec I S VL k → RI p pub sec I (runO p ops (S, VL)).1 (runO p ops (S, VL)).2 (k + ops.length)
  | [], _, _, _, h => h
  | o :: ops, S, VL, k, h => by
    have := RI.run ops (h.step o)
    rw [show k + (o :: ops).length = k + 1 + ops.length by simp; omega]
    exact this
theorem RI.start {p pub sec : Int} {I : List Int} (hv : vld p = true) (hI : ∀ x ∈ I, 0 ≤ x ∧ x < p) (h : 0 ≤ pub ∧ pub ≤ 4 ∧ 0 ≤ sec ∧ sec ≤ 4) (hl : (I.length : Int) = pub + sec) : RI p pub sec I (newS p pub sec) (startL p (pub + sec).toNat) 0 := by
  have hp := vld_pos hv
  obtain ⟨wf, _⟩ := new_wf (p := p) (pub := pub) (sec := sec) hv hI ⟨by omega, by omega, hl⟩
  refine ⟨wf, rfl, ⟨⟨by show 0 ≤ 1 + pub + sec; omega, by show 1 + pub + sec ≤ _; omega⟩, by show ((0 : Nat) : Int) ≤ _; omega, by show ((0 : Nat) : Int) ≤ _; omega⟩, fun x hx => ?_, ?_, Ext.refl wf, Uq.refl ..⟩
  · unfold startL at hx
    have hvp : 0 < (newS p pub sec).vars := wf.pos
    rcases List.mem_append.1 hx with h1 | h1
    · simp only [List.mem_cons, List.not_mem_nil, or_false] at h1
      rcases h1 with rfl | rfl | rfl
      · exact LinIn.nil ..
      · exact cst_in hv 1 hvp
      · exact cst_in hv 2 hvp
    · unfold inL at h1
      obtain ⟨i, hi, rfl⟩ := List.mem_map.1 h1
      rw [List.mem_range] at hi
      exact (new_in hv hI ⟨by omega, by omega, hl⟩ (show i < I.length by omega)).1
  · simp only [startL, inL, List.length_append, List.length_map, List.length_range, List.length_cons, List.length_nil]
    omega
theorem runO_snoc (p : Int) (ops : List Op5) (o : Op5) (q : St × List Lin) : runO p (ops ++ [o]) q = stO p (runO p ops q) o := by
  unfold runO; rw [List.foldl_append]; rfl
end Go.Proofs.Ytlgjnidphldiiaa
