/- Gadgets: power, permute and Hash: their rows determine what they add. -/
import Derived.Test.YtlgjnidphldiiaaQGmh
import Derived.Test.YtlgjnidphldiiaaQGmu
namespace Go.Proofs.Ytlgjnidphldiiaa
open Go.RowKit

theorem Uq.ext {S T U : St} {I : List Int} (h : Uq S T I) (e : Ext S T I) (k : Uq T U I) (f : Ext T U I) : Uq S U I := h.trans k f.le e.p
theorem pow_uq {S : St} {I : List Int} (h : Wf S I) {x : Lin} (hx : LinIn S.p 0 S.vars x) : Uq S (gPow S x).1 I := by
  obtain ⟨e1, _, _, l1⟩ := mul_ext h hx hx
  have u1 := mul_uq h hx hx
  have l1' : LinIn (gMul S x x).p 0 (gMul S x x).vars (nv S) := by rw [e1.p]; exact l1
  have hx1 := e1.lin hx
  unfold gPow
  split
  · obtain ⟨e2, _, _, l2⟩ := mul_ext e1.wf l1' l1'
    have u2 := mul_uq e1.wf l1' l1'
    have l2' : LinIn (gMul (gMul S x x) (nv S) (nv S)).p 0 (gMul (gMul S x x) (nv S) (nv S)).vars (nv (gMul S x x)) := by rw [e2.p]; exact l2
    obtain ⟨e3, _, _, _⟩ := mul_ext e2.wf l2' (e2.lin hx1)
    exact u1.ext e1 (u2.ext e2 (mul_uq e2.wf l2' (e2.lin hx1)) e3) (e2.trans e3)
  · split
    · obtain ⟨e2, _, _, l2⟩ := mul_ext e1.wf l1' hx1
      have u2 := mul_uq e1.wf l1' hx1
      have l2' : LinIn (gMul (gMul S x x) (nv S) x).p 0 (gMul (gMul S x x) (nv S) x).vars (nv (gMul S x x)) := by rw [e2.p]; exact l2
      obtain ⟨e3, _, _, l3⟩ := mul_ext e2.wf l2' l2'
      have u3 := mul_uq e2.wf l2' l2'
      have l3' : LinIn (gMul (gMul (gMul S x x) (nv S) x) (nv (gMul S x x)) (nv (gMul S x x))).p 0 (gMul (gMul (gMul S x x) (nv S) x) (nv (gMul S x x)) (nv (gMul S x x))).vars (nv (gMul (gMul S x x) (nv S) x)) := by rw [e3.p]; exact l3
      have hx3 := (e2.trans e3).lin hx1
      obtain ⟨e4, _, _, _⟩ := mul_ext e3.wf l3' hx3
      exact u1.ext e1 (u2.ext e2 (u3.ext e3 (mul_uq e3.wf l3' hx3) e4) (e3.trans e4)) (e2.trans (e3.trans e4))
    · obtain ⟨e2, _, _, _⟩ := mul_ext e1.wf l1' hx1
      exact u1.ext e1 (mul_uq e1.wf l1' hx1) e2
theorem sub_uq {S : St} {I : List Int} (h : Wf S I) {s : L3} (hs : Lin3 S s) (r : Int) : Uq S (gSub r (S, s)).1 I := by
  obtain ⟨la, _⟩ := kon_val h r 0 hs.1
  obtain ⟨lb, _⟩ := kon_val h r 1 hs.2.1
  obtain ⟨lc, _⟩ := kon_val h r 2 hs.2.2
  obtain ⟨e1, _, _, _⟩ := pow_ext h la
  obtain ⟨e2, _, _, _⟩ := pow_ext e1.wf (e1.lin lb)
  obtain ⟨e3, _, _, _⟩ := pow_ext e2.wf ((e1.trans e2).lin lc)
  exact (pow_uq h la).ext e1 ((pow_uq e1.wf (e1.lin lb)).ext e2 (pow_uq e2.wf ((e1.trans e2).lin lc)) e3) (e2.trans e3)
theorem perm_uq {S : St} {I : List Int} (h : Wf S I) {s : L3} (hs : Lin3 S s) : ∀ k : Nat, Uq S (gPerm k (S, s)).1 I
  | 0 => Uq.refl S I
  | k + 1 => by
    obtain ⟨e, _, l, _⟩ := perm_ext h hs k
    obtain ⟨e2, _, _, _⟩ := sub_ext e.wf l k
    exact (perm_uq h hs k).ext e (sub_uq e.wf l k) e2
theorem hash_uq {S : St} {I : List Int} (h : Wf S I) (label : Int) {VL : List Lin} (hV : ∀ x ∈ VL, LinIn S.p 0 S.vars x) : Uq S (gHash S label VL).1 I := by
  have l0 : Lin3 S (hash0 S.p label VL.length) := ⟨LinIn.nil .., LinIn.nil .., cst_in h.v _ h.pos⟩
  have key : ∀ m : Nat, Ext S (gHashN S.p VL m (S, hash0 S.p label VL.length)).1 I ∧ Lin3 (gHashN S.p VL m (S, hash0 S.p label VL.length)).1 (gHashN S.p VL m (S, hash0 S.p label VL.length)).2 ∧ Uq S (gHashN S.p VL m (S, hash0 S.p label VL.length)).1 I := by
    intro m
    induction m with
    | zero => exact ⟨Ext.refl h, l0, Uq.refl S I⟩
    | succ m ih =>
      obtain ⟨e, l, u⟩ := ih
      rw [gHashN_succ]
      generalize gHashN S.p VL m (S, hash0 S.p label VL.length) = G at *
      obtain ⟨la, _⟩ := abs_val e.wf l (fun x hx => e.lin (hV x hx)) (2 * m)
      rw [e.p] at la
      obtain ⟨e2, _, l2, _⟩ := perm8_ext e.wf la
      exact ⟨e.trans e2, l2, u.ext e (perm_uq e.wf la 8) e2⟩
  exact (key (hashM VL.length)).2.2
end Go.Proofs.Ytlgjnidphldiiaa
