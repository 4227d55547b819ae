/- Gadgets: power, permute and Hash on values. -/
import Derived.Test.YtlgjnidphldiiaaQGadHX
import Derived.Test.YtlgjnidphldiiaaQHashX
namespace Go.Proofs.Ytlgjnidphldiiaa
open Go.RowKit

theorem pow_ext {S : St} {I : List Int} (h : Wf S I) {x : Lin} (hx : LinIn S.p 0 S.vars x) :
    Ext S (gPow S x).1 I ∧ (Sat (gPow S x).1 I ↔ Sat S I) ∧ V (gPow S x).1 I (gPow S x).2 = fpow S.p (V S I x) (fexp S.p) ∧ LinIn S.p 0 (gPow S x).1.vars (gPow S x).2 := by
  have hp := vld_pos h.v
  obtain ⟨e1, s1, v1, l1⟩ := mul_ext h hx hx
  have l1' : LinIn (gMul S x x).p 0 (gMul S x x).vars (nv S) := by rw [e1.p]; exact l1
  have hx1 := e1.lin hx
  have w1 := e1.val x hx
  have hf : fpow S.p (V S I x) (fexp S.p) = V S I x ^ (fexp S.p).toNat % S.p := by rw [fpow, if_pos h.v]
  rw [hf]
  have c1 : Cg S.p (V (gMul S x x) I (nv S)) (V S I x * V S I x) := by rw [v1]; exact Cg.mod _ _
  unfold gPow
  rcases fexp_cases h.v with hE | hE | hE
  · rw [if_neg (by rw [hE]; decide), if_neg (by rw [hE]; decide), hE]
    obtain ⟨e2, s2, v2, l2⟩ := mul_ext e1.wf l1' hx1
    refine ⟨e1.trans e2, s2.trans s1, ?_, by rw [← e1.p]; exact l2⟩
    rw [w1, e1.p] at v2
    refine v2.trans ?_
    exact (((c1.mul (Cg.refl _ _))).trans (Cg.of_eq (by rw [show (3 : Int).toNat = 3 from rfl]; grind))).em
  · rw [if_pos hE, hE]
    obtain ⟨e2, s2, v2, l2⟩ := mul_ext e1.wf l1' l1'
    have l2' : LinIn (gMul (gMul S x x) (nv S) (nv S)).p 0 (gMul (gMul S x x) (nv S) (nv S)).vars (nv (gMul S x x)) := by rw [e2.p]; exact l2
    obtain ⟨e3, s3, v3, l3⟩ := mul_ext e2.wf l2' (e2.lin hx1)
    refine ⟨e1.trans (e2.trans e3), s3.trans (s2.trans s1), ?_, by rw [← e1.p, ← e2.p]; exact l3⟩
    rw [e2.val x hx1, w1, e2.p, e1.p] at v3
    rw [e1.p] at v2
    have c2 : Cg S.p (V (gMul (gMul S x x) (nv S) (nv S)) I (nv (gMul S x x))) (V S I x * V S I x * (V S I x * V S I x)) := by rw [v2]; exact (Cg.mod _ _).trans (c1.mul c1)
    refine v3.trans ?_
    exact ((c2.mul (Cg.refl _ _)).trans (Cg.of_eq (by rw [show (5 : Int).toNat = 5 from rfl]; grind))).em
  · rw [if_neg (by rw [hE]; decide), if_pos hE, hE]
    obtain ⟨e2, s2, v2, l2⟩ := mul_ext e1.wf l1' hx1
    have l2' : LinIn (gMul (gMul S x x) (nv S) x).p 0 (gMul (gMul S x x) (nv S) x).vars (nv (gMul S x x)) := by rw [e2.p]; exact l2
    obtain ⟨e3, s3, v3, l3⟩ := mul_ext e2.wf l2' l2'
    have l3' : LinIn (gMul (gMul (gMul S x x) (nv S) x) (nv (gMul S x x)) (nv (gMul S x x))).p 0 (gMul (gMul (gMul S x x) (nv S) x) (nv (gMul S x x)) (nv (gMul S x x))).vars (nv (gMul (gMul S x x) (nv S) x)) := by rw [e3.p]; exact l3
    have e23 := e2.trans e3
    obtain ⟨e4, s4, v4, l4⟩ := mul_ext e3.wf l3' (e23.lin hx1)
    refine ⟨e1.trans (e23.trans e4), s4.trans (s3.trans (s2.trans s1)), ?_, by rw [← e1.p, ← e2.p, ← e3.p]; exact l4⟩
    rw [e23.val x hx1, w1, e3.p, e2.p, e1.p] at v4
    rw [w1, e1.p] at v2
    rw [e2.p, e1.p] at v3
    have c2 : Cg S.p (V (gMul (gMul S x x) (nv S) x) I (nv (gMul S x x))) (V S I x * V S I x * V S I x) := by rw [v2]; exact (Cg.mod _ _).trans (c1.mul (Cg.refl _ _))
    have c3 : Cg S.p (V (gMul (gMul (gMul S x x) (nv S) x) (nv (gMul S x x)) (nv (gMul S x x))) I (nv (gMul (gMul S x x) (nv S) x))) (V S I x * V S I x * V S I x * (V S I x * V S I x * V S I x)) := by rw [v3]; exact (Cg.mod _ _).trans (c2.mul c2)
    refine v4.trans ?_
    exact ((c3.mul (Cg.refl _ _)).trans (Cg.of_eq (by rw [show (7 : Int).toNat = 7 from rfl]; grind))).em

/-- Three combinations in range, and their values. -/
def Lin3 (S : St) (s : L3) : Prop := LinIn S.p 0 S.vars s.a ∧ LinIn S.p 0 S.vars s.b ∧ LinIn S.p 0 S.vars s.c
def V3 (S : St) (I : List Int) (s : L3) : T3 := ⟨V S I s.a, V S I s.b, V S I s.c⟩
theorem cst_in {p hi : Int} (hv : vld p = true) (c : Int) (h : 0 < hi) : LinIn p 0 hi (keepT (0, fred p c)) := by
  have hp := vld_pos hv
  have hb := mod_lt' (show 0 < p by omega) c
  unfold keepT
  split
  · exact LinIn.nil _ _ _
  · rename_i h0
    rw [fred_valid hv] at h0 ⊢
    exact cst_lin ⟨by simp only at h0; omega, hb.2⟩ h
theorem V_cst {S : St} {I : List Int} (hv : vld S.p = true) (c : Int) : V S I (keepT (0, fred S.p c)) = c % S.p := by
  rw [V, lval_lsum hv]
  have := lsum_keep (fin S I) 0 (fred S.p c) []
  rw [List.append_nil] at this
  rw [this, lsum, fin_head, Int.mul_one, Int.add_zero, fred_valid hv]
  exact (Cg.mod _ _).em
theorem kon_val {S : St} {I : List Int} (h : Wf S I) (r i : Int) {x : Lin} (hx : LinIn S.p 0 S.vars x) : LinIn S.p 0 S.vars (gKon S.p r i x) ∧ V S I (gKon S.p r i x) = fadd S.p (V S I x) (fconst S.p r i) := by
  refine ⟨LinIn.add h.v hx (cst_in h.v _ h.pos), ?_⟩
  rw [gKon, V_add h.v, V_cst h.v, fadd_eq h.v]
  exact ((Cg.refl _ _).add (Cg.mod _ _)).em
theorem V_fadd {S : St} {I : List Int} (hv : vld S.p = true) (x y : Lin) : V S I (addL S.p x y) = fadd S.p (V S I x) (V S I y) := by rw [V_add hv, fadd_eq hv]
theorem sub_ext {S : St} {I : List Int} (h : Wf S I) {s : L3} (hs : Lin3 S s) (r : Int) :
    Ext S (gSub r (S, s)).1 I ∧ (Sat (gSub r (S, s)).1 I ↔ Sat S I) ∧ Lin3 (gSub r (S, s)).1 (gSub r (S, s)).2 ∧ V3 (gSub r (S, s)).1 I (gSub r (S, s)).2 = sub3 S.p r (V3 S I s) := by
  obtain ⟨la, va⟩ := kon_val h r 0 hs.1
  obtain ⟨lb, vb⟩ := kon_val h r 1 hs.2.1
  obtain ⟨lc, vc⟩ := kon_val h r 2 hs.2.2
  obtain ⟨e1, s1, v1, l1⟩ := pow_ext h la
  obtain ⟨e2, s2, v2, l2⟩ := pow_ext e1.wf (e1.lin lb)
  have e12 := e1.trans e2
  obtain ⟨e3, s3, v3, l3⟩ := pow_ext e2.wf (e12.lin lc)
  have e23 := e2.trans e3
  rw [va] at v1
  rw [e1.val _ lb, vb, e1.p] at v2
  rw [e12.val _ lc, vc, e12.p] at v3
  have l1' : LinIn (gPow S (gKon S.p r 0 s.a)).1.p 0 (gPow S (gKon S.p r 0 s.a)).1.vars (gPow S (gKon S.p r 0 s.a)).2 := by rw [e1.p]; exact l1
  have l2' : LinIn (gPow (gPow S (gKon S.p r 0 s.a)).1 (gKon S.p r 1 s.b)).1.p 0 (gPow (gPow S (gKon S.p r 0 s.a)).1 (gKon S.p r 1 s.b)).1.vars (gPow (gPow S (gKon S.p r 0 s.a)).1 (gKon S.p r 1 s.b)).2 := by rw [e2.p]; exact l2
  refine ⟨e12.trans e3, s3.trans (s2.trans s1), ⟨e23.lin l1', e3.lin l2', ?_⟩, ?_⟩
  · show LinIn (gPow (gPow (gPow S (gKon S.p r 0 s.a)).1 (gKon S.p r 1 s.b)).1 (gKon S.p r 2 s.c)).1.p 0 _ _
    rw [e3.p]; exact l3
  · show (⟨V _ I (gPow S (gKon S.p r 0 s.a)).2, V _ I (gPow (gPow S (gKon S.p r 0 s.a)).1 (gKon S.p r 1 s.b)).2, V _ I (gPow (gPow (gPow S (gKon S.p r 0 s.a)).1 (gKon S.p r 1 s.b)).1 (gKon S.p r 2 s.c)).2⟩ : T3) = _
    have a1 : V (gSub r (S, s)).1 I (gPow S (gKon S.p r 0 s.a)).2 = _ := (e23.val _ l1').trans v1
    have a2 : V (gSub r (S, s)).1 I (gPow (gPow S (gKon S.p r 0 s.a)).1 (gKon S.p r 1 s.b)).2 = _ := (e3.val _ l2').trans v2
    have a3 : V (gSub r (S, s)).1 I (gPow (gPow (gPow S (gKon S.p r 0 s.a)).1 (gKon S.p r 1 s.b)).1 (gKon S.p r 2 s.c)).2 = _ := v3
    rw [a1, a2, a3]
    rfl
theorem mix_val {S : St} {I : List Int} (h : Wf S I) {s : L3} (hs : Lin3 S s) : Lin3 S (gMix S.p s) ∧ V3 S I (gMix S.p s) = mix S.p (V3 S I s) := by
  obtain ⟨h1, h2, h3⟩ := hs
  have ht : LinIn S.p 0 S.vars (gSum3 S.p s) := LinIn.add h.v (LinIn.add h.v h1 h2) h3
  refine ⟨⟨LinIn.add h.v h1 ht, LinIn.add h.v h2 ht, LinIn.add h.v h3 ht⟩, ?_⟩
  have vt : V S I (gSum3 S.p s) = sum3 S.p (V3 S I s) := by rw [gSum3, V_fadd h.v, V_fadd h.v]; rfl
  show (⟨V S I (addL S.p s.a (gSum3 S.p s)), V S I (addL S.p s.b (gSum3 S.p s)), V S I (addL S.p s.c (gSum3 S.p s))⟩ : T3) = _
  rw [V_fadd h.v, V_fadd h.v, V_fadd h.v, vt]
  rfl
theorem perm_ext {S : St} {I : List Int} (h : Wf S I) {s : L3} (hs : Lin3 S s) : ∀ k : Nat,
    Ext S (gPerm k (S, s)).1 I ∧ (Sat (gPerm k (S, s)).1 I ↔ Sat S I) ∧ Lin3 (gPerm k (S, s)).1 (gPerm k (S, s)).2 ∧ V3 (gPerm k (S, s)).1 I (gPerm k (S, s)).2 = permN S.p k (V3 S I s)
  | 0 => ⟨Ext.refl h, Iff.rfl, hs, rfl⟩
  | k + 1 => by
    obtain ⟨e, t, l, v⟩ := perm_ext h hs k
    obtain ⟨e2, t2, l2, v2⟩ := sub_ext e.wf l k
    obtain ⟨l3, v3⟩ := mix_val e2.wf l2
    rw [e.p, v] at v2
    rw [e2.p, e.p] at v3 l3
    have hp : (gSub k (gPerm k (S, s))).1.p = S.p := by rw [gSub_p, e.p]
    refine ⟨e.trans e2, t2.trans t, ?_, ?_⟩
    · show Lin3 (gSub k (gPerm k (S, s))).1 (gMix (gSub k (gPerm k (S, s))).1.p (gSub k (gPerm k (S, s))).2)
      rw [hp]; exact l3
    · show V3 (gSub k (gPerm k (S, s))).1 I (gMix (gSub k (gPerm k (S, s))).1.p (gSub k (gPerm k (S, s))).2) = _
      rw [hp]
      refine v3.trans ?_
      rw [permN, ← v2]
theorem perm8_ext {S : St} {I : List Int} (h : Wf S I) {s : L3} (hs : Lin3 S s) :
    Ext S (gPerm 8 (S, s)).1 I ∧ (Sat (gPerm 8 (S, s)).1 I ↔ Sat S I) ∧ Lin3 (gPerm 8 (S, s)).1 (gPerm 8 (S, s)).2 ∧ V3 (gPerm 8 (S, s)).1 I (gPerm 8 (S, s)).2 = permute S.p (V3 S I s) := by
  obtain ⟨e, t, l, v⟩ := perm_ext h hs 8
  exact ⟨e, t, l, by rw [v, permute, if_pos h.v]⟩
theorem abs_val {S : St} {I : List Int} (h : Wf S I) {s : L3} (hs : Lin3 S s) {VL : List Lin} (hV : ∀ x ∈ VL, LinIn S.p 0 S.vars x) (i : Nat) :
    Lin3 S (gAbs S.p VL i 2 s) ∧ V3 S I (gAbs S.p VL i 2 s) = ⟨if i < VL.length then fadd S.p (V S I s.a) (V S I (VL.getD i [])) else V S I s.a, if i + 1 < VL.length then fadd S.p (V S I s.b) (V S I (VL.getD (i + 1) [])) else V S I s.b, V S I s.c⟩ := by
  obtain ⟨h1, h2, h3⟩ := hs
  unfold gAbs
  simp only [show (0 < 2) = True by simp, show (1 < 2) = True by simp, true_and]
  refine ⟨⟨?_, ?_, h3⟩, ?_⟩
  · show LinIn S.p 0 S.vars (if i < VL.length then addL S.p s.a (VL.getD i []) else s.a)
    split
    · rename_i hc; exact LinIn.add h.v h1 (hV _ (getD_mem' hc []))
    · exact h1
  · show LinIn S.p 0 S.vars (if i + 1 < VL.length then addL S.p s.b (VL.getD (i + 1) []) else s.b)
    split
    · rename_i hc; exact LinIn.add h.v h2 (hV _ (getD_mem' hc []))
    · exact h2
  · show (⟨V S I (if i < VL.length then addL S.p s.a (VL.getD i []) else s.a), V S I (if i + 1 < VL.length then addL S.p s.b (VL.getD (i + 1) []) else s.b), V S I s.c⟩ : T3) = _
    congr 1
    · split
      · exact V_fadd h.v _ _
      · rfl
    · split
      · exact V_fadd h.v _ _
      · rfl
theorem gHashN_succ (p : Int) (VL : List Lin) (m : Nat) (q : St × L3) : gHashN p VL (m + 1) q = gPerm 8 ((gHashN p VL m q).1, gAbs p VL (2 * m) 2 (gHashN p VL m q).2) := rfl
set_option maxHeartbeats 4000000 in
/-- Hash. -/
theorem hash_ext {S : St} {I : List Int} (h : Wf S I) (label : Int) {VL : List Lin} (hV : ∀ x ∈ VL, LinIn S.p 0 S.vars x) :
    Ext S (gHash S label VL).1 I ∧ (Sat (gHash S label VL).1 I ↔ Sat S I) ∧ V (gHash S label VL).1 I (gHash S label VL).2 = (absorb S.p label (VL.map (V S I))).a ∧ LinIn S.p 0 (gHash S label VL).1.vars (gHash S label VL).2 := by
  have hp := vld_pos h.v
  obtain ⟨xs, hxs⟩ : ∃ xs, xs = VL.map (V S I) := ⟨_, rfl⟩
  have hxl : xs.length = VL.length := by rw [hxs, List.length_map]
  have hxg : ∀ i, i < VL.length → xs.getD i 0 = V S I (VL.getD i []) := fun i hi => by rw [hxs, getD_map' (V S I) VL i [] 0 hi]
  have l0 : Lin3 S (hash0 S.p label VL.length) := ⟨LinIn.nil .., LinIn.nil .., cst_in h.v _ h.pos⟩
  have v0 : V3 S I (hash0 S.p label VL.length) = absI S.p label xs.length := by
    show (⟨V S I [], V S I [], V S I (keepT (0, fred S.p (hashLast S.p label VL.length)))⟩ : T3) = _
    rw [V_cst h.v, hxl]
    have : hashLast S.p label VL.length % S.p = hashLast S.p label VL.length := by
      unfold hashLast
      rw [fadd_eq h.v]
      exact Int.emod_emod_of_dvd _ (Int.dvd_refl _)
    rw [this]
    rfl
  have key : ∀ m : Nat, m ≤ hashM VL.length → Ext S (gHashN S.p VL m (S, hash0 S.p label VL.length)).1 I ∧ (Sat (gHashN S.p VL m (S, hash0 S.p label VL.length)).1 I ↔ Sat S I) ∧ Lin3 (gHashN S.p VL m (S, hash0 S.p label VL.length)).1 (gHashN S.p VL m (S, hash0 S.p label VL.length)).2 ∧ absF S.p xs (2 * m) (V3 (gHashN S.p VL m (S, hash0 S.p label VL.length)).1 I (gHashN S.p VL m (S, hash0 S.p label VL.length)).2) = absorb S.p label xs := by
    intro m
    induction m with
    | zero => exact fun _ => ⟨Ext.refl h, Iff.rfl, l0, by show absF S.p xs 0 (V3 S I (hash0 S.p label VL.length)) = _; rw [v0]; rfl⟩
    | succ m ih =>
      intro hm
      obtain ⟨e, t, l, a⟩ := ih (by omega)
      have hVm : ∀ x ∈ VL, LinIn (gHashN S.p VL m (S, hash0 S.p label VL.length)).1.p 0 (gHashN S.p VL m (S, hash0 S.p label VL.length)).1.vars x := fun x hx => e.lin (hV x hx)
      obtain ⟨la, va⟩ := abs_val e.wf l hVm (2 * m)
      have hpm := e.p
      rw [hpm] at la va
      obtain ⟨e2, t2, l2, v2⟩ := perm8_ext e.wf la
      rw [hpm] at v2
      rw [va] at v2
      rw [gHashN_succ]
      generalize gPerm 8 ((gHashN S.p VL m (S, hash0 S.p label VL.length)).1, gAbs S.p VL (2 * m) 2 (gHashN S.p VL m (S, hash0 S.p label VL.length)).2) = T at *
      generalize hG : gHashN S.p VL m (S, hash0 S.p label VL.length) = G at *
      refine ⟨e.trans e2, t2.trans t, l2, ?_⟩
      rw [v2, show 2 * (m + 1) = 2 * m + 2 by omega, ← a]
      have hval : ∀ i, i < VL.length → V G.1 I (VL.getD i []) = xs.getD i 0 := fun i hi => by rw [hxg i hi]; exact e.val _ (hV _ (getD_mem' hi []))
      by_cases c1 : 2 * m + 1 < VL.length
      · rw [if_pos (show 2 * m < VL.length by omega), if_pos c1, hval _ (by omega), hval _ c1]
        have h2 := absF_two S.p xs (2 * m) (V3 G.1 I G.2) (by omega)
        simp only [V3] at h2 ⊢
        exact h2.symm
      · by_cases c2 : 2 * m < VL.length
        · rw [if_pos c2, if_neg c1, hval _ c2]
          have h2 := absF_one S.p xs (2 * m) (V3 G.1 I G.2) (by omega) (by omega)
          simp only [V3] at h2 ⊢
          exact h2.symm
        · rw [if_neg c2, if_neg c1]
          have hm0 : m = 0 := by rcases hashM_lt (show m < hashM VL.length by omega) with h1 | h1 <;> omega
          subst hm0
          have hx0 : xs = [] := List.eq_nil_of_length_eq_zero (by omega)
          rw [absF_end S.p xs (2 * 0 + 2) _ (by omega) (by omega)]
          have h2 := absF_none S.p xs (V3 G.1 I G.2) hx0
          simp only [V3, Nat.mul_zero] at h2 ⊢
          exact h2.symm
  obtain ⟨e, t, l, a⟩ := key (hashM VL.length) (Nat.le_refl _)
  have hM1 := hashM_pos VL.length
  have hM2 := (hashM_ge (n := VL.length)).1
  rw [absF_end _ _ _ _ (by omega) (by omega)] at a
  have hG : gHash S label VL = ((gHashN S.p VL (hashM VL.length) (S, hash0 S.p label VL.length)).1, (gHashN S.p VL (hashM VL.length) (S, hash0 S.p label VL.length)).2.a) := by unfold gHash; exact Prod.ext (Eq.refl _) (Eq.refl _)
  rw [hG, ← hxs, ← a]
  clear a key hG
  generalize gHashN S.p VL (hashM VL.length) (S, hash0 S.p label VL.length) = G at *
  refine ⟨e, t, rfl, ?_⟩
  have := l.1
  rw [e.p] at this
  exact this
end Go.Proofs.Ytlgjnidphldiiaa
