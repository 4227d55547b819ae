/- Gadgets: power, permute and Hash on values. -/
import Derived.Test.YtalmgeefkcebdaaGreatDoorQ27
import Derived.Test.YtalmgeefkcebdaaGreatDoorQ28
namespace Go.Proofs.YtalmgeefkcebdaaGreatDoor
open Go.RowKit

theorem pow_ext {S : St} {I : List Int} (h : Wf S I) {x : Lin} (hx : LinIn S.p 0 S.vars x) :
    Ext S (gPow S x).1 I ∧ (Sat (gPow S x).1 I ↔ Sat S I) ∧ V (gPow S x).1 I (gPow S x).2 = fpow S.p (V S I x) (fexp S.p) ∧ LinIn S.p 0 (gPow S x).1.vars (gPow S x).2 := by
  have hp := vld_pos h.v
  obtain ⟨e1, s1, v1, l1⟩ := mul_ext h hx hx
  have l1' : LinIn (gMul S x x).p 0 (gMul S x x).vars (nv S) := by rw [e1.p]; exact l1
  have hx1 := e1.lin hx
  have w1 := e1.val x hx
  have hf : fpow S.p (V S I x) (fexp S.p) = V S I x ^ (fexp S.p).toNat % S.p := by rw [fpow, if_pos h.v]
  rw [hf]
  have c1 : Cg S.p (V (gMul S x x) I (nv S)) (V S I x * V S I x) := by rw [v1]; exact Cg.mod _ _
  unfold gPow
  rcases fexp_cases h.v with hE | hE | hE
  · rw [if_neg (by rw [hE]; decide), if_neg (by rw [hE]; decide), hE]
    obtain ⟨e2, s2, v2, l2⟩ := mul_ext e1.wf l1' hx1
    refine ⟨e1.trans e2, s2.trans s1, ?_, by rw [← e1.p]; exact l2⟩
    rw [w1, e1.p] at v2
    refine v2.trans ?_
    exact (((c1.mul (Cg.refl _ _))).trans (Cg.of_eq (by rw [show (3 : Int).toNat = 3 from rfl]; grind))).em
  · rw [if_pos hE, hE]
    obtain ⟨e2, s2, v2, l2⟩ := mul_ext e1.wf l1' l1'
    have l2' : LinIn (gMul (gMul S x x) (nv S) (nv S)).p 0 (gMul (gMul S x x) (nv S) (nv S)).vars (nv (gMul S x x)) := by rw [e2.p]; exact l2
    obtain ⟨e3, s3, v3, l3⟩ := mul_ext e2.wf l2' (e2.lin hx1)
    refine ⟨e1.trans (e2.trans e3), s3.trans (s2.trans s1), ?_, by rw [← e1.p, ← e2.p]; exact l3⟩
    rw [e2.val x hx1, w1, e2.p, e1.p] at v3
    rw [e1.p] at v2
    have c2 : Cg S.p (V (gMul (gMul S x x) (nv S) (nv S)) I (nv (gMul S x x))) (V S I x * V S I x * (V S I x * V S I x)) := by rw [v2]; exact (Cg.mod _ _).trans (c1.mul c1)
    refine v3.trans ?_
    exact ((c2.mul (Cg.refl _ _)).trans (Cg.of_eq (by rw [show (5 : Int).toNat = 5 from rfl]; grind))).em
  · rw [if_neg (by rw [hE]; decide), if_pos hE, hE]
    obtain ⟨e2, s2, v2, l2⟩ := mul_ext e1.wf l1' hx1
    have l2' : LinIn (gMul (gMul S x x) (nv S) x).p 0 (gMul (gMul S x x) (nv S) x).vars (nv (gMul S x x)) := by rw [e2.p]; exact l2
    obtain ⟨e3, s3, v3, l3⟩ := mul_ext e2.wf l2' l2'
    have l3' : LinIn (gMul (gMul (gMul S x x) (nv S) x) (nv (gMul S x x)) (nv (gMul S x x))).p 0 (gMul (gMul (gMul S x x) (nv S) x) (nv (gMul S x x)) (nv (gMul S x x))).vars (nv (gMul (gMul S x x) (nv S) x)) := by rw [e3.p]; exact l3
    have e23 := e2.trans e3
    obtain ⟨e4, s4, v4, l4⟩ := mul_ext e3.wf l3' (e23.lin hx1)
    refine ⟨e1.trans (e23.trans e4), s4.trans (s3.trans (s2.trans s1)), ?_, by rw [← e1.p, ← e2.p, ← e3.p]; exact l4⟩
    rw [e23.val x hx1, w1, e3.p, e2.p, e1.p] at v4
    rw [w1, e1.p] at v2
    rw [e2.p, e1.p] at v3
    have c2 : Cg S.p (V (gMul (gMul S x x) (nv S) x) I (nv (gMul S x x))) (V S I x * V S I x * V S I x) := by rw [v2]; exact (Cg.mod _ _).trans (c1.mul (Cg.refl _ _))
    have c3 : Cg S.p (V (gMul (gMul (gMul S x x) (nv S) x) (nv (gMul S x x)) (nv (gMul S x x))) I (nv (gMul (gMul S x x) (nv S) x))) (V S I x * V S I x * V S I x * (V S I x * V S I x * V S I x)) := by rw [v3]; exact (Cg.mod _ _).trans (c2.mul c2)
    refine v4.trans ?_
    exact ((c3.mul (Cg.refl _ _)).trans (Cg.of_eq (by rw [show (7 : Int).toNat = 7 from rfl]; grind))).em

/-- Three combinations in range, and their values. -/
def Lin3 (S : St) (s : L3) : Prop := LinIn S.p 0 S.vars s.a ∧ LinIn S.p 0 S.vars s.b ∧ LinIn S.p 0 S.vars s.c
def V3 (S : St) (I : List Int) (s : L3) : T3 := ⟨V S I s.a, V S I s.b, V S I s.c⟩
theorem cst_in {p hi : Int} (hv : vld p = true) (c : Int) (h : 0 < hi) : LinIn p 0 hi (keepT (0, fred p c)) := by
  have hp := vld_pos hv
  have hb := mod_lt' (show 0 < p by omega) c
  unfold keepT
  split
  · exact LinIn.nil _ _ _
  · rename_i h0
    rw [fred_valid hv] at h0 ⊢
    exact cst_lin ⟨by simp only at h0; omega, hb.2⟩ h
theorem V_cst {S : St} {I : List Int} (hv : vld S.p = true) (c : Int) : V S I (keepT (0, fred S.p c)) = c % S.p := by
  rw [V, lval_lsum hv]
  have := lsum_keep (fin S I) 0 (fred S.p c) []
  rw [List.append_nil] at this
  rw [this, lsum, fin_head, Int.mul_one, Int.add_zero, fred_valid hv]
  exact (Cg.mod _ _).em
theorem kon_val {S : St} {I : List Int} (h : Wf S I) (r i : Int) {x : Lin} (hx : LinIn S.p 0 S.vars x) : LinIn S.p 0 S.vars (gKon S.p r i x) ∧ V S I (gKon S.p r i x) = fadd S.p (V S I x) (fconst S.p r i) := by
  refine ⟨LinIn.add h.v hx (cst_in h.v _ h.pos), ?_⟩
  rw [gKon, V_add h.v, V_cst h.v, fadd_eq h.v]
  exact ((Cg.refl _ _).add (Cg.mod _ _)).em
theorem V_fadd {S : St} {I : List Int} (hv : vld S.p = true) (x y : Lin) : V S I (addL S.p x y) = fadd S.p (V S I x) (V S I y) := by rw [V_add hv, fadd_eq hv]
theorem sub_ext {S : St} {I : List Int} (h : Wf S I) {s : L3} (hs : Lin3 S s) (r : Int) :
    Ext S (gSub r (S, s)).1 I ∧ (Sat (gSub r (S, s)).1 I ↔ Sat S I) ∧ Lin3 (gSub r (S, s)).1 (gSub r (S, s)).2 ∧ V3 (gSub r (S, s)).1 I (gSub r (S, s)).2 = sub3 S.p r (V3 S I s) := by
  obtain ⟨la, va⟩ := kon_val h r 0 hs.1
  obtain ⟨lb, vb⟩ := kon_val h r 1 hs.2.1
  obtain ⟨lc, vc⟩ := kon_val h r 2 hs.2.2
  obtain ⟨e1, s1, v1, l1⟩ := pow_ext h la
  obtain ⟨e2, s2, v2, l2⟩ := pow_ext e1.wf (e1.lin lb)
  have e12 := e1.trans e2
  obtain ⟨e3, s3, v3, l3⟩ := pow_ext e2.wf (e12.lin lc)
  have e23 := e2.trans e3
  rw [va] at v1
  rw [e1.val _ lb, vb, e1.p] at v2
  rw [e12.val _ lc, vc, e12.p] at v3
  have l1' : LinIn (gPow S (gKon S.p r 0 s.a)).1.p 0 (gPow S (gKon S.p r 0 s.a)).1.vars (gPow S (gKon S.p r 0 s.a)).2 := by rw [e1.p]; exact l1
  have l2' : LinIn (gPow (gPow S (gKon S.p r 0 s.a)).1 (gKon S.p r 1 s.b)).1.p 0 (gPow (gPow S (gKon S.p r 0 s.a)).1 (gKon S.p r 1 s.b)).1.vars (gPow (gPow S (gKon S.p r 0 s.a)).1 (gKon S.p r 1 s.b)).2 := by rw [e2.p]; exact l2
  refine ⟨e12.trans e3, s3.trans (s2.trans s1), ⟨e23.lin l1', e3.lin l2', ?_⟩, ?_⟩
  · show LinIn (gPow (gPow (gPow S (gKon S.p r 0 s.a)).1 (gKon S.p r 1 s.b)).1 (gKon S.p r 2 s.c)).1.p 0 _ _
    rw [e3.p]; exact l3
  · show (⟨V _ I (gPow S (gKon S.p r 0 s.a)).2, V _ I (gPow (gPow S (gKon S.p r 0 s.a)).1 (gKon S.p r 1 s.b)).2, V _ I (gPow (gPow (gPow S (gKon S.p r 0 s.a)).1 (gKon S.p r 1 s.b)).1 (gKon S.p r 2 s.c)).2⟩ : T3) = _
    have a1 : V (gSub r (S, s)).1 I (gPow S (gKon S.p r 0 s.a)).2 = _ := (e23.val _ l1').trans v1
    have a2 : V (gSub r (S, s)).1 I (gPow (gPow S (gKon S.p r 0 s.a)).1 (gKon S.p r 1 s.b)).2 = _ := (e3.val _ l2').trans v2
    have a3 : V (gSub r (S, s)).1 I (gPow (gPow (gPow S (gKon S.p r 0 s.a)).1 (gKon S.p r 1 s.b)).1 (gKon S.p r 2 s.c)).2 = _ := v3
    rw [a1, a2, a3]
    rfl
theorem mix_val {S : St} {I : List Int} (h : Wf S I) {s : L3} (hs : Lin3 S s) : Lin3 S (gMix S.p s) ∧ V3 S I (gMix S.p s) = mix S.p (V3 S I s) := by
  obtain ⟨h1, h2, h3⟩ := hs
  have ht : LinIn S.p 0 S.vars (gSum3 S.p s) := LinIn.add h.v (LinIn.add h.v h1 h2) h3
  refine ⟨⟨LinIn.add h.v h1 ht, LinIn.add h.v h2 ht, LinIn.add h.v h3 ht⟩, ?_⟩
  have vt : V S I (gSum3 S.p s) = sum3 S.p (V3 S I s) := by rw [gSum3, V_fadd h.v, V_fadd h.v]; rfl
  show (⟨V S I (addL S.p s.a (gSum3 S.p s)), V S I (addL S.p s.b (gSum3 S.p s)), V S I (addL S.p s.c (gSum3 S.p s))⟩ : T3) = _
  rw [V_fadd h.v, V_fadd h.v, V_fadd h.v, vt]
  rfl
theorem perm_ext {S : St} {I : List Int} (h : Wf S I) {s : L3} (hs : Lin3 S s) : ∀ k : Nat,
    Ext S (gPerm k (S, s)).1 I ∧ (Sat (gPerm k (S, s)).1 I ↔ Sat S I) ∧ Lin3 (gPerm k (S, s)).1 (gPerm k (S, s)).2 ∧ V3 (gPerm k (S, s)).1 I (gPerm k (S, s)).2 = permN S.p k (V3 S I s)
  | 0 => ⟨Ext.refl h, Iff.rfl, hs, rfl⟩
  | k + 1 => by
    obtain ⟨e, t, l, v⟩ := perm_ext h hs k
    obtain ⟨e2, t2, l2, v2⟩ := sub_ext e.wf l k
    obtain ⟨l3, v3⟩ := mix_val e2.wf l2
    rw [e.p, v] at v2
    rw [e2.p, e.p] at v3 l3
    have hp : (gSub k (gPerm k (S, s))).1.p = S.p := by rw [gSub_p, e.p]
    refine ⟨e.trans e2, t2.trans t, ?_, ?_⟩
    · show Lin3 (gSub k (gPerm k (S, s))).1 (gMix (gSub k (gPerm k (S, s))).1.p (gSub k (gPerm k (S, s))).2)
      rw [hp]; exact l3
    · show V3 (gSub k (gPerm k (S, s))).1 I (gMix (gSub k (gPerm k (S, s))).1.p (gSub k (gPerm k (S, s))).2) = _
      rw [hp]
      refine v3.trans ?_
      rw [permN, ← v2]
theorem perm8_ext {S : St} {I : List Int} (h : Wf S I) {s : L3} (hs : Lin3 S s) :
    Ext S (gPerm 8 (S, s)).1 I ∧ (Sat (gPerm 8 (S, s)).1 I ↔ Sat S I) ∧ Lin3 (gPerm 8 (S, s)).1 (gPerm 8 (S, s)).2 ∧ V3 (gPerm 8 (S, s)).1 I (gPerm 8 (S, s)).2 = permute S.p (V3 S I s) := by
  obtain ⟨e, t, l, v⟩ := perm_ext h hs 8
  exact ⟨e, t, l, by rw [v, permute, if_pos h.v]⟩
theorem abs_val {S : St} {I : List Int} (h : Wf S I) {s : L3} (hs : Lin3 S s) {VL : List Lin} (hV : ∀ x ∈ VL, LinIn S.p 0 S.vars x) (i : Nat) :
    Lin3 S (gAbs S.p VL i 2 s) ∧ V3 S I (gAbs S.p VL i 2 s) = ⟨if i < VL.length then fadd S.p (V S I s.a) (V S I (VL.getD i [])) else V S I s.a, if i + 1 < VL.length then fadd S.p (V S I s.b) (V S I (VL.getD (i + 1) [])) else V S I s.b, V S I s.c⟩ := by
  obtain ⟨h1, h2, h3⟩ := hs
  unfold gAbs
  simp only [show (0 < 2) = True by simp, show (1 < 2) = True by simp, true_and]
  refine ⟨⟨?_, ?_, h3⟩, ?_⟩
  · show LinIn S.p 0 S.vars (if i < VL.length then addL S.p s.a (VL.getD i []) else s.a)
    split
    · rename_i hc; exact LinIn.add h.v h1 (hV _ (getD_mem' hc []))
    · exact h1
  · show LinIn S.p 0 S.vars (if i + 1 < VL.length then addL S.p s.b (VL.getD (i + 1) []) else s.b)
    split
    · rename_i hc; exact LinIn.add h.v h2 (hV _ (getD_mem' hc []))
    · exact h2
  · show (⟨V S I (if i < VL.length then addL S.p s.a (VL.getD i []) else s.a), V S I (if i + 1 < VL.length then addL S.p s.b (VL.getD (i + 1) []) else s.b), V S I s.c⟩ : T3) = _
    congr 1
    · split
      · exact V_fadd h.v _ _
      · rfl
    · split
      · exact V_fadd h.v _ _
      · rfl
theorem gHashN_succ (p : Int) (VL : List Lin) (m : Nat) (q : St × L3) : gHashN p VL (m + 1) q = gPerm 8 ((gHashN p VL m q).1, gAbs p VL (2 * m) 2 (gHashN p VL m q).2) := rfl
set_option maxHeartbeats 4000000 in
/-- Hash. -/
theorem hash_ext {S : St} {I : List Int} (h : Wf S I) (label : Int) {VL : List Lin} (hV : ∀ x ∈ VL, LinIn S.p 0 S.vars x) :
    Ext S (gHash S label VL).1 I ∧ (Sat (gHash S label VL).1 I ↔ Sat S I) ∧ V (gHash S label VL).1 I (gHash S label VL).2 = (absorb S.p label (VL.map (V S I))).a ∧ LinIn S.p 0 (gHash S label VL).1.vars (gHash S label VL).2 := by
  have hp := vld_pos h.v
  obtain ⟨xs, hxs⟩ : ∃ xs, xs = VL.map (V S I) := ⟨_, rfl⟩
  have hxl : xs.length = VL.length := by rw [hxs, List.length_map]
  have hxg : ∀ i, i < VL.length → xs.getD i 0 = V S I (VL.getD i []) := fun i hi => by rw [hxs, getD_map' (V S I) VL i [] 0 hi]
  have l0 : Lin3 S (hash0 S.p label VL.length) := ⟨LinIn.nil .., LinIn.nil .., cst_in h.v _ h.pos⟩
  have v0 : V3 S I (hash0 S.p label VL.length) = absI S.p label xs.length := by
    show (⟨V S I [], V S I [], V S I (keepT (0, fred S.p (hashLast S.p label VL.length)))⟩ : T3) = _
    rw [V_cst h.v, hxl]
    have : hashLast S.p label VL.length % S.p = hashLast S.p label VL.length := by
      unfold hashLast
      rw [fadd_eq h.v]
      exact Int.emod_emod_of_dvd _ (Int.dvd_refl _)
    rw [this]
    rfl
  have key : ∀ m : Nat, m ≤ hashM VL.length → Ext S (gHashN S.p VL m (S, hash0 S.p label VL.length)).1 I ∧ (Sat (gHashN S.p VL m (S, hash0 S.p label VL.length)).1 I ↔ Sat S I) ∧ Lin3 (gHashN S.p VL m (S, hash0 S.p label VL.length)).1 (gHashN S.p VL m (S, hash0 S.p label VL.length)).2 ∧ absF S.p xs (2 * m) (V3 (gHashN S.p VL m (S, hash0 S.p label VL.length)).1 I (gHashN S.p VL m (S, hash0 S.p label VL.length)).2) = absorb S.p label xs := by
    intro m
    induction m with
    | zero => exact fun _ => ⟨Ext.refl h, Iff.rfl, l0, by show absF S.p xs 0 (V3 S I (hash0 S.p label VL.length)) = _; rw [v0]; rfl⟩
    | succ m ih =>
      intro hm
      obtain ⟨e, t, l, a⟩ := ih (by omega)
      have hVm : ∀ x ∈ VL, LinIn (gHashN S.p VL m (S, hash0 S.p label VL.length)).1.p 0 (gHashN S.p VL m (S, hash0 S.p label VL.length)).1.vars x := fun x hx => e.lin (hV x hx)
      obtain ⟨la, va⟩ := abs_val e.wf l hVm (2 * m)
      have hpm := e.p
      rw [hpm] at la va
      obtain ⟨e2, t2, l2, v2⟩ := perm8_ext e.wf la
      rw [hpm] at v2
      rw [va] at v2
      rw [gHashN_succ]
      generalize gPerm 8 ((gHashN S.p VL m (S, hash0 S.p label VL.length)).1, gAbs S.p VL (2 * m) 2 (gHashN S.p VL m (S, hash0 S.p label VL.length)).2) = T at *
      generalize hG : gHashN S.p VL m (S, hash0 S.p label VL.length) = G at *
      refine ⟨e.trans e2, t2.trans t, l2, ?_⟩
      rw [v2, show 2 * (m + 1) = 2 * m + 2 by omega, ← a]
      have hval : ∀ i, i < VL.length → V G.1 I (VL.getD i []) = xs.getD i 0 := fun i hi => by rw [hxg i hi]; exact e.val _ (hV _ (getD_mem' hi []))
      by_cases c1 : 2 * m + 1 < VL.length
      · rw [if_pos (show 2 * m < VL.length by omega), if_pos c1, hval _ (by omega), hval _ c1]
        have h2 := absF_two S.p xs (2 * m) (V3 G.1 I G.2) (by omega)
        simp only [V3] at h2 ⊢
        exact h2.symm
      · by_cases c2 : 2 * m < VL.length
        · rw [if_pos c2, if_neg c1, hval _ c2]
          have h2 := absF_one S.p xs (2 * m) (V3 G.1 I G.2) (by omega) (by omega)
          simp only [V3] at h2 ⊢
          exact h2.symm
        · rw [if_neg c2, if_neg c1]
          have hm0 : m = 0 := by rcases hashM_lt (show m < hashM VL.length by omega) with h1 | h1 <;> omega
          subst hm0
          have hx0 : xs = [] := List.eq_nil_of_length_eq_zero (by omega)
          rw [absF_end S.p xs (2 * 0 + 2) _ (by omega) (by omega)]
          have h2 := absF_none S.p xs (V3 G.1 I G.2) hx0
          simp only [V3, Nat.mul_zero] at h2 ⊢
          exact h2.symm
  obtain ⟨e, t, l, a⟩ := key (hashM VL.length) (Nat.le_refl _)
  have hM1 := hashM_pos VL.length
  have hM2 := (hashM_ge (n := VL.length)).1
  rw [absF_end _ _ _ _ (by omega) (by omega)] at a
  have hG : gHash S label VL = ((gHashN S.p VL (hashM VL.length) (S, hash0 S.p label VL.length)).1, (gHashN S.p VL (hashM VL.length) (S, hash0 S.p label VL.length)).2.a) := by unfold gHash; exact Prod.ext (Eq.refl _) (Eq.refl _)
  rw [hG, ← hxs, ← a]
  clear a key hG
  generalize gHashN S.p VL (hashM VL.length) (S, hash0 S.p label VL.length) = G at *
  refine ⟨e, t, rfl, ?_⟩
  have := l.1
  rw [e.p] at this
  exact this

def XCp (T : TypeId) : Prop := T = 97 ∨ T = 134 ∨ T = 115 ∨ T = 75
/-- w' is w behind calls that change a compiler and its builder alone. -/
structure KM (base : Nat) (w w' : World) : Prop where
  kx : KX XCp base w w'
  mp : ∀ (b : Nat) (es : Array MapEntry) (clock : Nat), w.heap[b]? = some (.map es clock) → w'.heap[b]? = some (.map es clock)
theorem KM.trans {base : Nat} {w w' w2 : World} (h : KM base w w') (k : KM base w' w2) : KM base w w2 := ⟨h.kx.trans k.kx, fun b es c g => k.mp b es c (h.mp b es c g)⟩
theorem KM.of_below {base : Nat} {w w' : World} (h : Below w.heap.size w w') (hb : base ≤ w.heap.size) : KM base w w' := ⟨KX.of_below h hb, fun _ _ _ g => map_below g h⟩
theorem KM.of_kept {base : Nat} {w w' : World} (h : Kept base w w') : KM base w w' := ⟨⟨h.below, fun b cs T g hX => h.typ b cs T g (fun e => hX (.inl e)) (fun e => hX (.inr (.inl e))) (fun e => hX (.inr (.inr (.inl e))))⟩, h.mp⟩
theorem KM.below {base : Nat} {w w' : World} (h : KM base w w') : Below base w w' := h.kx.below
theorem KM.set {w : World} {base q j : Nat} {cs : Array Value} {u : Value} (g : Blk w q cs 75) (hb : base ≤ q) : KM base w (w.setCell ⟨q, j, none⟩ u) := ⟨KX.set g (.inr (.inr (.inr rfl))) hb, fun _ _ _ h => map_setCell h (map_ne h g) _⟩
/-- A cell of a block that was not there at first. -/
theorem KM.setN {base b j : Nat} {w W : World} {u : Value} (k : KM base w W) (hb : w.heap.size ≤ b) (h0 : base ≤ w.heap.size) : KM base w (W.setCell ⟨b, j, none⟩ u) :=
  ⟨k.kx.setN hb h0, fun c es t h => map_setCell (k.mp c es t h) (fun e => by have := (Array.getElem?_eq_some_iff.1 h).1; omega) _⟩
theorem KM.lin {base : Nat} {w w' : World} {s : Lc} (k : KM base w w') (h : LinT w s) : LinT w' s := k.kx.lin (by unfold XCp; decide) h
theorem Mp.km {base b : Nat} {w w' : World} {L : List (ByteArray × Value)} (h : Mp w b L) (k : KM base w w') : Mp w' b L := by
  obtain ⟨es, c, h1, h2⟩ := h
  exact ⟨es, c, k.mp _ _ _ h1, h2⟩
/-- A compiler over the builder S. -/
structure CP (base : Nat) (w : World) (q b : Nat) (p : Int) (f : Nat) (rows : Int) (S : St) : Prop where
  blk : Blk w q #[.int .u64 p, .pointer (some ⟨b, 0, none⟩), .map (some f), .int .i64 rows, .bool false] 75
  bld : Bld w base b S
  lo : base ≤ q
section
variable {base q b f : Nat} {w w' : World} {p rows : Int} {S S' : St}
theorem CP.mono (h : CP base w q b p f rows S) (hb : Below w.heap.size w w') : CP base w' q b p f rows S := ⟨h.blk.mono hb, h.bld.mono hb, h.lo⟩
theorem CP.kept (h : CP base w q b p f rows S) (k : Kept base w w') (hB : Bld w' base b S') : CP base w' q b p f rows S' := ⟨k.typ _ _ _ h.blk (by decide) (by decide) (by decide), hB, h.lo⟩
theorem CP.lt (h : CP base w q b p f rows S) : base ≤ w.heap.size := h.bld.lt
theorem CP.setR (h : CP base w q b p f rows S) (r : Int) : CP base (w.setCell ⟨q, 3, none⟩ (.int .i64 r)) q b p f r S :=
  ⟨h.blk.set 3 (.int .i64 r), h.bld.other h.blk (by decide) (by decide) (by decide) 3 _ (fun s hs _ => hs.setType h.blk (by decide)), h.lo⟩
/-- A cell of a block of another type. -/
theorem CP.setT {g j : Nat} {cs : Array Value} {E : TypeId} {u : Value} (h : CP base w q b p f rows S) (gb : Blk w g cs E) (h1 : E ≠ 97) (h2 : E ≠ 134) (h3 : E ≠ 115) (h4 : E ≠ 75) (h5 : E ≠ 131) : CP base (w.setCell ⟨g, j, none⟩ u) q b p f rows S :=
  ⟨h.blk.other (fun e => by subst e; exact h4 (blk_type gb h.blk)) _ _, h.bld.other gb h1 h2 h3 j u (fun s hs _ => hs.setType gb h5), h.lo⟩
theorem CP.setM {m : Nat} (h : CP base w q b p f rows S) (hp : PutM w w' m) (hl : ∀ s, LinT w s → LinT w' s) : CP base w' q b p f rows S := by
  obtain ⟨vr, R, vh, H, g⟩ := h.bld
  exact ⟨hp.blk h.blk, ⟨vr, R, vh, H, hp.blk g.blk, g.lo, hp.own g.rows, hp.own g.hints, fun r hr => ⟨hl _ (g.rok r hr).1, hl _ (g.rok r hr).2.1, hl _ (g.rok r hr).2.2⟩, fun r hr => ⟨hl _ (g.hok r hr).1, hl _ (g.hok r hr).2.1, (g.hok r hr).2.2⟩, g.rv, g.hv, g.rav, g.hav⟩, h.lo⟩
end
theorem PutM.lin {w w' : World} {m : Nat} {s : Lc} (hp : PutM w w' m) (h : LinT w s) : LinT w' s := (hp.kx (X := fun _ => False) (base := 0) (Nat.zero_le _)).lin (fun h => h) h
/-- A value: one combination, and a type. -/
def IsVal (w : World) (v : Value) (s : Lc) : Prop := ∃ (bx c : Nat) (cs : Array Value) (k0 k1 k2 k3 : Int), v = .agg #[.slice (some ⟨bx, 0, none⟩) 1 c, .int .i64 k0, .int .i64 k1, .int .i64 k2, .int .i64 k3] ∧ Blk w bx cs 95 ∧ cs[0]? = some (lcV s) ∧ LinT w s
theorem IsVal.mono {w w' : World} {v : Value} {s : Lc} (h : IsVal w v s) (hb : Below w.heap.size w w') : IsVal w' v s := by
  obtain ⟨bx, c, cs, k0, k1, k2, k3, h1, h2, h3, h4⟩ := h
  exact ⟨bx, c, cs, k0, k1, k2, k3, h1, h2.mono hb, h3, h4.mono hb⟩
theorem IsVal.km {base : Nat} {w w' : World} {v : Value} {s : Lc} (h : IsVal w v s) (k : KM base w w') : IsVal w' v s := by
  obtain ⟨bx, c, cs, k0, k1, k2, k3, h1, h2, h3, h4⟩ := h
  exact ⟨bx, c, cs, k0, k1, k2, k3, h1, k.kx.typ _ _ _ h2 (by unfold XCp; decide), h3, k.lin h4⟩
theorem IsVal.setT {w : World} {v : Value} {s : Lc} {g j : Nat} {cs : Array Value} {E : TypeId} {u : Value} (h : IsVal w v s) (gb : Blk w g cs E) (h1 : E ≠ 95) (h2 : E ≠ 131) : IsVal (w.setCell ⟨g, j, none⟩ u) v s := by
  obtain ⟨bx, c, cs, k0, k1, k2, k3, e1, e2, e3, e4⟩ := h
  exact ⟨bx, c, cs, k0, k1, k2, k3, e1, e2.other (fun e => by subst e; exact h1 (blk_type gb e2)) _ _, e3, e4.setType gb h2⟩
theorem IsVal.put {w w' : World} {v : Value} {s : Lc} {m : Nat} (h : IsVal w v s) (hp : PutM w w' m) : IsVal w' v s := by
  obtain ⟨bx, c, cs, k0, k1, k2, k3, h1, h2, h3, h4⟩ := h
  exact ⟨bx, c, cs, k0, k1, k2, k3, h1, hp.blk h2, h3, hp.lin h4⟩

set_option maxRecDepth 10000 in
set_option maxHeartbeats 4000000 in
theorem room_any {base q b f : Nat} {w : World} {p rows : Int} {S : St} (n : Int) (h : CP base w q b p f rows S) (h0 : 0 ≤ rows) (hn : 0 ≤ n) (hs : rows + n ≤ 16384) :
    Calls Tryz.prog 46 #[.pointer (some ⟨q, 0, none⟩), .int .i64 n] w fun e w' => e = .returned (.bool true) ∧ CP base w' q b p f (rows + n) S ∧ KM base w w' := by
  have k3 := h.blk.cell (j := 3) (v := .int .i64 rows) rfl; have k4 := h.blk.cell (j := 4) (v := .bool false) rfl
  have kf := h.blk.free
  have hC := h.setR (rows + n)
  have hK : KM base w (w.setCell ⟨q, 3, none⟩ (.int .i64 (rows + n))) := KM.set h.blk h.lo
  have hw1 : IntKind.i64.wrap (16384 - rows) = 16384 - rows := by rw [IntKind.wrap_i64]; omega
  have hw2 : IntKind.i64.wrap (rows + n) = rows + n := by rw [IntKind.wrap_i64]; omega
  have hgt : decide (n > 16384 - rows) = false := decide_eq_false (by omega)
  have hgt' : ¬ 16384 - rows < n := by omega
  clear h
  go_enter Tryz.func46, Tryz.ntmps46
  go_wp2
  go_ret
  exact ⟨rfl, hC, hK⟩
set_option maxHeartbeats 4000000 in
theorem ccheck_any (q : Nat) (x : Value) (w : World) : Calls Tryz.prog 45 #[.pointer (some ⟨q, 0, none⟩), x, .agg #[.int .i64 1, .int .i64 0, .int .i64 0]] w fun e w' => e = .returned (.tuple #[]) ∧ Below w.heap.size w w' := by
  go_enter Tryz.func45, Tryz.ntmps45
  go_wp2
  exact bodyPost_end (v := .tuple #[]) (by simp [results, Tryz.results45, go_sem]) rfl ⟨rfl, (Below.refl _ _).alloc (Nat.le_refl _) _⟩
set_option maxHeartbeats 4000000 in
theorem cscalar_any (q : Nat) (k : Int) (s : Lc) (w : World) (hs : LinT w s) : Calls Tryz.prog 88 #[.pointer (some ⟨q, 0, none⟩), lcV s, .agg #[.int .i64 k, .int .i64 0, .int .i64 0]] w fun e w' => ∃ bx, e = .returned (.agg #[.slice (some ⟨bx, 0, none⟩) 1 1, .int .i64 k, .int .i64 0, .int .i64 0, .int .i64 0]) ∧ Blk w' bx #[lcV s] 95 ∧ LinT w' s ∧ Below w.heap.size w w' := by
  obtain ⟨W7, hW7⟩ : ∃ W7, W7 = ((w.alloc (.cells #[.int .i64 k, .int .i64 0, .int .i64 0] 32)).alloc (.cells #[.slice (some ⟨w.heap.size + 1 + 1, 0, none⟩) 1 1, .int .i64 k, .int .i64 0, .int .i64 0, .int .i64 0] 119)).alloc (.cells #[lcV s] 95) := ⟨_, rfl⟩
  have hB : Below w.heap.size w W7 := by rw [hW7]; exact (((Below.refl _ _).alloc (Nat.le_refl _) _).alloc (by simp) _).alloc (by simp; omega) _
  have gV : Blk W7 (w.heap.size + 1) #[.slice (some ⟨w.heap.size + 1 + 1, 0, none⟩) 1 1, .int .i64 k, .int .i64 0, .int .i64 0, .int .i64 0] 119 := by rw [hW7]; exact (Blk.newAt (by simp)).alloc _
  have gL : Blk W7 (w.heap.size + 1 + 1) #[lcV s] 95 := by rw [hW7]; exact Blk.newAt (by simp)
  have z0 := gV.cell (j := 0) (v := .slice (some ⟨w.heap.size + 1 + 1, 0, none⟩) 1 1) rfl; have z1 := gV.cell (j := 1) (v := .int .i64 k) rfl; have z2 := gV.cell (j := 2) (v := .int .i64 0) rfl; have z3 := gV.cell (j := 3) (v := .int .i64 0) rfl; have z4 := gV.cell (j := 4) (v := .int .i64 0) rfl
  unfold lcV at *
  go_enter Tryz.func88, Tryz.ntmps88
  go_wp2
  rw [← hW7]
  exact bodyPost_ret (v := .agg #[.slice (some ⟨w.heap.size + 1 + 1, 0, none⟩) 1 1, .int .i64 k, .int .i64 0, .int .i64 0, .int .i64 0]) (by simp [results, Tryz.results88, go_sem, z0, z1, z2, z3, z4]) rfl ⟨w.heap.size + 1 + 1, rfl, gL, hs.mono hB, hB⟩
theorem mkLc2 (W : World) : (Instr.makeSlice 117 (.int .i64 2) (.int .i64 2)).run Tryz.prog W = .ok (.slice (some ⟨W.heap.size, 0, none⟩) 2 2) (W.alloc (.cells #[.slice none 0 0, .slice none 0 0] 95)) := by
  have h := run_mkG lcL (P := Tryz.prog) (t := 117) (e := 95) Tryz.underlying117 Tryz.infoLc (by decide) (N := 2) (C := 2) 2 2 rfl rfl (Nat.le_refl _) (by omega) W
  rw [show madeCells (Value.slice none 0 0).cells (2 * lcL.m) = #[.slice none 0 0, .slice none 0 0] from by kernel_rfl] at h
  exact h
set_option maxRecDepth 10000 in
set_option maxHeartbeats 8000000 in
theorem elements2_any (w : World) (A bx cx bY cY : Nat) (k0 k1 k2 k3 j0 j1 j2 j3 : Int) (csx csy : Array Value) (sx sY : Lc)
    (gA : Blk w A #[.slice (some ⟨bx, 0, none⟩) 1 cx, .int .i64 k0, .int .i64 k1, .int .i64 k2, .int .i64 k3, .slice (some ⟨bY, 0, none⟩) 1 cY, .int .i64 j0, .int .i64 j1, .int .i64 j2, .int .i64 j3] 119)
    (gx : Blk w bx csx 95) (hx : csx[0]? = some (lcV sx)) (gY : Blk w bY csy 95) (hY : csy[0]? = some (lcV sY)) :
    Calls Tryz.prog 93 #[.slice (some ⟨A, 0, none⟩) 2 2] w fun e w' => ∃ bl, e = .returned (.slice (some ⟨bl, 0, none⟩) 2 2) ∧ Blk w' bl #[lcV sx, lcV sY] 95 ∧ w.heap.size ≤ bl ∧ Below w.heap.size w w' := by
  have m2 := mkLc2
  unfold lcV at *
  go_enter Tryz.func93, Tryz.ntmps93
  go_wp2_with fail
  refine name_world fun W hN => ?_
  have hb0 : Below w.heap.size w W := by rw [hN]; exact (Below.refl _ _).alloc (Nat.le_refl _) _
  have gL0 : Blk W w.heap.size #[.slice none 0 0, .slice none 0 0] 95 := by rw [hN]; exact Blk.newAt rfl
  clear hN m2
  have gAlt := gA.lt
  have gxlt := gx.lt
  have gylt := gY.lt
  replace gA := gA.mono hb0
  replace gx := gx.mono hb0
  replace gY := gY.mono hb0
  go_loopw [11] (fun t11 wr => ∃ i : Nat, i ≤ 2 ∧ t11 = .int .i64 i ∧ Blk wr w.heap.size #[if 0 < i then .slice sx.ad sx.l.length sx.cap else .slice none 0 0, if 1 < i then .slice sY.ad sY.l.length sY.cap else .slice none 0 0] 95 ∧ (Below w.heap.size w wr ∧ Blk wr A #[.slice (some ⟨bx, 0, none⟩) 1 cx, .int .i64 k0, .int .i64 k1, .int .i64 k2, .int .i64 k3, .slice (some ⟨bY, 0, none⟩) 1 cY, .int .i64 j0, .int .i64 j1, .int .i64 j2, .int .i64 j3] 119 ∧ Blk wr bx csx 95 ∧ Blk wr bY csy 95)) (fun t11 _ => 2 - (intOf t11).toNat)
  case atStart => exact ⟨0, by omega, rfl, gL0, hb0, gA, gx, gY⟩
  case round =>
    clear gA gx gY gL0 hb0
    obtain ⟨i, hi, rfl, gL, hB, gA', gx, gY⟩ := hrel
    rcases (show i = 0 ∨ i = 1 ∨ i = 2 by omega) with rfl | rfl | rfl
    · have v0 := gA'.cell (j := 0) (v := .slice (some ⟨bx, 0, none⟩) 1 cx) rfl; have v1 := gA'.cell (j := 1) (v := .int .i64 k0) rfl; have v2 := gA'.cell (j := 2) (v := .int .i64 k1) rfl; have v3 := gA'.cell (j := 3) (v := .int .i64 k2) rfl; have v4 := gA'.cell (j := 4) (v := .int .i64 k3) rfl
      have u0 := gx.cell (v := .slice sx.ad sx.l.length sx.cap) hx
      have u0lt := gx.lt
      have hbA : Below wr.heap.size wr (wr.alloc (.cells #[.slice (some ⟨bx, 0, none⟩) 1 cx, .int .i64 k0, .int .i64 k1, .int .i64 k2, .int .i64 k3] 119)) := (Below.refl _ _).alloc (Nat.le_refl _) _
      have gL2 := gL.mono hbA
      have t0 := gL2.cell (j := 0) (v := .slice none 0 0) rfl
      have tf := gL2.free
      have hB2 := below2 hB hbA
      have gL7 := gL2.set 0 (.slice sx.ad sx.l.length sx.cap)
      have hB7 := hB2.setCell (show w.heap.size ≤ (⟨w.heap.size, 0, none⟩ : Addr).block from Nat.le_refl _) (.slice sx.ad sx.l.length sx.cap)
      clear gL gL2 hbA hB hB2
      go_wp2
      go_roundw
      case rel => exact ⟨1, by omega, rfl, gL7, hB7, ((gA'.alloc _).other (by omega) _ _), ((gx.alloc _).other (by omega) _ _), ((gY.alloc _).other (by omega) _ _)⟩
      case measure => simp [intOf]
    · have v0 := gA'.cell (j := 5) (v := .slice (some ⟨bY, 0, none⟩) 1 cY) rfl; have v1 := gA'.cell (j := 6) (v := .int .i64 j0) rfl; have v2 := gA'.cell (j := 7) (v := .int .i64 j1) rfl; have v3 := gA'.cell (j := 8) (v := .int .i64 j2) rfl; have v4 := gA'.cell (j := 9) (v := .int .i64 j3) rfl
      have u0 := gY.cell (v := .slice sY.ad sY.l.length sY.cap) hY
      have u0lt := gY.lt
      have hbA : Below wr.heap.size wr (wr.alloc (.cells #[.slice (some ⟨bY, 0, none⟩) 1 cY, .int .i64 j0, .int .i64 j1, .int .i64 j2, .int .i64 j3] 119)) := (Below.refl _ _).alloc (Nat.le_refl _) _
      have gL2 := gL.mono hbA
      have t0 := gL2.cell (j := 1) (v := .slice none 0 0) rfl
      have tf := gL2.free
      have hB2 := below2 hB hbA
      have gL7 := gL2.set 1 (.slice sY.ad sY.l.length sY.cap)
      have hB7 := hB2.setCell (show w.heap.size ≤ (⟨w.heap.size, 1, none⟩ : Addr).block from Nat.le_refl _) (.slice sY.ad sY.l.length sY.cap)
      clear gL gL2 hbA hB hB2
      go_wp2
      go_roundw
      case rel => exact ⟨2, by omega, rfl, gL7, hB7, ((gA'.alloc _).other (by omega) _ _), ((gx.alloc _).other (by omega) _ _), ((gY.alloc _).other (by omega) _ _)⟩
      case measure => simp [intOf]
    · go_wp2
      go_ret
      exact ⟨w.heap.size, rfl, gL, Nat.le_refl _, hB⟩
/-- A part of the compiler returns a combination. -/
def RetCB (base : Nat) (w : World) (q b : Nat) (p : Int) (f : Nat) (rows : Int) (S : St) (L : Lin) (e : Ending) (w' : World) : Prop := ∃ s : Lc, e = .returned (.slice s.ad s.l.length s.cap) ∧ Hid (s.l = L) ∧ LinT w' s ∧ CP base w' q b p f rows S ∧ KM base w w'
set_option maxHeartbeats 4000000 in
theorem cmul_any {base q b f : Nat} {w : World} {p rows : Int} {S : St} (n : Int) (x y : Lc) (h : CP base w q b p f rows S) (h0 : 0 ≤ rows) (hs : rows + 1 ≤ 16384) (hv : vld S.p = true) (hS : Bd S n) (hn : n ≤ 1000000) (hx : LinT w x) (hy : LinT w y) (lx : x.l.length ≤ 20000) (ly : y.l.length ≤ 20000) :
    Calls Tryz.prog 157 #[.pointer (some ⟨q, 0, none⟩), lcV x, lcV y] w (RetCB base w q b p f (rows + 1) (gMul S x.l y.l) (nv S)) := by
  have cR := room_any 1 h h0 (by omega) hs
  have cM := fun W hB hx hy => Mul20_any base b S n x y W hB hv hS (by omega) hx hy (by omega) (by omega)
  unfold lcV
  go_enter Tryz.func157, Tryz.ntmps157
  go_wp2_with fail
  refine cR.mono ?_
  rintro e w1 ⟨rfl, C1, k1⟩
  have c1 := C1.blk.cell (j := 1) (v := .pointer (some ⟨b, 0, none⟩)) rfl
  clear cR
  go_wp2_with fail
  refine (cM w1 C1.bld (k1.lin hx) (k1.lin hy)).mono ?_
  rintro e w2 ⟨s, rfl, es, hs2, hB2, k2⟩
  have C2 := C1.kept k2 hB2
  have kF := k1.trans (KM.of_kept k2)
  clear c1 C1
  go_wp2
  go_ret
  exact ⟨s, rfl, es, hs2, C2, kF⟩
end Go.Proofs.YtalmgeefkcebdaaGreatDoor

