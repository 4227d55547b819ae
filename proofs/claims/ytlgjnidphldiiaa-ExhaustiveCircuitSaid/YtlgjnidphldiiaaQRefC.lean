/- Gadgets: the reference's power, Bits, Less and raise. -/
import Derived.Test.YtlgjnidphldiiaaQRefB
namespace Go.Proofs.Ytlgjnidphldiiaa
open Go.RowKit

/-- Combinations in range with the same values everywhere are equal. -/
def unit (v : Nat) : List Int := List.replicate v 0 ++ [1]
theorem gv_unit (v : Nat) (u : Int) : gv (unit v) u = if u = (v : Int) then 1 else 0 := by
  unfold gv unit
  by_cases h : u = (v : Int)
  · subst h
    rw [if_pos ⟨by omega, by simp; omega⟩, if_pos rfl]
    simp
  · rw [if_neg h]
    split
    · rename_i hu
      have h2 : u.toNat < v := by simp at hu; omega
      rw [List.getD_eq_getElem?_getD, List.getElem?_append_left (by simpa using h2), List.getElem?_replicate, if_pos h2]
      rfl
    · rfl
theorem lsum_far {v : Nat} : ∀ {x : Lin} {lo : Int}, Asc lo x → (v : Int) < lo → lsum (unit v) x = 0
  | [], _, _, _ => rfl
  | t :: x, lo, h, hv => by
    have h1 := h.1
    rw [lsum, lsum_far h.2 (by omega), gv_unit, if_neg (by omega)]
    omega
theorem lin_ext {p : Int} : ∀ {x y : Lin} {lo : Int}, 0 ≤ lo → CoefOk p x → CoefOk p y → Asc lo x → Asc lo y → (∀ v : Nat, Cg p (lsum (unit v) x) (lsum (unit v) y)) → x = y
  | [], [], _, _, _, _, _, _, _ => rfl
  | [], u :: y, lo, h0, _, hy, _, ay, h => by
    exfalso
    have hc := hy u (List.mem_cons_self ..)
    have h1 := ay.1
    have := h u.1.toNat
    rw [lsum, lsum, gv_unit, if_pos (by omega), lsum_far ay.2 (by omega)] at this
    have := this.eq ⟨Int.le_refl 0, by omega⟩ ⟨by omega, by omega⟩
    omega
  | t :: x, [], lo, h0, hx, _, ax, _, h => by
    exfalso
    have hc := hx t (List.mem_cons_self ..)
    have h1 := ax.1
    have := h t.1.toNat
    rw [lsum, lsum, gv_unit, if_pos (by omega), lsum_far ax.2 (by omega)] at this
    have := this.eq ⟨by omega, by omega⟩ ⟨Int.le_refl 0, by omega⟩
    omega
  | t :: x, u :: y, lo, h0, hx, hy, ax, ay, h => by
    have ht := hx t (List.mem_cons_self ..)
    have hu := hy u (List.mem_cons_self ..)
    have h1 := ax.1
    have h2 := ay.1
    rcases Int.lt_trichotomy t.1 u.1 with hc | hc | hc
    · exfalso
      have := h t.1.toNat
      rw [lsum, gv_unit, if_pos (by omega), lsum_far ax.2 (by omega), lsum_far (lo := u.1) (x := u :: y) ⟨Int.le_refl _, ay.2⟩ (by omega)] at this
      have := this.eq ⟨by omega, by omega⟩ ⟨Int.le_refl 0, by omega⟩
      omega
    · have h3 := h t.1.toNat
      rw [lsum, lsum, gv_unit, gv_unit, if_pos (by omega), if_pos (by omega), lsum_far ax.2 (by omega), lsum_far ay.2 (by omega)] at h3
      have h4 := h3.eq ⟨by omega, by omega⟩ ⟨by omega, by omega⟩
      have e : t = u := Prod.ext hc (by omega)
      subst e
      rw [lin_ext (lo := t.1 + 1) (by omega) hx.tail hy.tail ax.2 ay.2 fun v => ?_]
      have := h v
      rw [lsum, lsum] at this
      exact (Cg.of_eq (by omega)).trans ((this.sub (Cg.refl p (t.2 * gv (unit v) t.1))).trans (Cg.of_eq (by omega)))
    · exfalso
      have := h u.1.toNat
      rw [lsum_far (lo := t.1) (x := t :: x) ⟨Int.le_refl _, ax.2⟩ (by omega), lsum, gv_unit, if_pos (by omega), lsum_far ay.2 (by omega)] at this
      have := this.eq ⟨Int.le_refl 0, by omega⟩ ⟨by omega, by omega⟩
      omega
theorem lin_assoc {p hi : Int} (hv : vld p = true) {a x y : Lin} (ha : LinIn p 0 hi a) (hx : LinIn p 0 hi x) (hy : LinIn p 0 hi y) : subL p (addL p a x) y = addL p a (subL p x y) := by
  have h1 : LinIn p 0 hi (subL p (addL p a x) y) := LinIn.add hv (LinIn.add hv ha hx) hy
  have h2 : LinIn p 0 hi (addL p a (subL p x y)) := LinIn.add hv ha (LinIn.add hv hx hy)
  refine lin_ext (Int.le_refl 0) h1.1 h2.1 h1.2.1 h2.2.1 fun v => ?_
  have e : ∀ (x y : Lin) (n : Int), Cg p (lsum (unit v) (addP p x y n)) (lsum (unit v) x + n * lsum (unit v) y) := fun x y n => by
    rw [addP, if_pos hv]; exact lsum_comb hv n _ x y
  have e1 := (e (addL p a x) y (fneg p 1)).trans ((e a x 1).add (Cg.refl p _))
  have e2 := (e a (subL p x y) 1).trans ((Cg.refl p _).add ((Cg.refl p 1).mul (e x y (fneg p 1))))
  refine e1.trans (Cg.trans (Cg.of_eq ?_) e2.symm)
  grind

theorem comb_snoc {p : Int} (hv : vld p = true) {t : Int × Int} (ht : 0 < t.2 ∧ t.2 < p) : ∀ x : Lin, CoefOk p x → (∀ u ∈ x, u.1 < t.1) → comb p 1 x [t] = x ++ [t]
  | [], _, _ => by
    rw [comb, comb, fmul_one hv ht, keepT_of ht.1]
    rfl
  | u :: x, hx, h => by
    rw [comb, if_pos (h u (List.mem_cons_self ..)), comb_snoc hv ht x hx.tail fun w hw => h w (List.mem_cons_of_mem _ hw), keepT_of hx.head.1]
    rfl
theorem fpow_two (p : Int) (k : Nat) : fpow p 2 k = fred p (2 ^ k) := by
  unfold fpow fred
  rw [Int.toNat_natCast]
theorem bit_scale {p v : Int} (hv : vld p = true) (k : Nat) (h2 : (2 : Int) ^ k < p) : addP p [] [(v, 1)] (fred p (2 ^ k)) = [(v, fred p (2 ^ k))] := by
  have h0 := two_pos k
  have e : fred p (2 ^ k) = 2 ^ k := by rw [fred_valid hv, Int.emod_eq_of_lt (Int.le_of_lt h0) h2]
  rw [addP, if_pos hv, comb, comb, e, fmul_eq hv, Int.mul_one, Int.emod_eq_of_lt (Int.le_of_lt h0) h2, keepT_of h0]
  rfl
theorem bit_sum {S : St} (hv : vld S.p = true) (h0 : 0 ≤ S.vars) (k : Nat) (h2 : ∀ i : Nat, i < k + 1 → (2 : Int) ^ i < S.p) : addL S.p (bitsSum S k) [bitT S k] = bitsSum S (k + 1) := by
  have hl := bitsSum_lin hv h0 k fun i hi => h2 i (by omega)
  have e : fred S.p (2 ^ k) = 2 ^ k := by rw [fred_valid hv, Int.emod_eq_of_lt (Int.le_of_lt (two_pos k)) (h2 k (by omega))]
  rw [bitsSum_succ, addL, addP, if_pos hv]
  refine comb_snoc hv ⟨?_, ?_⟩ _ hl.1 fun u hu => (bitsSum_vars S k u hu).2
  · show 0 < fred S.p (2 ^ k); rw [e]; exact two_pos k
  · show fred S.p (2 ^ k) < _; rw [e]; exact h2 k (by omega)

/-- Calls that append to a slice that was not there at first. -/
theorem KX.growNew {α : Type} {X : TypeId → Prop} {L : Lay α} {base : Nat} {w wr w' : World} {T : TypeId} {v v' : Value} {xs : List α} (k : KX X base w wr) (ho : OwnG L wr w.heap.size T v xs) (hg : Grew wr w' v v') (hb : base ≤ w.heap.size) : KX X base w w' :=
  ⟨hg.belowG k.below ho hb (Nat.le_trans hb k.below.size), fun b cs T' g h => hg.blk (k.typ b cs T' g h) (by
    rcases ho.form with ⟨rfl, _⟩ | ⟨q, cap, cur, rfl, hq, _⟩
    · intro e; cases e
    · intro e
      have := g.lt
      simp only [Value.ownBlock, Option.some.injEq] at e
      omega)⟩
theorem BlR.kx {X : TypeId → Prop} {w w' : World} {base b b0 : Nat} {S : St} (k : KX X b0 w w') (h1 : ¬ X 106) (h2 : ¬ X 108) (h3 : ¬ X 40) (h4 : ¬ X 100) (h : BlR w base b S) : BlR w' base b S := by
  obtain ⟨vr, R, vh, H, h⟩ := h
  exact ⟨vr, R, vh, H, k.typ _ _ _ h.blk h3, h.lo, k.own h1 h.rows, k.own h2 h.hints, fun r hr => ⟨k.lin h4 (h.rok r hr).1, k.lin h4 (h.rok r hr).2.1, k.lin h4 (h.rok r hr).2.2⟩, fun r hr => ⟨k.lin h4 (h.hok r hr).1, k.lin h4 (h.hok r hr).2.1, (h.hok r hr).2.2⟩, h.rv, h.hv⟩
theorem rbPower_any (base b : Nat) (S : St) (k : Nat) (w : World) (h : BlR w base b S) (hk : k ≤ 62) :
    Calls Try.prog 121 #[.pointer (some ⟨b, 0, none⟩), .int .i64 k] w fun e w' => e = .returned (.int .u64 (fred S.p (2 ^ k))) ∧ Below w.heap.size w w' := by
  have cP := fun W => rPow_any S.p 2 k W (by decide) (by decide) (by omega) (by omega)
  rw [fpow_two] at cP
  go_enter Try.func121, Try.ntmps121
  go_wp2_with fail
  refine h.p_any.mono ?_
  rintro e w1 ⟨rfl, hb1⟩
  go_wp2_with fail
  refine (cP w1).mono ?_
  rintro e w2 ⟨rfl, hb2⟩
  go_wp2
  go_ret
  exact ⟨rfl, below2 hb1 hb2⟩
def RetBitsR (w : World) (base b : Nat) (S : St) (x : Lin) (n : Nat) (e : Ending) (w' : World) : Prop := ∃ v Ls, e = .returned v ∧ OwnG lcL w' w.heap.size 44 v Ls ∧ Hid (Ls.map Lc.l = bitsL S n) ∧ (∀ s ∈ Ls, LinT w' s) ∧ BlR w' base b (gBits S x n) ∧ KX XR base w w'
/-- The loop of Bits. -/
structure BI (w wr : World) (base b : Nat) (S : St) (x : Lin) (t7 : Value) (sm : Lc) (i : Nat) : Prop where
  es : Hid (sm.l = bitsSum S i)
  lin : LinT wr sm
  own : ∃ Ls, OwnG lcL wr w.heap.size 44 t7 Ls ∧ Hid (Ls.map Lc.l = bitsL S i) ∧ (∀ s ∈ Ls, LinT wr s)
  bld : BlR wr base b (bitsS S x i)
  kx : KX XR base w wr
set_option maxRecDepth 10000 in
set_option maxHeartbeats 8000000 in
theorem rbBits_any (base b : Nat) (S : St) (N : Int) (x : Lc) (n : Nat) (w : World) (h : BlR w base b S) (hv : vld S.p = true) (hS : Bd S N) (hN : N ≤ 700000000) (hx : LinT w x) (lx : x.l.length ≤ 1000000) (cx : CoefOk S.p x.l) (hn : n ≤ 60) (h2 : ∀ i : Nat, i < n → (2 : Int) ^ i < S.p) :
    Calls Try.prog 89 #[.pointer (some ⟨b, 0, none⟩), .slice x.ad x.l.length x.cap, .int .i64 n] w (RetBitsR w base b S x.l n) := by
  have hb0 := h.lt
  have hV0 := hS.v.1
  have hbS := fun k => bitsS_bd hS x.l k
  have hBp := fun k => bitsS_p S x.l k
  have hBv := fun k => bitsS_vars S x.l k
  have hp := vld_pos hv
  have hBl : ∀ k, k < n → addL S.p (bitsSum S k) [bitT S k] = bitsSum S (k + 1) := fun k hk => bit_sum hv hV0 k fun i hi => h2 i (by omega)
  replace hbS := hide hbS
  replace hBp := hide hBp
  replace hBv := hide hBv
  replace hBl := hide hBl
  replace h2 := hide h2
  clear hS
  go_enter Try.func89, Try.ntmps89
  go_wp2_with fail
  go_loopw [7, 8, 9] (fun t7 t8 t9 wr => ∃ i : Nat, i ≤ n ∧ t9 = .int .i64 i ∧ ∃ sm : Lc, t8 = .slice sm.ad sm.l.length sm.cap ∧ BI w wr base b S x.l t7 sm i) (fun _ _ t9 _ => n - (intOf t9).toNat)
  case atStart => exact ⟨0, Nat.zero_le _, rfl, ⟨none, 0, []⟩, rfl, ⟨hide rfl, LinT.nil _, ⟨[], OwnG.nil _ _ _ _, hide rfl, fun s hs => by cases hs⟩, h, KX.refl _ _ _⟩⟩
  case round =>
    clear h
    obtain ⟨i, hi, rfl, sm, rfl, D⟩ := hrel
    by_cases hlt : i < n
    · have hlt' : (i : Int) < n := by omega
      have lsm : sm.l.length ≤ 60 := by rw [D.es.out, bitsSum_len]; omega
      have hbd := hbS.out i
      have hSp := hBp.out i
      have cF := rbFresh_any base b (bitsS S x.l i) _ 3 x ⟨none, 0, []⟩ i wr D.bld hbd (by omega) (D.kx.lin xrT hx) (LinT.nil _) (by decide) (wfI ⟨by omega, by omega⟩)
      have hb1 := hbd.hint (k := 3) (x := x.l) (y := []) (bit := i)
      replace hSp := hide hSp
      clear hbd
      go_wp2_with fail
      refine cF.mono ?_
      rintro e w1 ⟨v, rfl, ev, hv1, hB1, k1⟩
      have lv : v.l.length ≤ 1 := by rw [ev.out]; exact Nat.le_refl _
      clear cF
      go_wp2_with fail
      refine (rbBoolean_any base b _ _ v w1 hB1 hb1 (by omega) hv1).mono ?_
      rintro e w2 ⟨rfl, hB2, k2⟩
      rw [ev.out] at hB2
      have k12 := k1.trans k2
      have hv2 := k2.lin xrT hv1
      have hsm2 := k12.lin xrT D.lin
      have kx2 := D.kx.trans k12
      obtain ⟨Ls, ow, eLs, hls⟩ := D.own
      have ow2 := k12.own xrL ow
      have hls2 : ∀ s ∈ Ls, LinT w2 s := fun s hs => k12.lin xrT (hls s hs)
      have hLl : Ls.length = i := by
        have := congrArg List.length eLs.out
        rw [List.length_map, bitsL_len] at this
        exact this
      have hLl2 : Ls.length ≤ 60 := by omega
      replace hLl := hide hLl
      have hbz := kx2.below.size
      have hz2 : w.heap.size ≤ w2.heap.size := hbz
      have hsmE := D.es
      clear D ow hls k1 k2 k12 hB1 hv1 hb1
      go_wp2_with (at_builtin; refine wpList_appG _ lcL Ls [v] rfl _ _ 55 rfl w.heap.size 44 (.slice none 0 0) 24 Try.underlying55 Try.infoLc rfl (by decide) _ 1 1 (some ⟨w2.heap.size, 0, none⟩) rfl rfl rfl (ow2.alloc _) (SlG.one (Blk.new _ _ _) rfl) (by simp; omega) (by simp; omega) ?_; intro v' w' own' hg'; refine Hold.mk ?_)
      refine Hold.go ?_
      have hbA : Below w2.heap.size w2 (w2.alloc (.cells #[.slice v.ad v.l.length v.cap] 44)) := (Below.refl _ _).alloc (Nat.le_refl _) _
      have kA : KX (fun T => T = 44) w.heap.size w2 w' := (KX.of_below hbA hz2).trans (KX.grew (ow2.alloc _) hg' rfl (by simp; omega))
      have kx3 := KX.growNew (kx2.trans (KX.of_below hbA (Nat.le_trans hb0 hz2))) (ow2.alloc _) hg' hb0
      have hB3 := hB2.kx kA (by decide) (by decide) (by decide) (by decide)
      have hv3 := kA.lin (by decide) hv2
      have hsm3 := kA.lin (by decide) hsm2
      have hls3 : ∀ s ∈ Ls ++ [v], LinT w' s := fun s hs => by
        rcases List.mem_append.1 hs with h1 | h1
        · exact kA.lin (by decide) (hls2 s h1)
        · rw [List.mem_singleton] at h1; subst h1; exact hv3
      have hm3 : Hid ((Ls ++ [v]).map Lc.l = bitsL S (i + 1)) := hide (by
        rw [List.map_append, eLs.out]
        unfold bitsL
        rw [List.range_succ, List.map_append]
        show _ ++ [v.l] = _
        rw [ev.out, nv, hBv.out]
        rfl)
      have hev : Hid (v.l = [(S.vars + (i : Int), 1)]) := hide (by rw [ev.out, nv, hBv.out])
      have hS3 : Hid ((gBool (gHint (bitsS S x.l i) 3 x.l [] i) (nv (bitsS S x.l i))) = bitsS S x.l (i + 1)) := hide rfl
      have hB4 : BlR w' base b (bitsS S x.l (i + 1)) := by rw [← hS3.out]; exact hB3
      clear hB3 hB2 hls2 hv2 hsm2 ow2 kx2 hg' kA hbA eLs hLl hLl2 hS3
      have hpE := hBp.out (i + 1)
      have hp1 := hB4.p_any
      rw [hpE] at hp1
      replace hpE := hide hpE
      go_wp2_with fail
      refine hp1.mono ?_
      rintro e w4 ⟨rfl, hb4⟩
      have hp2 := (hB4.mono hb4).p_any
      rw [hpE.out] at hp2
      go_wp2_with fail
      refine hp2.mono ?_
      rintro e w5 ⟨rfl, hb5⟩
      have hb45 := below2 hb4 hb5
      have hpw := rbPower_any base b (bitsS S x.l (i + 1)) i w5 (hB4.mono hb45) (by omega)
      rw [hpE.out] at hpw
      go_wp2_with fail
      refine hpw.mono ?_
      rintro e w6 ⟨rfl, hb6⟩
      have hb46 := below2 hb45 hb6
      have cS := rScale_any S.p (fred S.p (2 ^ i)) v w6 (hv3.mono hb46).ok (fun _ => by omega) (fred_bd _ _)
      have eS : (if vld S.p then rscale S.p v.l (fred S.p (2 ^ i)) else []) = [bitT S i] := by
        rw [← (lin_same (x := v.l) (y := []) (n := fred S.p (2 ^ i)) (fun _ => by rw [hev.out]; exact coef_nv hv ⟨0, 0, S.vars + i, [], 0, []⟩) (fun _ => CoefOk.nil _)).2.2, hev.out]
        exact bit_scale hv i (h2.out i hlt)
      rw [eS] at cS
      clear eS
      clear hp1 hp2 hpw
      go_wp2_with fail
      refine cS.mono ?_
      rintro e w7 ⟨t, rfl, et, ht, hb7⟩
      have lt : t.l.length ≤ 1 := by rw [et.out]; exact Nat.le_refl _
      have hb47 := below2 hb46 hb7
      have hcs := bitsSum_lin hv hV0 i fun k hk => h2.out k (by omega)
      have hct := bitsSum_lin hv hV0 (i + 1) fun k hk => h2.out k (by omega)
      have cA := rAddS_any S.p sm t w7 (hsm3.mono hb47).ok ht.ok (by omega) (by rw [hsmE.out]; exact hcs.1) (by rw [et.out]; exact fun u hu => hct.1 u (by rw [bitsSum_succ]; exact List.mem_append_right _ hu))
      have eA : addL S.p sm.l t.l = bitsSum S (i + 1) := by rw [hsmE.out, et.out]; exact hBl.out i hlt
      rw [eA] at cA
      clear eA
      clear cS hcs hct
      go_wp2_with fail
      refine cA.mono ?_
      rintro e w8 ⟨s2, rfl, es2, hs2, hb8⟩
      have hb48 := below2 hb47 hb8
      have hw4 := kx3.below.size
      have DD : BI w w8 base b S x.l v' s2 (i + 1) := ⟨es2, hs2, ⟨Ls ++ [v], own'.mono hb48, hm3, fun s hs => (hls3 s hs).mono hb48⟩, hB4.mono hb48, kx3.trans (KX.of_below hb48 (Nat.le_trans hb0 hw4))⟩
      clear cA own' hm3 hls3 hB4 kx3 hv3 hsm3 hev hpE es2 hs2 ht et hsmE ev hb4 hb5 hb6 hb7 hb8 hb45 hb46 hb47 hb48
      go_wp2
      go_roundw
      case rel => exact ⟨i + 1, by omega, by go_num, s2, rfl, DD⟩
      case measure => simp [intOf]; omega
    · obtain rfl : i = n := by omega
      have lsm : sm.l.length ≤ 60 := by rw [D.es.out, bitsSum_len]; omega
      have hcs := bitsSum_lin hv hV0 i fun k hk => h2.out k (by omega)
      have hpE := hBp.out i
      have cA := rbAssert_any base b (bitsS S x.l i) _ sm x wr D.bld (hbS.out i) (by omega) D.lin (D.kx.lin xrT hx) (by omega) lx (by rw [hpE, D.es.out]; exact hcs.1) (by rw [hpE]; exact cx)
      have eA : gAssert (bitsS S x.l i) sm.l x.l = gBits S x.l i := by rw [D.es.out]; rfl
      rw [eA] at cA
      replace hpE := hide hpE
      clear eA
      clear hcs
      go_wp2_with fail
      refine cA.mono ?_
      rintro e w1 ⟨rfl, hB1, k1⟩
      obtain ⟨Ls, ow, eLs, hls⟩ := D.own
      go_wp2
      go_ret
      exact ⟨_, Ls, rfl, k1.own xrL ow, eLs, fun s hs => k1.lin xrT (hls s hs), hB1, D.kx.trans k1⟩

theorem less_eq {S : St} {x y : Lin} (hv : vld S.p = true) (n : Nat) (h0 : 0 < S.vars) (hx : LinIn S.p 0 S.vars x) (hy : LinIn S.p 0 S.vars y) : addL S.p (keepT (0, fred S.p (2 ^ n))) (subL S.p x y) = lessX S.p n x y :=
  (lin_assoc hv (cst_in hv _ h0) hx hy).symm
set_option maxRecDepth 10000 in
set_option maxHeartbeats 4000000 in
theorem rbLess_any (base b : Nat) (S : St) (N : Int) (x y : Lc) (n : Nat) (w : World) (h : BlR w base b S) (hv : vld S.p = true) (hS : Bd S N) (hN : N ≤ 600000000) (hx : LinT w x) (hy : LinT w y) (lx : x.l.length ≤ 100000) (ly : y.l.length ≤ 100000) (ix : LinIn S.p 0 S.vars x.l) (iy : LinIn S.p 0 S.vars y.l) (h0 : 0 < S.vars) (hn : n ≤ 50) (h2 : ∀ i : Nat, i < n + 1 → (2 : Int) ^ i < S.p) :
    Calls Try.prog 95 #[.pointer (some ⟨b, 0, none⟩), .slice x.ad x.l.length x.cap, .slice y.ad y.l.length y.cap, .int .i64 n] w (RetBR w base b (gLess S x.l y.l n).1 (gLess S x.l y.l n).2) := by
  have hb0 := h.lt
  have hpb := vld_pos hv
  have la := addP_len S.p x.l y.l (fneg S.p 1)
  go_enter Try.func95, Try.ntmps95
  go_wp2_with fail
  refine h.p_any.mono ?_
  rintro e w1 ⟨rfl, hb1⟩
  go_wp2_with fail
  refine (rbPower_any base b S n w1 (h.mono hb1) (by omega)).mono ?_
  rintro e w2 ⟨rfl, hb2⟩
  have hb12 := below2 hb1 hb2
  go_wp2_with fail
  refine (rTerm_any 0 (fred S.p (2 ^ n)) w2 (by decide) (wfU (fred_bd _ _))).mono ?_
  rintro e w3 ⟨o, rfl, eo, ho, hb3⟩
  have hb13 := below2 hb12 hb3
  have lo : o.l.length ≤ 1 := by rw [eo.out]; exact keepT_len _
  go_wp2_with fail
  refine (h.mono hb13).p_any.mono ?_
  rintro e w4 ⟨rfl, hb4⟩
  have hb14 := below2 hb13 hb4
  go_wp2_with fail
  refine (rSubS_any S.p x y w4 (hx.mono hb14).ok (hy.mono hb14).ok (by omega) ix.1 iy.1).mono ?_
  rintro e w5 ⟨d, rfl, ed, hd, hb5⟩
  have hb15 := below2 hb14 hb5
  have ld : d.l.length ≤ 200000 := by rw [ed.out]; unfold subL; omega
  have lid : LinIn S.p 0 S.vars d.l := by rw [ed.out]; exact LinIn.add hv ix iy
  have lio : LinIn S.p 0 S.vars o.l := by rw [eo.out]; exact cst_in hv _ h0
  have cA := rAddS_any S.p o d w5 ((ho.mono hb4).mono hb5).ok hd.ok (by omega) lio.1 lid.1
  have eA : addL S.p o.l d.l = lessX S.p n x.l y.l := by rw [eo.out, ed.out]; exact less_eq hv n h0 ix iy
  have liA : LinIn S.p 0 S.vars (lessX S.p n x.l y.l) := by rw [← eA]; exact LinIn.add hv lio lid
  have laA := addP_len S.p o.l d.l 1
  rw [eA] at cA
  replace eA := hide eA
  go_wp2_with fail
  refine cA.mono ?_
  rintro e w6 ⟨u, rfl, eu, hu, hb6⟩
  have hb16 := below2 hb15 hb6
  have lu : u.l.length ≤ 300000 := by
    rw [eu.out, ← eA.out]
    unfold addL
    omega
  have cB := rbBits_any base b S N u (n + 1) w6 (h.mono hb16) hv hS (by omega) hu (by omega) (by rw [eu.out]; exact liA.1) (by omega) h2
  have eB : gBits S u.l (n + 1) = (gLess S x.l y.l n).1 := by rw [eu.out]; rfl
  rw [show ((n + 1 : Nat) : Int) = (n : Int) + 1 by omega] at cB
  replace eB := hide eB
  clear cA eA laA liA lid lio
  go_wp2_with fail
  refine cB.mono ?_
  rintro e w7 ⟨vB, Ls, rfl, ow, eL, hls, hB7, k7⟩
  rw [eB.out] at hB7
  have hLl : Ls.length = n + 1 := by
    have := congrArg List.length eL.out
    rw [List.length_map, bitsL_len] at this
    exact this
  rcases ow.form with ⟨_, e0⟩ | ⟨g, cap, cur, rfl, _⟩
  · rw [e0] at hLl; simp at hLl
  have hiL : n < Ls.length := by omega
  have he := ow.cellE (i := n) (j := 0) default hiL (by decide) rfl
  rw [show n * lcL.m + 0 = n from by show n * 1 + 0 = n; omega] at he
  have he' : w7.cell? ⟨g, n, none⟩ = some (.slice (Ls.getD n default).ad (Ls.getD n default).l.length (Ls.getD n default).cap) := he
  have hlz := hls _ (getD_mem' hiL default)
  have hez : (Ls.getD n default).l = [(S.vars + (n : Int), 1)] := by
    have h1 := getD_map' Lc.l Ls n default [] hiL
    rw [eL.out] at h1
    rw [← h1, bitsL, getD_map' _ _ n 0 [] (by simp)]
    simp [List.getD_eq_getElem?_getD]
  have hiL' : (n : Int) < Ls.length := by omega
  generalize Ls.getD n default = z at *
  have lz : z.l.length ≤ 1 := by rw [hez]; exact Nat.le_refl _
  have cN := rbNot_any base b _ z w7 hB7 (show vld (gLess S x.l y.l n).1.p = true by rw [show (gLess S x.l y.l n).1.p = S.p from bitsS_p S _ _]; exact hv) hlz (by omega) (by rw [hez, show (gLess S x.l y.l n).1.p = S.p from bitsS_p S _ _]; exact coef_nv hv ⟨0, 0, S.vars + n, [], 0, []⟩)
  have eN : gNot (gLess S x.l y.l n).1.p z.l = (gLess S x.l y.l n).2 := by rw [hez, show (gLess S x.l y.l n).1.p = S.p from bitsS_p S _ _]; rfl
  rw [eN] at cN
  replace hLl := hide hLl
  clear he eN hez cB
  go_wp2_with fail
  refine cN.mono ?_
  rintro e w8 ⟨r, rfl, er, hr, hb8⟩
  go_wp2
  go_ret
  exact ⟨r, rfl, er, hr, hB7.mono hb8, ((KX.of_below hb16 hb0).trans k7).trans (KX.of_below hb8 hB7.lt)⟩

set_option maxRecDepth 10000 in
set_option maxHeartbeats 4000000 in
theorem rbRaise_any (base b : Nat) (S : St) (N : Int) (x : Lc) (w : World) (h : BlR w base b S) (hv : vld S.p = true) (hS : Bd S N) (hN : N ≤ 700000000) (hx : LinT w x) :
    Calls Try.prog 123 #[.pointer (some ⟨b, 0, none⟩), .slice x.ad x.l.length x.cap] w (RetBR w base b (gPow S x.l).1 (gPow S x.l).2) := by
  have cE := fun W => rExponent_any S.p W
  have cM := rbMul_any base b S N x x w h hS (by omega) hx hx
  unfold gPow
  rcases fexp_cases hv with hE | hE | hE
  · rw [if_neg (by rw [hE]; decide), if_neg (by rw [hE]; decide)]
    rw [hE] at cE
    clear hE
    go_enter Try.func123, Try.ntmps123
    go_wp2_with fail
    refine cM.mono ?_
    rintro e w1 ⟨a, rfl, ea, ha, hB1, k1⟩
    go_wp2_with fail
    refine hB1.p_any.mono ?_
    rintro e w2 ⟨rfl, hb2⟩
    go_wp2_with fail
    refine (cE w2).mono ?_
    rintro e w3 ⟨rfl, hb3⟩
    have hb := below2 hb2 hb3
    go_wp2_with fail
    refine (rbMul_any base b _ (N + 2) a x w3 (hB1.mono hb) hS.mul (by omega) (ha.mono hb) ((k1.lin xrT hx).mono hb)).mono ?_
    rintro e w4 ⟨r, rfl, er, hr, hB4, k4⟩
    rw [ea.out] at hB4
    go_wp2
    go_ret
    exact ⟨r, rfl, er, hr, hB4, (k1.trans (KX.of_below hb hB1.lt)).trans k4⟩
  · rw [if_pos hE]
    rw [hE] at cE
    clear hE
    go_enter Try.func123, Try.ntmps123
    go_wp2_with fail
    refine cM.mono ?_
    rintro e w1 ⟨a, rfl, ea, ha, hB1, k1⟩
    go_wp2_with fail
    refine hB1.p_any.mono ?_
    rintro e w2 ⟨rfl, hb2⟩
    go_wp2_with fail
    refine (cE w2).mono ?_
    rintro e w3 ⟨rfl, hb3⟩
    have hb := below2 hb2 hb3
    go_wp2_with fail
    refine (rbMul_any base b _ (N + 2) a a w3 (hB1.mono hb) hS.mul (by omega) (ha.mono hb) (ha.mono hb)).mono ?_
    rintro e w4 ⟨c, rfl, ec, hc, hB4, k4⟩
    rw [ea.out] at hB4
    have kk := (k1.trans (KX.of_below hb hB1.lt)).trans k4
    go_wp2_with fail
    refine (rbMul_any base b _ (N + 2 + 2) c x w4 hB4 hS.mul.mul (by omega) hc (kk.lin xrT hx)).mono ?_
    rintro e w5 ⟨r, rfl, er, hr, hB5, k5⟩
    rw [ec.out] at hB5
    go_wp2
    go_ret
    exact ⟨r, rfl, er, hr, hB5, kk.trans k5⟩
  · rw [if_neg (by rw [hE]; decide), if_pos hE]
    rw [hE] at cE
    clear hE
    go_enter Try.func123, Try.ntmps123
    go_wp2_with fail
    refine cM.mono ?_
    rintro e w1 ⟨a, rfl, ea, ha, hB1, k1⟩
    go_wp2_with fail
    refine hB1.p_any.mono ?_
    rintro e w2 ⟨rfl, hb2⟩
    go_wp2_with fail
    refine (cE w2).mono ?_
    rintro e w3 ⟨rfl, hb3⟩
    have hb := below2 hb2 hb3
    go_wp2_with fail
    refine (rbMul_any base b _ (N + 2) a x w3 (hB1.mono hb) hS.mul (by omega) (ha.mono hb) ((k1.lin xrT hx).mono hb)).mono ?_
    rintro e w4 ⟨c, rfl, ec, hc, hB4, k4⟩
    rw [ea.out] at hB4
    have kk := (k1.trans (KX.of_below hb hB1.lt)).trans k4
    go_wp2_with fail
    refine (rbMul_any base b _ (N + 2 + 2) c c w4 hB4 hS.mul.mul (by omega) hc hc).mono ?_
    rintro e w5 ⟨d, rfl, ed, hd, hB5, k5⟩
    rw [ec.out] at hB5
    have kk5 := kk.trans k5
    go_wp2_with fail
    refine (rbMul_any base b _ (N + 2 + 2 + 2) d x w5 hB5 hS.mul.mul.mul (by omega) hd (kk5.lin xrT hx)).mono ?_
    rintro e w6 ⟨r, rfl, er, hr, hB6, k6⟩
    rw [ed.out] at hB6
    go_wp2
    go_ret
    exact ⟨r, rfl, er, hr, hB6, kk5.trans k6⟩
end Go.Proofs.Ytlgjnidphldiiaa
