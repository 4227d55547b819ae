/- Exhaustive search: the inverses. -/
import Derived.Test.YtlgjnidphldiiaaExB
namespace Go.Proofs.Ytlgjnidphldiiaa
open Go.RowKit

theorem run_mkU {P : Program} {t e : TypeId} {k : IntKind} {bytes : Nat} (ht : P.underlying t = some (.slice e)) (hinfo : (P.info? e).map (fun i => (i.zero, i.size, i.bytes)) = some (some (.int k 0), 1, bytes)) (h8 : bytes ≤ 8) (l : Nat) (hc : l < 1099511627776) (w : World) :
    (Instr.makeSlice t (.int .u64 (l : Int)) (.int .u64 (l : Int))).run P w = .ok (.slice (some ⟨w.heap.size, 0, none⟩) l l) (w.alloc (.cells (madeCells #[.int k 0] l) e)) := by
  obtain ⟨i, hi, hz, hsz, hby⟩ := info_parts hinfo
  have hb : (i.bytes : Int) * (l : Int) ≤ 281474976710656 := by
    rw [hby]
    have : bytes * l ≤ 8 * l := Nat.mul_le_mul_right _ h8
    have h : ((bytes * l : Nat) : Int) ≤ 281474976710656 := by omega
    rwa [Int.natCast_mul] at h
  have hr := run_make (P := P) w t e i (.int k 0) ht hi hz .u64 .u64 l l (by omega) (by omega) hb (by omega)
  simp only [Int.toNat_natCast, hsz, Nat.mul_one] at hr
  exact hr
/-- What the list of inverses is. -/
structure InvL (p : Int) (n : Nat) (L : List Int) : Prop where
  bd : ∀ j, 0 ≤ L.getD j 0 ∧ L.getD j 0 < p
  inv : ∀ j : Nat, 0 < j → j < n → (j : Int) * L.getD j 0 % p = 1
theorem small_vld {p : Int} (hv : vld p = true) (h : p ≤ 257) : p = 17 ∨ p = 97 ∨ p = 193 ∨ p = 257 := by
  rcases vld_cases hv with h1 | h1 | h1 | h1 | h1 | h1 | h1 <;> omega
theorem small_mod {p : Nat} (hv : vld (p : Int) = true) (h : p ≤ 257) {i : Nat} (h1 : 1 < i) (h2 : i < p) : 0 < p % i := by
  have key : ∀ q : Nat, q ∈ [17, 97, 193, 257] → ∀ i : Fin q, 1 < i.val → 0 < q % i.val := by decide +kernel
  have : p ∈ [17, 97, 193, 257] := by
    rcases small_vld hv (by omega) with h | h | h | h
    · rw [show p = 17 by omega]; decide
    · rw [show p = 97 by omega]; decide
    · rw [show p = 193 by omega]; decide
    · rw [show p = 257 by omega]; decide
  exact key p this ⟨i, h2⟩ h1
theorem InvL.step {p : Nat} {n : Nat} {L : List Int} (hv : vld (p : Int) = true) (h257 : p ≤ 257) (h : InvL p n L) (hn : 1 < n) (hnp : n < p) (hl : L.length = p) :
    InvL p (n + 1) (L.set n (((p : Int) - ((p / n : Nat) : Int)) * L.getD (p % n) 0 % p)) := by
  have hp := vld_pos hv
  have hm : p % n < n := Nat.mod_lt _ (by omega)
  have h0 := small_mod hv h257 hn hnp
  have hz := mod_lt' (show (0 : Int) < p by omega) (((p : Int) - ((p / n : Nat) : Int)) * L.getD (p % n) 0)
  have hget : ∀ j, (L.set n (((p : Int) - ((p / n : Nat) : Int)) * L.getD (p % n) 0 % p)).getD j 0 = if j = n then ((p : Int) - ((p / n : Nat) : Int)) * L.getD (p % n) 0 % p else L.getD j 0 := fun j => by
    by_cases e : j = n
    · subst e
      rw [if_pos rfl, List.getD_eq_getElem?_getD, List.getElem?_set_self (by omega)]
      rfl
    · rw [if_neg e, List.getD_eq_getElem?_getD, List.getElem?_set_ne (Ne.symm e), List.getD_eq_getElem?_getD]
  refine ⟨fun j => ?_, fun j hj hjn => ?_⟩
  · rw [hget]
    split
    · exact hz
    · exact h.bd j
  · rw [hget]
    split
    · rename_i e
      subst e
      have hi := h.inv (p % j) h0 hm
      have hd : (p : Int) = (j : Int) * ((p / j : Nat) : Int) + ((p % j : Nat) : Int) := by
        have := Nat.div_add_mod p j
        exact_mod_cast this.symm
      generalize ((p / j : Nat) : Int) = D at *
      generalize L.getD (p % j) 0 = X at *
      generalize ((p % j : Nat) : Int) = M at *
      have c1 : Cg (p : Int) (M * X) 1 := Cg.of (by rw [hi, Int.emod_eq_of_lt (by omega) (by omega)])
      have c2 : Cg (p : Int) ((j : Int) * (((p : Int) - D) * X % p)) 1 := by
        refine ((Cg.refl _ _).mul (Cg.mod _ _)).trans (Cg.trans ?_ c1)
        refine ⟨(j : Int) * X - X, ?_⟩
        have : (j : Int) * D = p - M := by omega
        have e2 : (j : Int) * (((p : Int) - D) * X) = (j : Int) * p * X - (j : Int) * D * X := by grind
        rw [e2, this]
        grind
      have := c2.em
      rw [this, Int.emod_eq_of_lt (by omega) (by omega)]
    · exact h.inv j hj (by omega)
set_option maxRecDepth 10000 in
set_option maxHeartbeats 4000000 in
theorem inverses_any (p : Nat) (w : World) (hv : vld (p : Int) = true) (h257 : p ≤ 257) :
    Calls Try.prog 127 #[.int .u64 p] w fun en w' => ∃ g L, en = .returned (.slice (some ⟨g, 0, none⟩) p p) ∧ Own w' w.heap.size 22 .u64 (.slice (some ⟨g, 0, none⟩) p p) L ∧ L.length = p ∧ InvL p p L ∧ Below w.heap.size w w' := by
  have hp := vld_pos hv
  have hmk := fun W => run_mkU (P := Try.prog) (t := 54) (e := 22) Try.underlying54 Try.infoU64 (by decide) p (by omega) W
  have hp1 : (1 : Int) < p := by omega
  have hp17 : 17 ≤ (p : Int) := hp.1
  have hpI : (p : Int) ≤ 257 := by omega
  replace hv := hide hv
  have own0 : Own (w.alloc (.cells (madeCells #[.int .u64 0] p) 22)) w.heap.size 22 .u64 (.slice (some ⟨w.heap.size, 0, none⟩) p p) (List.replicate p 0) := Own.made 0 (Nat.le_refl _) (by simp only [maxLen]; omega)
  have f0 := own0.free 1
  have c0 := own0.cell (j := 1) (by omega)
  clear hp
  go_enter Try.func127, Try.ntmps127
  go_wp2_with fail
  refine name_world fun w2 hN => ?_
  have hB2 : Below w.heap.size w w2 := by rw [hN]; exact (Below.refl _ _).alloc (Nat.le_refl _) _
  have ow2 : Own w2 w.heap.size 22 .u64 (.slice (some ⟨w.heap.size, 0, none⟩) p p) ((List.replicate p 0).set 1 1) := by
    have := own0.set 1 1
    rw [World.setCell_alloc_new] at this
    rw [hN]
    exact this
  have iv2 : InvL p 2 ((List.replicate p (0 : Int)).set 1 1) := by
    have hget : ∀ j, ((List.replicate p (0 : Int)).set 1 1).getD j 0 = if j = 1 then 1 else 0 := fun j => by
      by_cases e : j = 1
      · subst e
        rw [if_pos rfl, List.getD_eq_getElem?_getD, List.getElem?_set_self (by rw [List.length_replicate]; omega)]
        rfl
      · rw [if_neg e, List.getD_eq_getElem?_getD, List.getElem?_set_ne (Ne.symm e), List.getElem?_replicate]
        split <;> rfl
    refine ⟨fun j => ?_, fun j h1 h2 => ?_⟩
    · rw [hget]; split <;> omega
    · rw [hget, if_pos (by omega), show j = 1 by omega]
      exact Int.emod_eq_of_lt (by decide) (by omega)
  have ll2 : ((List.replicate p (0 : Int)).set 1 1).length = p := by rw [List.length_set, List.length_replicate]
  clear hN own0 f0 c0 hmk
  go_loopw [4] (fun t4 wr => ∃ i : Nat, 2 ≤ i ∧ i ≤ p ∧ t4 = .int .u64 i ∧ Below w.heap.size w wr ∧ ∃ L, Own wr w.heap.size 22 .u64 (.slice (some ⟨w.heap.size, 0, none⟩) p p) L ∧ Hid (InvL p i L) ∧ Hid (L.length = p)) (fun t4 _ => p - (intOf t4).toNat)
  case atStart => exact ⟨2, by omega, by omega, rfl, hB2, _, ow2, hide iv2, hide ll2⟩
  case round =>
    clear hB2 ow2 iv2 ll2
    obtain ⟨i, hi2, hip, rfl, hB, L, ow, hL, hl⟩ := hrel
    by_cases hlt : i < p
    · have hlt' : (i : Int) < p := by omega
      obtain ⟨m, hm⟩ : ∃ m, m = p % i := ⟨_, rfl⟩
      obtain ⟨d, hd⟩ : ∃ d, d = p / i := ⟨_, rfl⟩
      have hmi : m < i := by rw [hm]; exact Nat.mod_lt _ (by omega)
      have hdp : d ≤ p := by rw [hd]; exact Nat.div_le_self _ _
      have t1 : (p : Int).tmod (i : Int) = (m : Int) := by rw [hm, Int.natCast_emod]; exact Int.tmod_eq_emod_of_nonneg (by omega)
      have t2 : (p : Int).tdiv (i : Int) = (d : Int) := by rw [hd, Int.natCast_ediv]; exact Int.tdiv_eq_ediv_of_nonneg (by omega)
      have hst := InvL.step hv.out h257 hL.out (by omega) hlt hl.out
      rw [← hm, ← hd] at hst
      have hc := cell_later' (ow.cell (j := m) (by omega))
      have hxb := hL.out.bd m
      generalize L.getD m 0 = x at *
      have hi0 : ((i : Int) == 0) = false := by rw [beq_eq_false_iff_ne]; omega
      have hp0 : ((p : Int) == 0) = false := by rw [beq_eq_false_iff_ne]; omega
      obtain ⟨q, hq⟩ : ∃ q : Int, q = (p : Int) - d := ⟨_, rfl⟩
      have hqb : 0 ≤ q ∧ q ≤ 257 := by omega
      have w1 : IntKind.u64.wrap ((p : Int) - d) = q := by rw [IntKind.wrap_u64]; omega
      have hmul : 0 ≤ q * x ∧ q * x ≤ 66049 := ⟨Int.mul_nonneg hqb.1 hxb.1, (show q * x ≤ 257 * 257 from Int.mul_le_mul (by omega) (by omega) hxb.1 (by decide))⟩
      have w2 : IntKind.u64.wrap (q * x) = q * x := by rw [IntKind.wrap_u64]; omega
      obtain ⟨z, hz⟩ : ∃ z, z = q * x % p := ⟨_, rfl⟩
      have t3 : (q * x).tmod (p : Int) = z := by rw [hz]; exact Int.tmod_eq_emod_of_nonneg hmul.1
      rw [← hq, ← hz] at hst
      have hmp : (m : Int) < p := by omega
      have hi00 : (0 : Int) ≤ i := by omega
      have hm00 : (0 : Int) ≤ m := by omega
      replace hst := hide hst
      replace hz := hide hz
      replace hq := hide hq
      replace hm := hide hm
      replace hd := hide hd
      obtain ⟨hmul1, hmul2⟩ := hmul
      obtain ⟨hxb1, hxb2⟩ := hxb
      obtain ⟨hqb1, hqb2⟩ := hqb
      go_wp2_with fail
      refine Rel.wp_region_later_tail 16 Try.mixed (by kernel_rfl) ?_
      simp only [List.take_succ_cons, List.take_zero, List.drop_succ_cons, List.drop_zero]
      repeat (first | go_big_quiet_step (first | fail) | quiet_step (first | fail))
      refine wpQuiet_nil ?_
      intro w9 hb9
      replace hb9 := below_of_later hb9
      have ow9 := ow.mono hb9
      have f9 := ow9.free i
      have c9 := ow9.cell (j := i) hlt
      have hB9 := below2 hB hb9
      have own' := ow9.set i z
      have hBn : Below w.heap.size w (w9.setCell ⟨w.heap.size, i, none⟩ (.int .u64 z)) := hB9.setCell (Nat.le_refl _) _
      clear hc t1 t2 t3 w1 w2 hmul1 hmul2 hxb1 hxb2 hqb1 hqb2 hi0
      go_wp2
      go_roundw
      case rel => exact ⟨i + 1, by omega, by omega, by go_num, hBn, _, own', hst, hide (by rw [List.length_set]; exact hl.out)⟩
      case measure => simp [intOf]; omega
    · obtain rfl : i = p := by omega
      go_wp2
      go_ret
      exact ⟨_, L, rfl, ow, hl.out, hL.out, hB⟩
end Go.Proofs.Ytlgjnidphldiiaa
