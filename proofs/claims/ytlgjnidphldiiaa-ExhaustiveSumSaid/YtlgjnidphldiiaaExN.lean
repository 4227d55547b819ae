/- Exhaustive search: Count. -/
import Derived.Test.YtlgjnidphldiiaaExL
import Derived.Test.YtlgjnidphldiiaaCircWZ
namespace Go.Proofs.Ytlgjnidphldiiaa
open Go.ChangeShapes Go.WideShapes Go.ChangeAt Go.RowKit

theorem asc_of : ∀ (x : Lin) (lo : Int), (0 < x.length → lo ≤ (x.getD 0 (0, 0)).1) → (∀ i, i + 1 < x.length → (x.getD i (0, 0)).1 < (x.getD (i + 1) (0, 0)).1) → Asc lo x
  | [], _, _, _ => trivial
  | t :: x, lo, h0, h => ⟨h0 (by simp), asc_of x (t.1 + 1) (fun hl => by
    have h1 := h 0 (by simp; omega)
    have h2 : t.1 < (x.getD 0 (0, 0)).1 := by simpa using h1
    omega) fun i hi => by have := h (i + 1) (by simp; omega); simpa using this⟩
theorem lin_of {p n : Int} {x : Lin} (h : linOk p n x = true) (hw : LinW x) : LinIn p 0 n x := by
  have h := of_decide_eq_true h
  refine ⟨fun t ht => ?_, asc_of x 0 (fun hl => (h 0 hl).1.1) (fun i hi => ?_), fun t ht => ?_⟩
  · obtain ⟨i, hi, rfl⟩ := List.mem_iff_getElem.1 ht
    obtain ⟨_, _, h3, h4⟩ := h i hi
    have h2 := wf_u64 (hw _ ht).2
    rw [List.getD_eq_getElem?_getD, List.getElem?_eq_getElem hi] at h3 h4
    simp only [Option.getD_some] at h3 h4
    omega
  · have := (h (i + 1) hi).2.1 (by omega)
    rwa [Nat.add_sub_cancel] at this
  · obtain ⟨i, hi, rfl⟩ := List.mem_iff_getElem.1 ht
    have h1 := (h i hi).1.2
    rw [List.getD_eq_getElem?_getD, List.getElem?_eq_getElem hi] at h1
    exact h1
theorem row_of {p V : Nat} {r : Rw} {w : World} (hV : V ≤ 65536) (h : rowOk p V r = true) (hl : LcOk w r.a ∧ LcOk w r.b ∧ LcOk w r.c) : RowOk p V r.val := by
  unfold rowOk at h
  rw [Bool.and_eq_true, Bool.and_eq_true] at h
  obtain ⟨⟨h1, h2⟩, h3⟩ := h
  have k : ∀ x : Lc, linOk p V x.l = true → LcOk w x → LinIn p 0 V x.l ∧ x.l.length ≤ 1000000 := fun x hx hc => by
    have h4 := lin_of hx hc.wl
    refine ⟨h4, ?_⟩
    have := h4.len (by omega)
    omega
  exact ⟨k _ h1 hl.1, k _ h2 hl.2.1, k _ h3 hl.2.2⟩
theorem rows_of {p V : Nat} {pub : Int} {Rs : List Rw} {w : World} {ra : Option Addr} {rc : Nat} (h : tblOk p pub V Rs = true) (hR : RowsP w ra rc Rs) : ∀ r ∈ Rs, RowOk p V r.val := fun r hr => by
  obtain ⟨i, hi, rfl⟩ := List.mem_iff_getElem.1 hr
  have h2 := (of_decide_eq_true h).2.2 i hi
  rw [List.getD_eq_getElem?_getD, List.getElem?_eq_getElem hi] at h2
  obtain ⟨_, _, _, h3, _⟩ := tbl_bd h
  exact row_of (by omega) h2 (hR.ok _ hr)

def cntOk (p pub vars : Int) (Rs : List Rw) (front : List Int) (most : Int) : Bool := tblOk p pub vars Rs && decide ((front.length : Int) < vars) && decide (0 ≤ most) && allLt p front
/-- What Count answers: the number, the error. -/
def cntN (p pub vars : Int) (Rs : List Rw) (front : List Int) (most : Int) : Int := if cntOk p pub vars Rs front most then (if 257 < p then 0 else totN p.toNat (Rs.map Rw.val) vars.toNat front most) else 0
def cntE (p pub vars : Int) (Rs : List Rw) (front : List Int) (most : Int) : Int := if cntOk p pub vars Rs front most then (if 257 < p then 7 else 0) else 1
/-- The pair that Count answers. -/
def RetC (n e : Int) (w : World) (en : Ending) (w' : World) : Prop := en = .returned (.tuple #[.int .i64 n, .int .i64 e]) ∧ Below w.heap.size w w'
theorem RetC.no {p pub vars : Int} {Rs : List Rw} {front : List Int} {most : Int} {w w' : World} (h : cntOk p pub vars Rs front most = false) (hb : Below w.heap.size w w') : RetC (cntN p pub vars Rs front most) (cntE p pub vars Rs front most) w (.returned (.tuple #[.int .i64 0, .int .i64 1])) w' :=
  ⟨by unfold cntN cntE; rw [h]; rfl, hb⟩

set_option maxRecDepth 10000 in
set_option maxHeartbeats 16000000 in
theorem Count_any (p pub vars : Int) (ra : Option Addr) (R : List Rw) (rc : Nat) (fa : Option Addr) (fc : Nat) (front : List Int) (most : Int) (w : World) (hR : RowsP w ra rc R) (sF : Sl w .u64 fa front) (hF : AllW front) (hfl : (front.length : Int) ≤ 9223372036854775807) (hm : -9223372036854775808 ≤ most ∧ most ≤ 9223372036854775807) :
    Calls Try.prog 61 #[.agg #[.int .u64 p, .int .i64 pub, .int .i64 vars, .slice ra R.length rc], .slice fa front.length fc, .int .i64 most] w (RetC (cntN p pub vars R front most) (cntE p pub vars R front most) w) := by
  have cT := fun W h => tValid_any p pub vars ra R rc W h
  obtain ⟨n, hnl⟩ : ∃ n, front.length = n := ⟨_, rfl⟩
  rw [hnl] at hfl
  rw [hnl]
  obtain ⟨hm1, hm2⟩ := hm
  by_cases hT : tblOk p pub vars R = true
  · obtain ⟨hv, hpub, hpv, hvl, hRl⟩ := tbl_bd hT
    have hp := vld_pos hv
    rw [hT] at cT
    obtain ⟨P, rfl⟩ : ∃ P : Nat, p = (P : Int) := ⟨p.toNat, by omega⟩
    obtain ⟨V, rfl⟩ : ∃ V : Nat, vars = (V : Int) := ⟨vars.toNat, by omega⟩
    have hVI : (V : Int) ≤ 65536 := by omega
    have hwV : IntKind.i64.wrap ((V : Int) - 1) = (V : Int) - 1 := by rw [IntKind.wrap_i64]; omega
    by_cases hl : n < V
    · have hlI : (n : Int) < V := by omega
      have hlN : ¬ ((n : Int) > (V : Int) - 1) := by omega
      by_cases h0 : 0 ≤ most
      · have h0N : ¬ most < 0 := by omega
        have hrow := rows_of hT hR
        have hno : ∀ k, k < n → (P : Int) ≤ front.getD k 0 → cntOk P pub V R front most = false := fun k hk h => by
          unfold cntOk
          rw [allLt_stop (by omega) h, Bool.and_false]
        have hyes : (∀ k, k < n → front.getD k 0 < P) → cntOk P pub V R front most = true := fun h => by
          unfold cntOk
          rw [allLt_all (by rw [hnl]; exact h), hT, hnl, decide_eq_true hlI, decide_eq_true h0]
          rfl
        have cS := fun W h (h257 : P ≤ 257) => newSearch_any P V pub ra R rc W h hv h257 (by omega) (by omega) hrow hRl
        have hRv : ∀ r ∈ R.map Rw.val, RowOk P V r := fun r hr => by
          obtain ⟨x, hx, rfl⟩ := List.mem_map.1 hr
          exact hrow x hx
        replace hnl := hide hnl
        replace hrow := hide hrow
        replace hno := hide hno
        replace hyes := hide hyes
        replace hv := hide hv
        replace hRl := hide hRl
        replace hRv := hide hRv
        clear hT
        go_enter Try.func61, Try.ntmps61
        go_wp2_with fail
        refine name_calls fun W hN => ?_
        have g0 : Blk W w.heap.size #[.int .u64 P, .int .i64 pub, .int .i64 V, .slice ra R.length rc] 34 := by rw [hN]; exact Blk.newAt rfl
        have hB : Below w.heap.size w W := by rw [hN]; exact (Below.refl _ _).alloc (Nat.le_refl _) _
        clear hN
        refine (cT W (hR.mono hB)).mono ?_
        rintro e w1 ⟨rfl, hb1⟩
        replace hB := below2 hB hb1
        replace g0 := g0.mono hb1
        clear hb1 cT
        have k0 := g0.cell (j := 0) (v := .int .u64 P) rfl; have k2 := g0.cell (j := 2) (v := .int .i64 V) rfl
        go_wp2_with fail
        clear k0 k2
        go_loopw [28] (fun t28 wr => ∃ i : Nat, i ≤ n ∧ t28 = .int .i64 i ∧ Below w.heap.size w wr ∧ Blk wr w.heap.size #[.int .u64 P, .int .i64 pub, .int .i64 V, .slice ra R.length rc] 34 ∧ Hid (∀ k, k < i → front.getD k 0 < P)) (fun t28 _ => n - (intOf t28).toNat)
        case atStart => exact ⟨0, Nat.zero_le _, rfl, hB, g0, hide fun k hk => absurd hk (by omega)⟩
        case round =>
          clear g0 hB
          obtain ⟨i, hi, rfl, hB, g0, hk⟩ := hrel
          have k0 := g0.cell (j := 0) (v := .int .u64 P) rfl
          by_cases hlt : i < n
          · have hltI : (i : Int) < n := by omega
            have hif : i < front.length := by have := hnl.out; omega
            obtain ⟨b, off, rfl, _, hfc⟩ := (sF.mono hB) (by omega)
            have hc := hfc i hif
            have hxr := hF.get hif
            by_cases hx : (P : Int) ≤ front.getD i 0
            · have hno2 := hno.out i hlt hx
              generalize front.getD i 0 = x at *
              clear hfc
              go_wp2
              exact bodyPost_ret (v := .tuple #[.int .i64 0, .int .i64 1]) (by simp [results, Try.results61, go_sem]) rfl (RetC.no hno2 hB)
            · have hkn : Hid (∀ k, k < i + 1 → front.getD k 0 < P) := hide fun k hk2 => by
                by_cases e : k = i
                · subst e; omega
                · exact hk.out k (by omega)
              generalize front.getD i 0 = x at *
              clear hfc
              go_wp2
              go_roundw
              case rel => exact ⟨i + 1, by omega, by go_num, hB, g0, hkn⟩
              case measure => simp [intOf]; omega
          · obtain rfl : i = n := by omega
            have hok := hyes.out hk.out
            by_cases h257 : P ≤ 257
            · have h257N : ¬ (257 : Int) < P := by omega
              have hres : Hid (cntN P pub V R front most = totN P (R.map Rw.val) V front most ∧ cntE P pub V R front most = 0) := hide (by
                unfold cntN cntE
                rw [hok, if_pos rfl, if_pos rfl, if_neg h257N, if_neg h257N, Int.toNat_natCast, Int.toNat_natCast]
                exact ⟨rfl, rfl⟩)
              have hfr : ∀ x ∈ front, 0 ≤ x ∧ x < P := fun x hx => by
                obtain ⟨k, hk2, rfl⟩ := List.mem_iff_getElem.1 hx
                have := hk.out k (by have := hnl.out; omega)
                rw [List.getD_eq_getElem?_getD, List.getElem?_eq_getElem hk2] at this
                exact ⟨(hF _ hx).1, this⟩
              have hRl2 : (R.map Rw.val).length ≤ 1000000 := by rw [List.length_map]; have := hRl.out; omega
              have k2 := g0.cell (j := 1) (v := .int .i64 pub) rfl; have k3 := g0.cell (j := 2) (v := .int .i64 V) rfl; have k4 := g0.cell (j := 3) (v := .slice ra R.length rc) rfl
              replace hfr := hide hfr
              clear hok
              go_wp2_with fail
              refine (cS wr (hR.mono hB) h257).mono ?_
              rintro en w3 ⟨q, last, gi, gr, gw, IL, Wl, rfl, D, hA, hWl, hW1, hI, hIl, hlast, hlV⟩
              have hfa : 0 < front.length → ∀ b off, fa = some ⟨b, off, none⟩ → b ≠ gw := fun hf b off e => by
                obtain ⟨b2, off2, e2, h3, _⟩ := sF hf
                rw [e] at e2
                cases e2
                have := (D.ow.lt (b := gw) rfl).1
                have := hB.size
                omega
              have cW := with_any (w0 := wr) D hA hWl hW1 (by omega) hv.out h257 hRv.out hRl2 hI hIl hlast hlV fa fc front most ((sF.mono hB).mono D.below) hfr.out (by have := hnl.out; omega) hfa ⟨h0, hm2⟩
              rw [hnl.out] at cW
              have g3 := g0.mono D.below
              have hB3 := below2 hB D.below
              have hbz := hB.size
              clear cS D hA hWl hW1 hI hIl hlast hlV hfa k2 k3 k4 k0 hRl2
              go_wp2_with fail
              refine cW.mono ?_
              rintro en w4 ⟨rfl, Wl', D4, _⟩
              have hfinal : RetC (cntN P pub V R front most) (cntE P pub V R front most) w (.returned (.tuple #[.int .i64 (totN P (R.map Rw.val) V front most), .int .i64 0])) w4 := ⟨by rw [hres.out.1, hres.out.2], below2 hB D4.below⟩
              clear cW D4 hres
              generalize totN P (R.map Rw.val) V front most = z at *
              go_wp2
              exact bodyPost_ret (v := .tuple #[.int .i64 z, .int .i64 0]) (by simp [results, Try.results61, go_sem]) rfl hfinal
            · have h257N : (257 : Int) < P := by omega
              have hfinal : RetC (cntN P pub V R front most) (cntE P pub V R front most) w (.returned (.tuple #[.int .i64 0, .int .i64 7])) wr := ⟨by unfold cntN cntE; rw [hok, if_pos rfl, if_pos rfl, if_pos h257N, if_pos h257N], hB⟩
              clear hok
              go_wp2
              exact bodyPost_ret (v := .tuple #[.int .i64 0, .int .i64 7]) (by simp [results, Try.results61, go_sem]) rfl hfinal
      · have h0N : most < 0 := by omega
        have hF := hide (show cntOk P pub V R front most = false by unfold cntOk; rw [decide_eq_false h0, Bool.and_false, Bool.false_and])
        clear hT hv
        go_enter Try.func61, Try.ntmps61
        go_wp2_with fail
        refine name_calls fun W hN => ?_
        have g0 : Blk W w.heap.size #[.int .u64 P, .int .i64 pub, .int .i64 V, .slice ra R.length rc] 34 := by rw [hN]; exact Blk.newAt rfl
        have hB : Below w.heap.size w W := by rw [hN]; exact (Below.refl _ _).alloc (Nat.le_refl _) _
        clear hN
        refine (cT W (hR.mono hB)).mono ?_
        rintro e w1 ⟨rfl, hb1⟩
        replace hB := below2 hB hb1
        replace g0 := g0.mono hb1
        clear hb1 cT
        have k2 := g0.cell (j := 2) (v := .int .i64 V) rfl
        go_wp2
        exact bodyPost_ret (v := .tuple #[.int .i64 0, .int .i64 1]) (by simp [results, Try.results61, go_sem]) rfl (RetC.no hF.out hB)
    · have hlN : (n : Int) > (V : Int) - 1 := by omega
      have hF := hide (show cntOk P pub V R front most = false by unfold cntOk; rw [hnl, decide_eq_false (by omega), Bool.and_false, Bool.false_and, Bool.false_and])
      clear hT hv
      replace hnl := hide hnl
      go_enter Try.func61, Try.ntmps61
      go_wp2_with fail
      refine name_calls fun W hN => ?_
      have g0 : Blk W w.heap.size #[.int .u64 P, .int .i64 pub, .int .i64 V, .slice ra R.length rc] 34 := by rw [hN]; exact Blk.newAt rfl
      have hB : Below w.heap.size w W := by rw [hN]; exact (Below.refl _ _).alloc (Nat.le_refl _) _
      clear hN
      refine (cT W (hR.mono hB)).mono ?_
      rintro e w1 ⟨rfl, hb1⟩
      replace hB := below2 hB hb1
      replace g0 := g0.mono hb1
      clear hb1 cT
      have k2 := g0.cell (j := 2) (v := .int .i64 V) rfl
      go_wp2
      exact bodyPost_ret (v := .tuple #[.int .i64 0, .int .i64 1]) (by simp [results, Try.results61, go_sem]) rfl (RetC.no hF.out hB)
  · have hT2 : tblOk p pub vars R = false := by simpa using hT
    have hF := hide (show cntOk p pub vars R front most = false by unfold cntOk; rw [hT2, Bool.false_and, Bool.false_and, Bool.false_and])
    rw [hT2] at cT
    clear hT hT2
    replace hnl := hide hnl
    go_enter Try.func61, Try.ntmps61
    go_wp2_with fail
    refine name_calls fun W hN => ?_
    have hB : Below w.heap.size w W := by rw [hN]; exact (Below.refl _ _).alloc (Nat.le_refl _) _
    clear hN
    refine (cT W (hR.mono hB)).mono ?_
    rintro e w1 ⟨rfl, hb1⟩
    replace hB := below2 hB hb1
    clear hb1 cT
    go_wp2
    exact bodyPost_ret (v := .tuple #[.int .i64 0, .int .i64 1]) (by simp [results, Try.results61, go_sem]) rfl (RetC.no hF.out hB)
end Go.Proofs.Ytlgjnidphldiiaa
