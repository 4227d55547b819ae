/- Gadgets: Bits of the program. -/
import Derived.Test.YtlgjnidphldiiaaGadJ
namespace Go.Proofs.Ytlgjnidphldiiaa
open Go.RowKit

/-- The bits, on values. -/
def bitsS (S : St) (x : Lin) : Nat → St
  | 0 => S
  | k + 1 => gBool (gHint (bitsS S x k) 3 x [] k) (nv (bitsS S x k))
def bitT (S : St) (i : Nat) : Int × Int := (S.vars + i, fred S.p ((2 : Int) ^ i))
def bitsSum (S : St) (n : Nat) : Lin := (List.range n).map (bitT S)
def bitsL (S : St) (n : Nat) : List Lin := (List.range n).map fun (i : Nat) => [(S.vars + (i : Int), 1)]
def gBits (S : St) (x : Lin) (n : Nat) : St := gAssert (bitsS S x n) (bitsSum S n) x
theorem bitsS_vars (S : St) (x : Lin) : ∀ k : Nat, (bitsS S x k).vars = S.vars + k
  | 0 => by simp [bitsS]
  | k + 1 => by
    show (bitsS S x k).vars + 1 = _
    rw [bitsS_vars S x k]; omega
theorem bitsS_p (S : St) (x : Lin) : ∀ k : Nat, (bitsS S x k).p = S.p
  | 0 => rfl
  | k + 1 => bitsS_p S x k
theorem bitsS_bd {S : St} {n : Int} (h : Bd S n) (x : Lin) : ∀ k : Nat, Bd (bitsS S x k) (n + 2 * k)
  | 0 => h.up (by omega)
  | k + 1 => ((bitsS_bd h x k).hint.row).up (by omega)
theorem bitsSum_len (S : St) (n : Nat) : (bitsSum S n).length = n := by simp [bitsSum]
theorem bitsSum_next (S : St) (n k : Nat) (h : k < n) : ((bitsSum S k) ++ List.replicate (n - k) (0, 0)).set k (bitT S k) = bitsSum S (k + 1) ++ List.replicate (n - (k + 1)) (0, 0) := by
  obtain ⟨m, hm⟩ : ∃ m, n - k = m + 1 := ⟨n - k - 1, by omega⟩
  rw [hm, show n - (k + 1) = m by omega, List.replicate_succ, List.set_append_right _ _ (by rw [bitsSum_len]; exact Nat.le_refl _), bitsSum_len, Nat.sub_self, List.set_cons_zero]
  unfold bitsSum
  rw [List.range_succ, List.map_append]
  simp

/-- One term of one variable stays where a pair of zero cells is overwritten. -/
theorem LinT.skip {w : World} {s : Lc} {v : Int} {g k : Nat} {u u' : Value} (h : LinT w s) (hl : s.l = [(v, 1)]) (c0 : w.cell? ⟨g, k * 2, none⟩ = some (.int .i64 0)) (c1 : w.cell? ⟨g, k * 2 + 1, none⟩ = some (.int .u64 0)) :
    LinT ((w.setCell ⟨g, k * 2, none⟩ u).setCell ⟨g, k * 2 + 1, none⟩ u') s := by
  obtain ⟨b, off, cs', e2, g2⟩ := h.blk (by rw [hl]; simp)
  obtain ⟨b', off', e3, hlt, hc⟩ := h.ok.sl (by rw [hl]; simp)
  rw [e2] at e3
  cases e3
  have h0 := hc 0 (by rw [hl]; simp)
  rw [hl] at h0
  simp only [Nat.zero_mul, Nat.add_zero, List.getD_cons_zero] at h0
  have hz : ∀ j, (j = 0 ∨ j = 1) → ((w.setCell ⟨g, k * 2, none⟩ u).setCell ⟨g, k * 2 + 1, none⟩ u').cell? ⟨b, off + j, none⟩ = w.cell? ⟨b, off + j, none⟩ := fun j hj => by
    by_cases hb : g = b
    · subst hb
      have n1 : off ≠ k * 2 := fun e => by
        have := h0.2
        rw [e, c1] at this
        cases this
      have n2 : off ≠ k * 2 + 1 := fun e => by
        have := h0.1
        rw [e, c1] at this
        cases this
      have n3 : off + 1 ≠ k * 2 := fun e => by
        have := h0.2
        rw [e, c0] at this
        cases this
      have n4 : off + j ≠ k * 2 ∧ off + j ≠ k * 2 + 1 := by rcases hj with rfl | rfl <;> omega
      have q1 : (⟨g, k * 2 + 1, none⟩ : Addr) ≠ ⟨g, off + j, none⟩ := fun e => by injection e with _ e _; omega
      have q2 : (⟨g, k * 2, none⟩ : Addr) ≠ ⟨g, off + j, none⟩ := fun e => by injection e with _ e _; omega
      rw [World.cell?_setCell_other _ _ _ _ q1, World.cell?_setCell_other _ _ _ _ q2]
    · rw [World.cell?_setCell_far _ _ _ _ hb, World.cell?_setCell_far _ _ _ _ hb]
  have hlen : s.l.length = 1 := by rw [hl]; rfl
  refine ⟨⟨fun _ => ⟨b, off, e2, by simpa using hlt, fun i hi => ?_⟩, h.ok.wl, h.ok.le, h.ok.mx⟩, fun _ => ?_⟩
  · obtain rfl : i = 0 := by omega
    rw [hl]
    simp only [Nat.zero_mul, Nat.add_zero, List.getD_cons_zero]
    have z0 := hz 0 (.inl rfl)
    have z1 := hz 1 (.inr rfl)
    rw [Nat.add_zero] at z0
    exact ⟨z0.trans h0.1, z1.trans h0.2⟩
  · by_cases hb : g = b
    · subst hb
      exact ⟨g, off, _, e2, (g2.set _ _).set _ _⟩
    · exact ⟨b, off, _, e2, (g2.other hb _ _).other hb _ _⟩

def q3 (S : St) (k : Nat) : Int := S.vars + (k : Int) + 1
/-- The loop of Bits. -/
structure BitSt (w wr : World) (base b : Nat) (S : St) (x : Lin) (n k gb gs : Nat) (Ls : List Lc) : Prop where
  kept : Kept base w wr
  bld : Bld wr base b (bitsS S x k) (fun q => False ∨ q = gs)
  bits : OwnG lcL wr w.heap.size 44 (.slice (some ⟨gb, 0, none⟩) n n) Ls
  sum : OwnG tmL wr w.heap.size 100 (.slice (some ⟨gs, 0, none⟩) n n) (bitsSum S k ++ List.replicate (n - k) (0, 0))
  lb : ∀ i, i < k → LinT wr (Ls.getD i default) ∧ (Ls.getD i default).l = [(S.vars + (i : Int), 1)]

/-- What Bits returns. -/
def RetBits (w : World) (base b : Nat) (S : St) (x : Lin) (n : Nat) (e : Ending) (w' : World) : Prop := ∃ v Ls, e = .returned v ∧ OwnG lcL w' w.heap.size 44 v Ls ∧ Ls.length = n ∧ (∀ i, i < n → LinT w' (Ls.getD i default) ∧ (Ls.getD i default).l = [(S.vars + (i : Int), 1)]) ∧ Bld w' base b (gBits S x n) ∧ Kept base w w'

set_option maxRecDepth 10000 in
set_option maxHeartbeats 8000000 in
theorem Bits20_any (base b : Nat) (S : St) (N : Int) (x : Lc) (n : Nat) (w : World) (h : Bld w base b S) (hv : vld S.p = true) (hS : Bd S N) (hN : N ≤ 900000000) (hx : LinT w x) (lx : x.l.length ≤ 400000) (hn : n ≤ 62) :
    Calls Try.prog 50 #[.pointer (some ⟨b, 0, none⟩), .slice x.ad x.l.length x.cap, .int .i64 n] w (RetBits w base b S x.l n) := by
  have m1 := fun W => run_mkG lcL (P := Try.prog) (t := 55) (e := 44) Try.underlying55 Try.infoLc (by decide) (N := (n : Int)) (C := (n : Int)) n n rfl rfl (Nat.le_refl _) (by omega) W
  have m2 := fun W => run_mkG tmL (P := Try.prog) (t := 44) (e := 100) Try.underlying44 Try.infoTm (by decide) (N := (n : Int)) (C := (n : Int)) n n rfl rfl (Nat.le_refl _) (by omega) W
  have hb0 := h.lt
  go_enter Try.func50, Try.ntmps50
  have q1 : decide ((n : Int) < 0) = false := decide_eq_false (by omega)
  have q2 : decide ((62 : Int) < n) = false := decide_eq_false (by omega)
  go_wp2_with fail
  clear q1 q2
  have hB1 := (Below.refl w.heap.size w).alloc (Nat.le_refl _) (.cells (madeCells #[.slice none 0 0] (n * lcL.m)) 44)
  have hB2 := hB1.alloc hB1.size (.cells (madeCells #[.int .i64 0, .int .u64 0] (n * tmL.m)) 100)
  have o1 : OwnG lcL (w.alloc (.cells (madeCells #[.slice none 0 0] (n * lcL.m)) 44)) w.heap.size 44 (.slice (some ⟨w.heap.size, 0, none⟩) n n) (List.replicate n ⟨none, 0, []⟩) := OwnG.made (⟨none, 0, []⟩ : Lc) rfl (Nat.le_refl _) (by simp only [maxLen]; omega)
  have o2 : OwnG tmL ((w.alloc (.cells (madeCells #[.slice none 0 0] (n * lcL.m)) 44)).alloc (.cells (madeCells #[.int .i64 0, .int .u64 0] (n * tmL.m)) 100)) w.heap.size 100 (.slice (some ⟨w.heap.size + 1, 0, none⟩) n n) (List.replicate n (0, 0)) := by
    have := OwnG.made (L := tmL) (w := w.alloc (.cells (madeCells #[.slice none 0 0] (n * lcL.m)) 44)) (base := w.heap.size) (E := 100) (cap := n) (cs := #[.int .i64 0, .int .u64 0]) (0, 0) rfl (by simp) (by simp only [maxLen]; omega)
    simpa using this
  have S0 : BitSt w _ base b S x.l n 0 w.heap.size (w.heap.size + 1) (List.replicate n ⟨none, 0, []⟩) := ⟨Kept.of_below hB2 hb0, (h.avoid (g := w.heap.size + 1) (by omega)).mono hB2, o1.alloc _, o2, fun i hi => by omega⟩
  clear hB1 hB2 o1 o2 h m1 m2
  go_loopw [22] (fun t22 wr => ∃ k : Nat, k ≤ n ∧ t22 = .int .i64 k ∧ ∃ Ls, BitSt w wr base b S x.l n k w.heap.size (w.heap.size + 1) Ls) (fun t22 _ => n - (intOf t22).toNat)
  case atStart => exact ⟨0, Nat.zero_le _, rfl, _, S0⟩
  case round =>
    clear S0
    obtain ⟨k, hk, rfl, Ls, St⟩ := hrel
    by_cases hlt : k < n
    · have hlt' : (k : Int) < n := by omega
      have hx1 := St.kept.lin hx
      have hbd := bitsS_bd hS x.l k
      have hpk := bitsS_p S x.l k
      have hvk := bitsS_vars S x.l k
      have hgs : ∀ W : World, OwnG tmL W w.heap.size 100 (.slice (some ⟨w.heap.size + 1, 0, none⟩) n n) (bitsSum S k ++ List.replicate (n - k) (0, 0)) → ∀ q, (False ∨ q = w.heap.size + 1) → q < W.heap.size := fun W ho q hq => by
        rcases hq with hq | hq
        · exact hq.elim
        · rw [hq]; exact (ho.lt rfl).2
      have cH := hint20A_any _ base b (bitsS S x.l k) 3 x ⟨none, 0, []⟩ k wr St.bld (hgs _ St.sum) (by rw [hpk]; exact hv) hx1.ok (LinT.nil _).ok (by omega) (by simp) (by have := hbd.h; omega) ⟨hbd.v.1, by have := hbd.v.2; omega⟩ (by decide) (wfI ⟨by omega, by omega⟩)
      simp only [List.length_nil] at cH
      have hLl := hide St.bits.lenE
      have hq : Hid (q3 S k = (bitsS S x.l (k + 1)).vars) := hide (by rw [bitsS_vars]; unfold q3; omega)
      go_wp2_with fail
      refine cH.mono ?_
      rintro e w1 ⟨s, rfl, es, hs, hB1, k1⟩
      have bits1 := k1.ownG St.bits (by decide) (by decide) (by decide)
      have sum1 := k1.ownG St.sum (by decide) (by decide) (by decide)
      obtain ⟨_, cs1, gb1⟩ := bits1.blkE
      have hc1 := bits1.cellE (i := k) (j := 0) default (by have := hLl.out; omega) (by decide) rfl
      rw [show k * lcL.m + 0 = k from by show k * 1 + 0 = k; omega] at hc1
      have hf1 := gb1.free k
      have ls : s.l.length = 1 := by rw [es.out]; rfl
      have cB := fun W h1 hA h2 => Boolean20A_any (fun q => False ∨ q = w.heap.size + 1) base b (gHint (bitsS S x.l k) 3 x.l [] k) (N + 2 * k + 1) s W h1 hA hbd.hint (by omega) h2 (by omega)
      rw [show gBool (gHint (bitsS S x.l k) 3 x.l [] k) s.l = bitsS S x.l (k + 1) by rw [es.out]; rfl] at cB
      clear cH
      replace ls := hide ls
      go_wp2_with fail
      refine name_calls fun w2 hN => ?_
      have hs2 : LinT w2 s := by rw [hN]; exact hs.setType gb1 (by decide)
      have hB2 : Bld w2 base b (gHint (bitsS S x.l k) 3 x.l [] k) (fun q => False ∨ q = w.heap.size + 1) := by rw [hN]; exact hB1.other gb1 (by decide) (by decide) (by decide) k _ (fun q hq _ => hq.setType gb1 (by decide))
      have kp2 : Kept base w w2 := by rw [hN]; exact (St.kept.trans k1).setNew (g := w.heap.size) (j := k) (Nat.le_refl _) hb0 _
      have sum2 : OwnG tmL w2 w.heap.size 100 (.slice (some ⟨w.heap.size + 1, 0, none⟩) n n) (bitsSum S k ++ List.replicate (n - k) (0, 0)) := by rw [hN]; exact sum1.other (sum1.neq gb1 (by decide)) _
      have bits2 : OwnG lcL w2 w.heap.size 44 (.slice (some ⟨w.heap.size, 0, none⟩) n n) (Ls.set k s) := by rw [hN]; exact bits1.setLc k s
      have lb2 : ∀ i, i < k + 1 → LinT w2 ((Ls.set k s).getD i default) ∧ ((Ls.set k s).getD i default).l = [(S.vars + (i : Int), 1)] := fun i hi => by
        by_cases hik : i = k
        · subst hik
          rw [List.getD_eq_getElem?_getD, List.getElem?_set_self (by have := hLl.out; omega)]
          refine ⟨hs2, ?_⟩
          show s.l = _
          rw [es.out, hvk]
        · have hi2 : i < k := by omega
          rw [List.getD_eq_getElem?_getD, List.getElem?_set_ne (fun e => hik e.symm), ← List.getD_eq_getElem?_getD]
          refine ⟨?_, (St.lb i hi2).2⟩
          rw [hN]
          exact (k1.lin (St.lb i hi2).1).setType gb1 (by decide)
      clear hN hs hB1 k1 sum1 bits1 St gb1 hc1 hf1 hx1
      refine (cB w2 hB2 (hgs _ sum2) hs2).mono ?_
      rintro e w3 ⟨rfl, hB3, k3⟩
      have kp3 := kp2.trans k3
      have sum3 := k3.ownG sum2 (by decide) (by decide) (by decide)
      have bits3 := k3.ownG bits2 (by decide) (by decide) (by decide)
      have lb3 := fun i hi => (⟨k3.lin (lb2 i hi).1, (lb2 i hi).2⟩ : LinT w3 ((Ls.set k s).getD i default) ∧ ((Ls.set k s).getD i default).l = [(S.vars + (i : Int), 1)])
      clear cB hB2 hs2 kp2 sum2 bits2 lb2 k3 es ls
      have hq0 := hS.v.1
      have hq1 := hS.v.2
      obtain ⟨vr, R, vh, H, hB3'⟩ := id hB3
      have gB := hB3'.blk
      rw [← hq.out, bitsS_p] at gB
      have b0 := cell_later' (gB.cell (j := 0) (v := .int .u64 S.p) rfl)
      have b3 := cell_later' (gB.cell (j := 3) (v := .int .i64 (q3 S k)) rfl)
      have hq3 : 0 ≤ q3 S k ∧ q3 S k ≤ 900000100 := by unfold q3; omega
      clear hB3' gB
      have hpw : (2 : Int) ^ k < 18446744073709551616 ∧ 0 ≤ (2 : Int) ^ k := ⟨by
        have : 2 ^ k ≤ 2 ^ 62 := Nat.pow_le_pow_right (by decide) (by omega)
        have h2 : ((2 : Int) ^ k) = ((2 ^ k : Nat) : Int) := (Int.natCast_pow 2 k).symm
        rw [h2]; omega, Int.pow_nonneg (by decide)⟩
      have cRed := fun P => Reduce_any S.p ((2 : Int) ^ k) (later w3 P) hpw.2 hpw.1
      have hwp : IntKind.u64.wrap ((2 : Int) ^ k) = (2 : Int) ^ k := by rw [IntKind.wrap_u64]; omega
      have hwk : IntKind.i64.wrap (k : Int) = k := by rw [IntKind.wrap_i64]; omega
      have hwq : IntKind.i64.wrap (q3 S k - 1) = q3 S k - 1 := by rw [IntKind.wrap_i64]; omega
      have hk0 : (0 : Int) ≤ k := by omega
      go_wp2_with fail
      refine Rel.wp_region_later_tail 17 Try.mixed (by kernel_rfl) ?_
      simp only [List.take_succ_cons, List.take_zero, List.drop_succ_cons, List.drop_zero]
      repeat (first | go_big_quiet_step (first | (go_at_call 100; exact Calls.later_of (cRed _))) | quiet_step (first | (go_at_call 100; exact Calls.later_of (cRed _))))
      refine wpQuiet_nil ?_
      intro w4 hb4
      replace hb4 := below_of_later hb4
      clear b0 b3 cRed hwp hwk hq0 hq1
      have hLs2 : (bitsSum S k ++ List.replicate (n - k) ((0 : Int), (0 : Int))).length = n := by rw [List.length_append, bitsSum_len, List.length_replicate]; omega
      have hz : (bitsSum S k ++ List.replicate (n - k) ((0 : Int), (0 : Int))).getD k (0, 0) = (0, 0) := by
        rw [List.getD_eq_getElem?_getD, List.getElem?_append_right (by rw [bitsSum_len]; exact Nat.le_refl _), bitsSum_len, Nat.sub_self, List.getElem?_replicate, if_pos (by omega)]
        rfl
      have sum4 := sum3.mono hb4
      obtain ⟨_, cs4, gs4⟩ := sum4.blkE
      have z0 := sum4.cellE (i := k) (j := 0) (0, 0) (u := .int .i64 0) (by rw [hLs2]; exact hlt) (by decide) (by rw [hz]; rfl)
      have z1 := sum4.cellE (i := k) (j := 1) (0, 0) (u := .int .u64 0) (by rw [hLs2]; exact hlt) (by decide) (by rw [hz]; rfl)
      rw [show k * tmL.m + 0 = k * 2 from rfl] at z0
      rw [show k * tmL.m + 1 = k * 2 + 1 from rfl] at z1
      have zf := gs4.free
      have S4 : BitSt w ((w4.setCell ⟨w.heap.size + 1, k * 2, none⟩ (.int .i64 (q3 S k - 1))).setCell ⟨w.heap.size + 1, k * 2 + 1, none⟩ (.int .u64 (fred S.p ((2 : Int) ^ k)))) base b S x.l n (k + 1) w.heap.size (w.heap.size + 1) (Ls.set k s) := by
        have hk4 := (kp3.trans (Kept.of_below hb4 hB3.lt))
        refine ⟨(hk4.setNew (by omega) hb0 _).setNew (by omega) hb0 _, ?_, ((bits3.mono hb4).other ((bits3.mono hb4).neq gs4 (by decide)) _).other ((bits3.mono hb4).neq gs4 (by decide)) _, ?_, fun i hi => ⟨((lb3 i hi).1.mono hb4).skip (lb3 i hi).2 z0 z1, (lb3 i hi).2⟩⟩
        · exact ((hB3.mono hb4).other gs4 (by decide) (by decide) (by decide) (k * 2) _ (fun q hq ha => hq.setAv ha (.inr rfl))).other (gs4.set (k * 2) (.int .i64 (q3 S k - 1))) (by decide) (by decide) (by decide) (k * 2 + 1) _ (fun q hq ha => hq.setAv ha (.inr rfl))
        · have h1 := sum4.setTm k (by rw [hLs2]; exact hlt) (bitT S k)
          rw [bitsSum_next S n k hlt] at h1
          have e : (bitT S k) = (q3 S k - 1, fred S.p ((2 : Int) ^ k)) := by unfold bitT q3; congr 1; omega
          rw [e] at h1
          exact h1
      clear sum3 bits3 lb3 hB3 kp3 hb4 sum4 gs4 hz hLs2
      go_wp2
      go_roundw
      case rel => exact ⟨k + 1, by omega, by go_num, _, S4⟩
      case measure => simp [intOf]; omega
    · obtain rfl : k = n := by omega
      have hbd := bitsS_bd hS x.l k
      have hw : LinW (bitsSum S k) := fun t ht => by
        obtain ⟨i, hi, rfl⟩ := List.mem_map.1 ht
        have hi := List.mem_range.1 hi
        have hq0 := hS.v.1
        have hq1 := hS.v.2
        exact ⟨wfI (by simp only [bitT]; omega), wfU (fred_bd _ _)⟩
      have hsum := St.sum
      rw [Nat.sub_self, List.replicate_zero, List.append_nil] at hsum
      obtain ⟨t, et, lt, ht⟩ := hsum.lin hw
      have hx1 := St.kept.lin hx
      have cA := Assert20_any base b (bitsS S x.l k) (N + 2 * k) t x wr St.bld.forget (by rw [bitsS_p]; exact hv) hbd (by omega) ht hx1 (by rw [lt, bitsSum_len]; omega) (by omega)
      rw [← et, show gAssert (bitsS S x.l k) t.l x.l = gBits S x.l k by rw [lt]; rfl] at cA
      have hLl := hide St.bits.lenE
      have bits := St.bits
      have kp := St.kept
      have lb := St.lb
      clear St et lt ht hsum hx1 hw hbd
      go_wp2_with fail
      refine cA.mono ?_
      rintro e w2 ⟨rfl, hB2, k2⟩
      clear cA
      go_wp2
      go_ret
      exact ⟨_, Ls, rfl, k2.ownG bits (by decide) (by decide) (by decide), hLl.out.symm, fun i hi => ⟨k2.lin (lb i hi).1, (lb i hi).2⟩, hB2, kp.trans k2⟩
end Go.Proofs.Ytlgjnidphldiiaa
