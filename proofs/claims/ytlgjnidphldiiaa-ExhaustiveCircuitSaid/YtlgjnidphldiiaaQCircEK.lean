/- Circuits: the value of a linear combination, of the program and of the references. -/
import Derived.Test.YtlgjnidphldiiaaQCircV
import Derived.Test.YtlgjnidphldiiaaQCircWZ
import Derived.Laws.BitsAllLaws
namespace Go.Proofs.Ytlgjnidphldiiaa
open Go.RowKit

theorem lstep_in {p : Int} {W : List Int} {s : Int} {j : Nat} {c : Int} (h : j < W.length) : lstep p W s ((j : Int), c) = fadd p s (fmul p c (W.getD j 0)) := by
  unfold lstep
  rw [if_pos ⟨by omega, by simp only; omega⟩, Int.toNat_natCast]
theorem lstep_out {p : Int} {W : List Int} {s v c : Int} (h : ¬ (0 ≤ v ∧ v < (W.length : Int))) : lstep p W s (v, c) = s := by
  unfold lstep
  rw [if_neg h]

set_option maxHeartbeats 1600000 in
theorem tValue_any (p : Int) (s : Lc) (wa : Option Addr) (wc : Nat) (ws : List Int) (w : World) (hs : LcOk w s) (hW : Sl w .u64 wa ws) (hA : AllW ws) :
    Calls Try.prog 152 #[.int .u64 p, .slice s.ad s.l.length s.cap, .slice wa ws.length wc] w fun e w' => e = .returned (.int .u64 (lval p ws s.l)) ∧ Below w.heap.size w w' := by
  obtain ⟨a, cap, L⟩ := s
  have hl := hs.sl
  have hw := hs.wl
  have hle := hide (lc_len hs)
  clear hs
  simp only at hl hw ⊢
  go_enter Try.func152, Try.ntmps152
  go_wp2_with fail
  have g0 : Blk (w.alloc (.cells #[.int .u64 p] 102)) w.heap.size #[.int .u64 p] 102 := Blk.newAt rfl
  have hB0 := (Below.refl w.heap.size w).alloc (Nat.le_refl _) (.cells #[.int .u64 p] 102)
  go_loopw [8, 15] (fun t8 t15 wr => ∃ k : Nat, k ≤ L.length ∧ t8 = .int .u64 (lval p ws (L.take k)) ∧ t15 = .int .i64 k ∧ Below w.heap.size w wr ∧ Blk wr w.heap.size #[.int .u64 p] 102) (fun _ t15 _ => L.length - (intOf t15).toNat)
  case atStart => exact ⟨0, Nat.zero_le _, rfl, rfl, hB0, g0⟩
  case round =>
    clear g0 hB0
    obtain ⟨k, hk, rfl, rfl, hb, gr⟩ := hrel
    by_cases hlt : k < L.length
    · have hlt' : (k : Int) < L.length := by omega
      have hst := lval_step p ws L hlt
      have hbd := lval_bd p ws (L.take k)
      obtain ⟨b, off, rfl, _, hc0, hc1⟩ := (hl.mono hb).get hlt
      have hv := hw.get hlt
      obtain ⟨S, hS⟩ : ∃ S, S = lval p ws (L.take k) := ⟨_, rfl⟩
      obtain ⟨N, hN⟩ : ∃ N, N = lval p ws (L.take (k + 1)) := ⟨_, rfl⟩
      rw [← hS] at hbd hst ⊢
      rw [← hN] at hst
      replace hN := hide hN
      clear hS
      generalize L.getD k (0, 0) = t at *
      obtain ⟨v, c⟩ := t
      simp only at hc0 hc1 hv
      replace hst := hide hst
      have hBa := hb.alloc hb.size (.cells #[.int .i64 v, .int .u64 c] 100)
      have gA := gr.alloc (.cells #[.int .i64 v, .int .u64 c] 100)
      have gT : Blk (wr.alloc (.cells #[.int .i64 v, .int .u64 c] 100)) wr.heap.size #[.int .i64 v, .int .u64 c] 100 := Blk.newAt rfl
      by_cases hr0 : 0 ≤ v
      · by_cases hr1 : v < (ws.length : Int)
        · have hdd : True := trivial
          obtain ⟨j, rfl⟩ := Int.eq_ofNat_of_zero_le hr0
          have hj : j < ws.length := by omega
          have hst2 := hide (hst.out.trans (lstep_in hj))
          obtain ⟨b2, off2, rfl, _, hd⟩ := (hW.mono hb).get hj
          have hx := hA.get hj
          generalize ws.getD j 0 = x at *
          have hm := fmul_bd p c x
          replace hd := cell_below ((Below.refl wr.heap.size wr).alloc (Nat.le_refl _) (.cells #[.int .i64 j, .int .u64 c] 100)) hd
          clear hst hl hw hW hA
          go_wp2_with fail
          generalize wr.alloc (.cells #[.int .i64 j, .int .u64 c] 100) = W at *
          have k0 := cell_later' (gA.cell (j := 0) (v := .int .u64 p) rfl)
          have m0 := cell_later' (gT.cell (j := 0) (v := .int .i64 j) rfl)
          have m1 := cell_later' (gT.cell (j := 1) (v := .int .u64 c) rfl)
          have hd' := cell_later' hd
          refine wp_region_later Try.mixed (by kernel_rfl) ?_
          repeat (quiet_step (first | (go_at_call 80; exact Calls.later_of (Mul_any _ _ _ _ (by omega) (by omega) (by omega) (by omega))) | (go_at_call 79; exact Calls.later_of (Add_any _ _ _ _ (by omega) (by omega) (by omega) (by omega)))))
          refine wpQuiet_nil ?_
          intro w3 hb3
          replace hb3 := below_of_later hb3
          replace gA := gA.mono hb3
          replace hBa := below2 hBa hb3
          clear k0 m0 m1 hd' hd gT
          go_wp2
          go_roundw
          case rel => exact ⟨k + 1, by omega, by rw [← hN.out, hst2.out], rel_succ hlt hle.out, hBa, gA⟩
          case measure => exact meas_succ hlt hle.out
        · have hst2 := hide (hst.out.trans (lstep_out fun h => hr1 h.2))
          clear hst hl hw hW hA
          go_wp2_with fail
          go_roundw
          case rel => exact ⟨k + 1, by omega, by rw [← hN.out, hst2.out], rel_succ hlt hle.out, hBa, gA⟩
          case measure => exact meas_succ hlt hle.out
      · have hst2 := hide (hst.out.trans (lstep_out fun h => hr0 h.1))
        clear hst hl hw hW hA
        go_wp2_with fail
        go_roundw
        case rel => exact ⟨k + 1, by omega, by rw [← hN.out, hst2.out], rel_succ hlt hle.out, hBa, gA⟩
        case measure => exact meas_succ hlt hle.out
    · obtain rfl : k = L.length := by omega
      have hT := hide (show L.take L.length = L from List.take_length)
      go_wp2
      go_ret
      exact ⟨ret_int (by rw [hT.out]), hb⟩

set_option maxHeartbeats 1600000 in
theorem rValue20_any (p : Int) (s : Lc) (wa : Option Addr) (wc : Nat) (ws : List Int) (w : World) (hs : LcOk w s) (hW : Sl w .u64 wa ws) (hA : AllW ws) (hin : ∀ i, i < s.l.length → 0 ≤ (s.l.getD i (0, 0)).1 ∧ (s.l.getD i (0, 0)).1 < (ws.length : Int)) :
    Calls Try.prog 37 #[.int .u64 p, .slice s.ad s.l.length s.cap, .slice wa ws.length wc] w fun e w' => e = .returned (.int .u64 (lval p ws s.l)) ∧ Below w.heap.size w w' := by
  obtain ⟨a, cap, L⟩ := s
  have hl := hs.sl
  have hw := hs.wl
  have hle := hide (lc_len hs)
  clear hs
  simp only at hl hw hin ⊢
  go_enter Try.func37, Try.ntmps37
  go_wp2_with fail
  go_loopw [7, 8] (fun t7 t8 wr => ∃ k : Nat, k ≤ L.length ∧ t7 = .int .u64 (lval p ws (L.take k)) ∧ t8 = .int .i64 k ∧ Below w.heap.size w wr) (fun _ t8 _ => L.length - (intOf t8).toNat)
  case atStart => exact ⟨0, Nat.zero_le _, rfl, rfl, Below.refl _ _⟩
  case round =>
    obtain ⟨k, hk, rfl, rfl, hb⟩ := hrel
    by_cases hlt : k < L.length
    · have hlt' : (k : Int) < L.length := by omega
      have hst := lval_step p ws L hlt
      have hbd := lval_bd p ws (L.take k)
      obtain ⟨hr0, hr1⟩ := hin k hlt
      clear hin
      obtain ⟨b, off, rfl, _, hc0, hc1⟩ := (hl.mono hb).get hlt
      have hv := hw.get hlt
      obtain ⟨S, hS⟩ : ∃ S, S = lval p ws (L.take k) := ⟨_, rfl⟩
      obtain ⟨N, hN⟩ : ∃ N, N = lval p ws (L.take (k + 1)) := ⟨_, rfl⟩
      rw [← hS] at hbd hst ⊢
      rw [← hN] at hst
      replace hN := hide hN
      clear hS
      generalize L.getD k (0, 0) = t at *
      obtain ⟨v, c⟩ := t
      simp only at hc0 hc1 hv
      replace hst := hide hst
      obtain ⟨j, rfl⟩ := Int.eq_ofNat_of_zero_le hr0
      have hj : j < ws.length := by omega
      have hst2 := hide (hst.out.trans (lstep_in hj))
      obtain ⟨b2, off2, rfl, _, hd⟩ := (hW.mono hb).get hj
      have hx := hA.get hj
      generalize ws.getD j 0 = x at *
      have hm := fmul_bd p c x
      clear hst hl hw hW hA
      go_wp2_with fail
      have m0 := cell_later' hc0
      have m1 := cell_later' hc1
      have hd' := cell_later' hd
      refine wp_region_later Try.mixed (by kernel_rfl) ?_
      repeat (quiet_step (first | (go_at_call 78; exact Calls.later_of (rMul_any _ _ _ _ (by omega) (by omega) (by omega) (by omega))) | (go_at_call 54; exact Calls.later_of (rAdd_any _ _ _ _ (by omega) (by omega) (by omega) (by omega)))))
      refine wpQuiet_nil ?_
      intro w3 hb3
      replace hb3 := below_of_later hb3
      replace hb := below2 hb hb3
      clear m0 m1 hd' hd
      go_wp2
      go_roundw
      case rel => exact ⟨k + 1, by omega, by rw [← hN.out, hst2.out], rel_succ hlt hle.out, hb⟩
      case measure => exact meas_succ hlt hle.out
    · obtain rfl : k = L.length := by omega
      have hT := hide (show L.take L.length = L from List.take_length)
      go_wp2
      go_ret
      exact ⟨ret_int (by rw [hT.out]), hb⟩

end Go.Proofs.Ytlgjnidphldiiaa

/- Circuits: which assignments satisfy a table, of the program and of the reference. -/
namespace Go.Proofs.Ytlgjnidphldiiaa
open Go.RowKit

end Go.Proofs.Ytlgjnidphldiiaa

/- Circuits: Satisfied, of the program and of the reference. -/
namespace Go.Proofs.Ytlgjnidphldiiaa
open Go.RowKit

/-- A number is returned that is negative exactly if all rows are satisfied. -/
def RetU (p : Int) (ws : List Int) (R : List Rw) (w : World) (e : Ending) (w' : World) : Prop := ∃ i : Int, e = .returned (.int .i64 i) ∧ (i < 0 ↔ rowsSat p ws R = true) ∧ Below w.heap.size w w'
theorem rs_stop {p : Int} {W : List Int} {R : List Rw} {k : Nat} (hk : k < R.length) (h : rowSat p W (R.getD k default) = false) : rowsSat p W R = false := by
  unfold rowsSat
  exact decide_eq_false fun hh => by have := hh k hk; rw [h] at this; cases this
theorem rs_all {p : Int} {W : List Int} {R : List Rw} (h : ∀ k, k < R.length → rowSat p W (R.getD k default) = true) : rowsSat p W R = true := by
  unfold rowsSat
  exact decide_eq_true h
theorem RetU.no {p : Int} {ws : List Int} {R : List Rw} {w w' : World} (k : Nat) (h : rowsSat p ws R = false) (hb : Below w.heap.size w w') : RetU p ws R w (.returned (.int .i64 (k : Int))) w' :=
  ⟨k, rfl, ⟨fun h => by omega, fun h2 => by rw [h] at h2; cases h2⟩, hb⟩
theorem RetU.all {p : Int} {ws : List Int} {R : List Rw} {w w' : World} (h : rowsSat p ws R = true) (hb : Below w.heap.size w w') : RetU p ws R w (.returned (.int .i64 (-1))) w' :=
  ⟨-1, rfl, ⟨fun _ => h, fun _ => by omega⟩, hb⟩

end Go.Proofs.Ytlgjnidphldiiaa

/- Circuits: Satisfied of the reference; below. -/
namespace Go.Proofs.Ytlgjnidphldiiaa
open Go.RowKit

def allLt (p : Int) (l : List Int) : Bool := decide (∀ i, i < l.length → l.getD i 0 < p)
theorem allLt_stop {p : Int} {W : List Int} {k : Nat} (hk : k < W.length) (h : p ≤ W.getD k 0) : allLt p W = false := by
  unfold allLt
  exact decide_eq_false fun hh => by have := hh k hk; omega
theorem allLt_all {p : Int} {W : List Int} (h2 : ∀ k, k < W.length → W.getD k 0 < p) : allLt p W = true := decide_eq_true h2

end Go.Proofs.Ytlgjnidphldiiaa

/- Circuits: Run of the program. -/
namespace Go.Proofs.Ytlgjnidphldiiaa
open Go.RowKit

theorem own_neq {w : World} {base : Nat} {E : TypeId} {k : IntKind} {v : Value} {xs : List Int} {b : Nat} {cs : Array Value} {T : TypeId} (h : Own w base E k v xs) (g : Blk w b cs T) (hT : ¬ E = T) : v.ownBlock ≠ some b := fun e => by
  rcases h.form with ⟨rfl, _⟩ | ⟨g', cap, cur, rfl, _, hgb, _⟩
  · cases e
  · injection e with e
    subst e
    have := hgb.symm.trans g
    injection this with this
    injection this with _ this
    exact hT this

/-- append of one element, which lies in the block just made; its number by an equation. -/
theorem wpList_appX {P : Program} (w : World) {ops : Array Oper} {rest : List Oper} {o : Oper} {a : Act} {Q : Exit → Act → World → Prop} (E : TypeId) (k : IntKind) (y : Int) (hgd : o.guard = none) (s x : Operand) (t : TypeId)
    (ho : o.op = .call { callee := .builtin .append, args := #[s, x], argTypes := #[t, t] })
    (base : Nat) (bytes : Nat) (ht : P.underlying t = some (.slice E)) (hinfo : (P.info? E).map (fun i => (i.zero, i.size, i.bytes)) = some (some (.int k 0), 1, bytes)) (h8 : bytes ≤ 8)
    (v : Value) (xs : List Int) (z : Nat) (hs : a.eval s = v) (hx : a.eval x = .slice (some ⟨z, 0, none⟩) 1 1) (hz : z = w.heap.size) (hown : Own w base E k v xs) (hlen : xs.length < 1099511627775) (hbase : base ≤ w.heap.size)
    (h : ∀ v' w', Own w' base E k v' (xs ++ [y]) → Grew w w' v v' → wpList P ops Q rest (a.put o.dst v') w') : wpList P ops Q (o :: rest) a (w.alloc (.cells #[.int k y] E)) :=
  wpList_app1 w E k y hgd s x t ho base bytes ht hinfo h8 v xs hs (by rw [hx, hz]) hown hlen hbase h

theorem hint_cases {p v : Int} {h : Hn} (e : hintOk p v h = true) : linOk p v h.a.l = true ∧ ((h.k = 1 ∧ linOk p v h.b.l = true) ∨ h.k = 2 ∨ (h.k = 3 ∧ 0 ≤ h.bit ∧ h.bit ≤ 63)) := by
  unfold hintOk at e
  simp only [Bool.and_eq_true] at e
  obtain ⟨e1, e2⟩ := e
  refine ⟨e1, ?_⟩
  split at e2
  · rename_i h1
    simp only [Bool.and_eq_true] at e2
    exact .inl ⟨h1, e2.1⟩
  · split at e2
    · rename_i h2
      exact .inr (.inl h2)
    · split at e2
      · rename_i h3
        simp only [Bool.and_eq_true, decide_eq_true_eq] at e2
        exact .inr (.inr ⟨h3, e2.2⟩)
      · cases e2
theorem hval1 {p : Int} {W : List Int} {h : Hn} (e : h.k = 1) : hval p W h = fmul p (lval p W h.a.l) (lval p W h.b.l) := by unfold hval; rw [if_pos e]
theorem hval2 {p : Int} {W : List Int} {h : Hn} (e : h.k = 2) : hval p W h = finv p (lval p W h.a.l) := by unfold hval; rw [if_neg (by omega), if_pos e]
theorem hval3 {p : Int} {W : List Int} {h : Hn} (e : h.k = 3) : hval p W h = lval p W h.a.l / 2 ^ h.bit.toNat % 2 := by unfold hval; rw [if_neg (by omega), if_neg (by omega)]
theorem cir_bd {p pub vars sec : Int} {R : List Rw} {H : List Hn} (h : cirOk p pub vars R sec H = true) : tblOk p pub vars R = true ∧ 0 ≤ sec ∧ vars = 1 + pub + sec + H.length ∧ ∀ i, i < H.length → hintOk p (1 + pub + sec + i) (H.getD i default) = true := of_decide_eq_true h
/-- The loop of Run. -/
structure RunSt (w wr : World) (bC bF : Nat) (cs : Array Value) (p : Int) (v : Value) (l : List Int) : Prop where
  b : Below w.heap.size w wr
  c : Blk wr bC cs 37
  f : Blk wr bF #[.int .u64 p] 102
  o : Own wr w.heap.size 22 .u64 v l
theorem RunSt.mono {w wr w2 : World} {bC bF : Nat} {cs : Array Value} {p : Int} {v : Value} {l : List Int} (h : RunSt w wr bC bF cs p v l) (hb : Below wr.heap.size wr w2) : RunSt w w2 bC bF cs p v l :=
  ⟨below2 h.b hb, h.c.mono hb, h.f.mono hb, h.o.mono hb⟩
theorem RunSt.grew {w wr w2 : World} {bC bF : Nat} {cs : Array Value} {p : Int} {v v' : Value} {l l' : List Int} (h : RunSt w wr bC bF cs p v l) (hg : Grew wr w2 v v') (ho : Own w2 w.heap.size 22 .u64 v' l') : RunSt w w2 bC bF cs p v' l' :=
  ⟨hg.below h.b h.o (Nat.le_refl _) h.b.size, hg.blk h.c (own_neq h.o h.c (by decide)), hg.blk h.f (own_neq h.o h.f (by decide)), ho⟩

end Go.Proofs.Ytlgjnidphldiiaa

/- Circuits: the completion of inputs, of the reference. -/
namespace Go.Proofs.Ytlgjnidphldiiaa
open Go.RowKit

/-- The loop of Complete. -/
structure CompSt (w wr : World) (bC : Nat) (cs : Array Value) (v : Value) (l : List Int) : Prop where
  b : Below w.heap.size w wr
  c : Blk wr bC cs 37
  o : Own wr w.heap.size 22 .u64 v l
theorem CompSt.mono {w wr w2 : World} {bC : Nat} {cs : Array Value} {v : Value} {l : List Int} (h : CompSt w wr bC cs v l) (hb : Below wr.heap.size wr w2) : CompSt w w2 bC cs v l :=
  ⟨below2 h.b hb, h.c.mono hb, h.o.mono hb⟩
theorem CompSt.grew {w wr w2 : World} {bC : Nat} {cs : Array Value} {v v' : Value} {l l' : List Int} (h : CompSt w wr bC cs v l) (hg : Grew wr w2 v v') (ho : Own w2 w.heap.size 22 .u64 v' l') : CompSt w w2 bC cs v' l' :=
  ⟨hg.below h.b h.o (Nat.le_refl _) h.b.size, hg.blk h.c (own_neq h.o h.c (by decide)), ho⟩

set_option maxRecDepth 10000 in
set_option maxHeartbeats 4000000 in
theorem Complete_any (p pub vars : Int) (ra : Option Addr) (R : List Rw) (rc : Nat) (sec : Int) (ha : Option Addr) (H : List Hn) (hc : Nat) (la : Option Addr) (lc : Nat) (l : List Int) (w : World)
    (hH : HintsP w ha hc H) (hl : Sl w .u64 la l) (hA : AllW l) (hC : cirOk p pub vars R sec H = true) (hlen : (l.length : Int) = pub + sec) :
    Calls Try.prog 35 #[.agg #[.int .u64 p, .int .i64 pub, .int .i64 vars, .slice ra R.length rc, .int .i64 sec, .slice ha H.length hc], .slice la l.length lc] w (RetSl w 22 .u64 (runH p (1 :: l) H)) := by
  obtain ⟨hT, hs0, hv, hok⟩ := cir_bd hC
  obtain ⟨hvp, hp0, hp1, hp2, _⟩ := tbl_bd hT
  have hl3 : l.length + 1 + H.length ≤ 65536 := by omega
  clear hC hT
  replace hv := hide hv
  replace hok := hide hok
  replace hlen := hide hlen
  go_enter Try.func35, Try.ntmps35
  have g1 : Blk (w.alloc (.cells #[.int .u64 p, .int .i64 pub, .int .i64 vars, .slice ra R.length rc, .int .i64 sec, .slice ha H.length hc] 37)) w.heap.size #[.int .u64 p, .int .i64 pub, .int .i64 vars, .slice ra R.length rc, .int .i64 sec, .slice ha H.length hc] 37 := Blk.newAt rfl
  have hB1 : Below w.heap.size w (w.alloc (.cells #[.int .u64 p, .int .i64 pub, .int .i64 vars, .slice ra R.length rc, .int .i64 sec, .slice ha H.length hc] 37)) := (Below.refl _ _).alloc (Nat.le_refl _) _
  have own1 : Own ((w.alloc (.cells #[.int .u64 p, .int .i64 pub, .int .i64 vars, .slice ra R.length rc, .int .i64 sec, .slice ha H.length hc] 37)).alloc (.cells #[.int .u64 1] 22)) w.heap.size 22 .u64 (.slice (some ⟨w.heap.size + 1, 0, none⟩) 1 1) [1] := Own.of_blk (xs := [1]) (by omega) (Blk.newAt (by simp)) (by simp) (by simp [maxLen]) rfl rfl
  have hl1 := (hl.mono hB1).alloc (.cells #[.int .u64 1] 22)
  have g2 := g1.alloc (.cells #[.int .u64 1] 22)
  have hB2 := hB1.alloc hB1.size (.cells #[.int .u64 1] 22)
  go_wp2_with (at_builtin; refine wpList_app _ rfl _ _ 54 rfl w.heap.size 22 .u64 8 Try.underlying54 Try.infoU64 (by decide) _ [1] l lc _ rfl rfl own1 hl1 (by simp; omega) hB2.size ?_; intro v4 w4 own4 hg4; refine Hold.mk ?_)
  refine Hold.go ?_
  obtain ⟨L0, hL0⟩ : ∃ L0, L0 = 1 :: l := ⟨_, rfl⟩
  have S0 : CompSt w w4 w.heap.size #[.int .u64 p, .int .i64 pub, .int .i64 vars, .slice ra R.length rc, .int .i64 sec, .slice ha H.length hc] v4 L0 := ⟨hg4.below hB2 own1 (Nat.le_refl _) hB2.size, hg4.blk g2 (own_neq own1 g2 (by decide)), by rw [hL0]; simpa using own4⟩
  have hL0W : AllW L0 := fun x hx => by
    rw [hL0] at hx
    rcases List.mem_cons.1 hx with h1 | h1
    · rw [h1]; decide
    · exact hA x h1
  have hL0l : L0.length = 1 + l.length := by rw [hL0]; simp; omega
  have hres : ∀ e w', RetSl w 22 .u64 (runH p L0 H) e w' → RetSl w 22 .u64 (runH p (1 :: l) H) e w' := fun e w' h => by rw [← hL0]; exact h
  clear hL0 own4 hg4 own1 g1 g2 hB1 hB2 hl1 hl hA
  have hg0 := S0.c.lt
  go_wp2_with fail
  go_loopw [6, 7] (fun t6 t7 wr => ∃ k : Nat, k ≤ H.length ∧ t7 = .int .i64 k ∧ CompSt w wr w.heap.size #[.int .u64 p, .int .i64 pub, .int .i64 vars, .slice ra R.length rc, .int .i64 sec, .slice ha H.length hc] t6 (runH p L0 (H.take k))) (fun _ t7 _ => H.length - (intOf t7).toNat)
  case atStart => exact ⟨0, Nat.zero_le _, rfl, S0⟩
  case round =>
    clear S0 hg0
    obtain ⟨k, hk, rfl, S⟩ := hrel
    have gr := S.c
    have k0 := gr.cell (j := 0) (v := .int .u64 p) rfl; have k1 := gr.cell (j := 1) (v := .int .i64 pub) rfl; have k2 := gr.cell (j := 2) (v := .int .i64 vars) rfl; have k3 := gr.cell (j := 3) (v := .slice ra R.length rc) rfl; have k4 := gr.cell (j := 4) (v := .int .i64 sec) rfl; have k5 := gr.cell (j := 5) (v := .slice ha H.length hc) rfl
    by_cases hlt : k < H.length
    · have hlt' : (k : Int) < H.length := by omega
      have hH' := hH.mono S.b
      obtain ⟨b, off, e, _, hc⟩ := hH'.s (by omega)
      obtain ⟨hc0, hc1, hc2, hc3⟩ := hc k hlt
      obtain ⟨hx, hy, _, _⟩ := hH'.ok _ (getD_mem' hlt default)
      have hst := runH_step p L0 H hlt
      obtain ⟨hlin, hcs⟩ := hint_cases (hok.out k hlt)
      have hMl := runH_len p L0 (H.take k)
      rw [List.length_take] at hMl
      have hMW : AllW (runH p L0 (H.take k)) := runH_mem (fun W h => hval_bd p W h) hL0W _
      obtain ⟨N, hN⟩ : ∃ N, N = runH p L0 (H.take (k + 1)) := ⟨_, rfl⟩
      rw [← hN] at hst
      generalize runH p L0 (H.take k) = M at *
      have hMl2 : M.length ≤ 65536 := by omega
      have hMl3 : (M.length : Int) = 1 + pub + sec + k := by have := hlen.out; omega
      clear hc hH' hok hMl
      generalize H.getD k default = r at *
      obtain ⟨kk, x, y, bit⟩ := r
      simp only at hc0 hc1 hc2 hc3 hx hy hcs hlin
      obtain ⟨a9, c9, rfl, hM, _, _⟩ := Own.sl S.o
      have hBw := (Below.refl wr.heap.size wr).alloc (Nat.le_refl _) (.cells #[.int .i64 kk, .slice x.ad x.l.length x.cap, .slice y.ad y.l.length y.cap, .int .i64 bit] 108)
      have gT : Blk (wr.alloc (.cells #[.int .i64 kk, .slice x.ad x.l.length x.cap, .slice y.ad y.l.length y.cap, .int .i64 bit] 108)) wr.heap.size #[.int .i64 kk, .slice x.ad x.l.length x.cap, .slice y.ad y.l.length y.cap, .int .i64 bit] 108 := Blk.newAt rfl
      replace S := S.mono hBw
      replace hx := hx.mono hBw
      replace hy := hy.mono hBw
      replace hM := hM.mono hBw
      clear hBw
      subst e
      replace hst := hide hst
      replace hN := hide hN
      replace hlin := hide hlin
      replace hMl3 := hide hMl3
      go_wp2_with fail
      generalize wr.alloc (.cells #[.int .i64 kk, .slice x.ad x.l.length x.cap, .slice y.ad y.l.length y.cap, .int .i64 bit] 108) = W at *
      have vb := lval_bd p M x.l
      have h1 := fun e => hval1 (p := p) (W := M) (h := ⟨kk, x, y, bit⟩) e
      have h2 := fun e => hval2 (p := p) (W := M) (h := ⟨kk, x, y, bit⟩) e
      have h3 := fun e => hval3 (p := p) (W := M) (h := ⟨kk, x, y, bit⟩) e
      simp only at h1 h2 h3
      refine (rValue20_any p x a9 c9 M W hx hM hMW (fun i hi => by have := (of_decide_eq_true hlin.out i hi).1; have := hMl3.out; omega)).mono ?_
      rintro e w8 ⟨rfl, hb8⟩
      generalize lval p M x.l = va at *
      replace S := S.mono hb8
      replace hy := hy.mono hb8
      replace hM := hM.mono hb8
      replace gT := gT.mono hb8
      clear hx hb8 hc0 hc1 hc2 hc3 k0 k1 k2 k3 k4 k5 hlin gr
      have t0 := gT.cell (j := 0) (v := .int .i64 kk) rfl
      have t2 := gT.cell (j := 2) (v := .slice y.ad y.l.length y.cap) rfl
      rcases hcs with ⟨e1, hly⟩ | e1 | ⟨e1, e2, e3⟩
      · have hvl := hide (h1 e1)
        subst e1
        have hMl4 := hMl3.out
        clear h1 h2 h3
        go_wp2_with fail
        replace hly := hide hly
        refine (rValue20_any p y a9 c9 M w8 hy hM hMW (fun i hi => by have := (of_decide_eq_true hly.out i hi).1; omega)).mono ?_
        rintro e w5 ⟨rfl, hb5⟩
        have vby := lval_bd p M y.l
        generalize lval p M y.l = vb2 at *
        have cm := fun W => rMul_any p va vb2 W vb.1 vb.2 vby.1 vby.2
        generalize fmul p va vb2 = vm at *
        replace S := S.mono hb5
        clear hb5 t0 t2 gT hy hM hly
        go_wp2_with fail
        refine (cm w5).mono ?_
        rintro e w6 ⟨rfl, hb6⟩
        replace S := S.mono hb6
        clear hb6 cm
        go_wp2_with (at_builtin; refine wpList_appX _ 22 .u64 _ rfl _ _ 54 rfl w.heap.size 8 Try.underlying54 Try.infoU64 (by decide) _ M _ rfl rfl (by simp) S.o (by omega) S.b.size ?_; intro v9 w9 own9 hg9; refine Hold.mk ?_)
        refine Hold.go ?_
        replace S := S.grew hg9 own9
        clear own9 hg9
        go_wp2
        go_roundw
        case rel => exact ⟨k + 1, by omega, by go_num, by rw [← hN.out, hst.out, hvl.out]; exact S⟩
        case measure => simp [intOf]; omega
      · have hvl := hide (h2 e1)
        subst e1
        clear h1 h2 h3 t2
        have ib := finv_bd p va
        have ci := rInv_any p va w8 vb.1 vb.2
        generalize finv p va = vi at *
        go_wp2_with fail
        refine ci.mono ?_
        rintro e w5 ⟨rfl, hb5⟩
        replace S := S.mono hb5
        clear hb5 ci t0 gT hy hM
        go_wp2_with (at_builtin; refine wpList_appX _ 22 .u64 _ rfl _ _ 54 rfl w.heap.size 8 Try.underlying54 Try.infoU64 (by decide) _ M _ rfl rfl (by simp) S.o (by omega) S.b.size ?_; intro v9 w9 own9 hg9; refine Hold.mk ?_)
        refine Hold.go ?_
        replace S := S.grew hg9 own9
        clear own9 hg9
        go_wp2
        go_roundw
        case rel => exact ⟨k + 1, by omega, by go_num, by rw [← hN.out, hst.out, hvl.out]; exact S⟩
        case measure => simp [intOf]; omega
      · have hvl := hide (h3 e1)
        subst e1
        clear h1 h2 h3 t2
        obtain ⟨q, rfl⟩ := Int.eq_ofNat_of_zero_le vb.1
        obtain ⟨i, rfl⟩ := Int.eq_ofNat_of_zero_le e2
        have hbt : ((q : Int) / 2 ^ i).tmod 2 = ((q / 2 ^ i % 2 : Nat) : Int) := by
          rw [show ((2 : Int) ^ i) = ((2 ^ i : Nat) : Int) from (Int.natCast_pow 2 i).symm, ← Int.natCast_ediv]
          rfl
        have hvl2 := hide (show hval p M ⟨3, x, y, (i : Int)⟩ = ((q / 2 ^ i % 2 : Nat) : Int) by
          rw [hvl.out, Int.toNat_natCast, show ((2 : Int) ^ i) = ((2 ^ i : Nat) : Int) from (Int.natCast_pow 2 i).symm]
          omega)
        clear hvl
        have hvl := hvl2
        clear hvl2
        have t3 := gT.cell (j := 3) (v := .int .i64 i) rfl
        have hb2 : q / 2 ^ i % 2 < 2 := Nat.mod_lt _ (by decide)
        generalize q / 2 ^ i % 2 = bt at *
        clear hy hM
        go_wp2_with (at_builtin; refine wpList_appX _ 22 .u64 _ rfl _ _ 54 rfl w.heap.size 8 Try.underlying54 Try.infoU64 (by decide) _ M _ rfl rfl (by simp) S.o (by omega) S.b.size ?_; intro v9 w9 own9 hg9; refine Hold.mk ?_)
        refine Hold.go ?_
        replace S := S.grew hg9 own9
        clear own9 hg9
        go_wp2
        go_roundw
        case rel => exact ⟨k + 1, by omega, by go_num, by rw [← hN.out, hst.out, hvl.out]; exact S⟩
        case measure => simp [intOf]; omega
    · obtain rfl : k = H.length := by omega
      have hT := hide (show H.take H.length = H from List.take_length)
      go_wp2
      go_ret
      exact hres _ _ ⟨_, rfl, by have := S.o; rw [hT.out] at this; exact this, S.b⟩
end Go.Proofs.Ytlgjnidphldiiaa
