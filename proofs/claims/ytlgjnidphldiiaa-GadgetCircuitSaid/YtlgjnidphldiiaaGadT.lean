/- Gadgets: New, Input, term of the reference; Same of two circuits without rows. -/
import Derived.Test.YtlgjnidphldiiaaGadQR
namespace Go.Proofs.Ytlgjnidphldiiaa
open Go.RowKit

set_option maxHeartbeats 1000000 in
theorem rTerm_any (v c : Int) (w : World) (hv : (Lit.int .i64 v).wf = true) (hc : (Lit.int .u64 c).wf = true) :
    Calls Try.prog 73 #[.int .i64 v, .int .u64 c] w (RetLn w (keepT (v, c))) := by
  by_cases h0 : c = 0
  · subst h0
    clear hv hc
    go_enter Try.func73, Try.ntmps73
    go_wp2
    go_ret
    exact RetLn.nil w (Below.refl _ _)
  · have hz : (c == 0) = false := by simpa using h0
    have hk : keepT (v, c) = [(v, c)] := by unfold keepT; rw [if_neg h0]
    rw [hk]
    replace h0 := hide h0
    replace hv := hide hv
    replace hc := hide hc
    clear hk
    go_enter Try.func73, Try.ntmps73
    go_wp2
    go_ret
    exact ⟨⟨some ⟨w.heap.size, 0, none⟩, 1, [(v, c)]⟩, rfl, hide rfl, LinT.one (Blk.newAt rfl) hv.out hc.out, (Below.refl _ _).alloc (Nat.le_refl _) _⟩

set_option maxHeartbeats 2000000 in
theorem rInput20_any (b : Nat) (cs : Array Value) (T : TypeId) (pub sec i : Int) (w : World) (g : Blk w b cs T) (h2 : cs[1]? = some (.int .i64 pub)) (h5 : cs[4]? = some (.int .i64 sec)) (hb : 0 ≤ pub ∧ 0 ≤ sec ∧ pub + sec ≤ 65535) (hi : (Lit.int .i64 i).wf = true) :
    Calls Try.prog 21 #[.pointer (some ⟨b, 0, none⟩), .int .i64 i] w (RetLn w (if 0 ≤ i ∧ i < pub + sec then [(1 + i, 1)] else [])) := by
  have hi2 := wf_i hi
  obtain ⟨b1, b2, b3⟩ := hb
  have k2 := cell_later' (g.cell h2)
  have k5 := cell_later' (g.cell h5)
  have hw : IntKind.i64.wrap (pub + sec) = pub + sec := by rw [IntKind.wrap_i64]; omega
  by_cases h : i < 0
  · rw [if_neg (by omega)]
    have hd : decide (i < 0) = true := decide_eq_true h
    go_enter Try.func21, Try.ntmps21
    go_wp2_with fail
    refine wp_region_later Try.mixed (by kernel_rfl) ?_
    repeat (first | go_big_quiet_step (first | fail) | quiet_step (first | fail))
    refine wpQuiet_nil ?_
    intro w1 hb1
    replace hb1 := below_of_later hb1
    go_wp2
    go_ret
    exact RetLn.nil w hb1
  · have hd : decide (i < 0) = false := decide_eq_false h
    have hge : 0 ≤ i := by omega
    by_cases h3 : i < pub + sec
    · rw [if_pos ⟨by omega, h3⟩]
      have hd2 : decide (pub + sec ≤ i) = false := decide_eq_false (by omega)
      have cV := fun W => rTerm_any (1 + i) 1 W (wfI ⟨by omega, by omega⟩) (by decide)
      rw [show keepT (1 + i, 1) = [(1 + i, 1)] from rfl] at cV
      go_enter Try.func21, Try.ntmps21
      go_wp2_with fail
      refine wp_region_later Try.mixed (by kernel_rfl) ?_
      repeat (first | go_big_quiet_step (first | fail) | quiet_step (first | fail))
      refine wpQuiet_nil ?_
      intro w1 hb1
      replace hb1 := below_of_later hb1
      clear hd hd2 k2 k5 hw
      go_wp2_with fail
      refine (cV w1).mono ?_
      rintro e w2 ⟨s, rfl, es, hs, hb2⟩
      go_wp2
      go_ret
      exact ⟨s, rfl, es, hs, below2 hb1 hb2⟩
    · rw [if_neg (by omega)]
      have hd2 : decide (pub + sec ≤ i) = true := decide_eq_true (by omega)
      go_enter Try.func21, Try.ntmps21
      go_wp2_with fail
      refine wp_region_later Try.mixed (by kernel_rfl) ?_
      repeat (first | go_big_quiet_step (first | fail) | quiet_step (first | fail))
      refine wpQuiet_nil ?_
      intro w1 hb1
      replace hb1 := below_of_later hb1
      go_wp2
      go_ret
      exact RetLn.nil w hb1

/-- The reference's new builder. -/
def RetRNew (w : World) (p pub sec : Int) (e : Ending) (w' : World) : Prop := ∃ b, e = .returned (.tuple #[.pointer (some ⟨b, 0, none⟩), .int .i64 0]) ∧ Blk w' b #[.int .u64 p, .int .i64 pub, .int .i64 (1 + pub + sec), .slice none 0 0, .int .i64 sec, .slice none 0 0] 40 ∧ Below w.heap.size w w'

set_option maxHeartbeats 2000000 in
theorem rNew20_ok (p pub sec : Int) (w : World) (hv : vld p = true) (h : 0 ≤ pub ∧ pub ≤ 65535 ∧ 0 ≤ sec ∧ pub + sec ≤ 65535) :
    Calls Try.prog 16 #[.int .u64 p, .int .i64 pub, .int .i64 sec] w (RetRNew w p pub sec) := by
  have cV := fun W => rValid_any p W
  rw [hv] at cV
  obtain ⟨h1, h2, h3, h4⟩ := h
  go_enter Try.func16, Try.ntmps16
  go_wp2_with fail
  refine (cV _).mono ?_
  rintro e w2 ⟨rfl, hb⟩
  clear cV
  go_wp2
  go_ret2
  exact ⟨w2.heap.size, rfl, Blk.newAt rfl, hb.alloc hb.size _⟩

set_option maxHeartbeats 4000000 in
theorem rNew20_no (p pub sec : Int) (w : World) (hq : (Lit.int .i64 pub).wf = true ∧ (Lit.int .i64 sec).wf = true) (h : newE p pub sec ≠ 0) :
    Calls Try.prog 16 #[.int .u64 p, .int .i64 pub, .int .i64 sec] w fun e w' => e = .returned (.tuple #[.pointer none, .int .i64 (newE p pub sec)]) ∧ Below w.heap.size w w' := by
  have cV := fun W => rValid_any p W
  have hE : newE p pub sec = if vld p then (if 0 ≤ pub ∧ pub ≤ 65535 ∧ 0 ≤ sec ∧ pub + sec ≤ 65535 then 0 else 1) else 7 := rfl
  have b1 := wf_i hq.1
  have b2 := wf_i hq.2
  clear hq
  cases hv : vld p with
  | false =>
    rw [hv] at cV hE
    rw [hE, if_neg (by decide)]
    clear hE h b1 b2
    go_enter Try.func16, Try.ntmps16
    go_wp2_with fail
    refine (cV _).mono ?_
    rintro e w2 ⟨rfl, hb⟩
    go_wp2
    go_ret2
    exact ⟨rfl, hb⟩
  | true =>
    rw [hv] at cV hE
    have hno : ¬ (0 ≤ pub ∧ pub ≤ 65535 ∧ 0 ≤ sec ∧ pub + sec ≤ 65535) := fun hh => h (by rw [hE, if_pos rfl, if_pos hh])
    rw [hE, if_pos rfl, if_neg hno]
    clear hE h
    have hc : pub < 0 ∨ (0 ≤ pub ∧ sec < 0) ∨ (0 ≤ pub ∧ 0 ≤ sec ∧ 65535 < pub) ∨ (0 ≤ pub ∧ pub ≤ 65535 ∧ 0 ≤ sec ∧ 65535 < sec) ∨ (0 ≤ pub ∧ pub ≤ 65535 ∧ 0 ≤ sec ∧ sec ≤ 65535 ∧ 65535 < pub + sec) := by omega
    clear hno
    rcases hc with c1 | ⟨c1, c2⟩ | ⟨c1, c2, c3⟩ | ⟨c1, c2, c3, c4⟩ | ⟨c1, c2, c3, c4, c5⟩
    all_goals
      go_enter Try.func16, Try.ntmps16
      go_wp2_with fail
      refine (cV _).mono ?_
      rintro e w2 ⟨rfl, hb⟩
      go_wp2
      go_ret2
      exact ⟨rfl, hb⟩

set_option maxRecDepth 10000 in
set_option maxHeartbeats 4000000 in
theorem rSame0_any (p pub vars sec : Int) (ra ha : Option Addr) (rc hc : Nat) (w : World) :
    Calls Try.prog 17 #[.agg #[.int .u64 p, .int .i64 pub, .int .i64 vars, .slice ra 0 rc, .int .i64 sec, .slice ha 0 hc], .agg #[.int .u64 p, .int .i64 pub, .int .i64 vars, .slice none 0 0, .int .i64 sec, .slice none 0 0]] w fun e w' => e = .returned (.bool true) ∧ Below w.heap.size w w' := by
  go_enter Try.func17, Try.ntmps17
  go_wp2_with fail
  go_loopw [5] (fun t5 wr => t5 = .int .i64 0 ∧ Below w.heap.size w wr ∧ Blk wr w.heap.size #[.int .u64 p, .int .i64 pub, .int .i64 vars, .slice ra 0 rc, .int .i64 sec, .slice ha 0 hc] 37) (fun t5 _ => 0)
  case atStart => exact ⟨rfl, ((Below.refl _ _).alloc (Nat.le_refl _) _).alloc (by simp) _, (Blk.newAt rfl).alloc _⟩
  case round =>
    obtain ⟨rfl, hb, g⟩ := hrel
    have k3 := g.cell (j := 3) (v := .slice ra 0 rc) rfl
    have k5 := g.cell (j := 5) (v := .slice ha 0 hc) rfl
    go_wp2_with fail
    clear k3 k5
    go_loopw [8] (fun t8 wr2 => t8 = .int .i64 0 ∧ Below w.heap.size w wr2 ∧ Blk wr2 w.heap.size #[.int .u64 p, .int .i64 pub, .int .i64 vars, .slice ra 0 rc, .int .i64 sec, .slice ha 0 hc] 37) (fun t8 _ => 0)
    case atStart => exact ⟨rfl, hb, g⟩
    case round =>
      clear hb g
      obtain ⟨rfl, hb, g⟩ := hrel
      have k5 := g.cell (j := 5) (v := .slice ha 0 hc) rfl
      go_wp2
      go_ret
      exact ⟨rfl, hb⟩
end Go.Proofs.Ytlgjnidphldiiaa
