/- Gadgets: New and Input of the program. -/
import Derived.Test.YtlgjnidphldiiaaGadIL
import Derived.Test.YtlgjnidphldiiaaCircV
namespace Go.Proofs.Ytlgjnidphldiiaa
open Go.RowKit

/-- A new circuit. -/
def newS (p pub sec : Int) : St := ⟨p, pub, 1 + pub + sec, [], sec, []⟩
def newE (p pub sec : Int) : Int := if vld p then (if 0 ≤ pub ∧ pub ≤ 65535 ∧ 0 ≤ sec ∧ pub + sec ≤ 65535 then 0 else 1) else 7
/-- What New returns. -/
def RetNew (w : World) (p pub sec : Int) (e : Ending) (w' : World) : Prop := ∃ b, e = .returned (.tuple #[.pointer (some ⟨b, 0, none⟩), .int .i64 0]) ∧ Bld w' w.heap.size b (newS p pub sec) ∧ Below w.heap.size w w'

set_option maxHeartbeats 2000000 in
theorem New20_ok (p pub sec : Int) (w : World) (hv : vld p = true) (h : 0 ≤ pub ∧ pub ≤ 65535 ∧ 0 ≤ sec ∧ pub + sec ≤ 65535) :
    Calls Try.prog 15 #[.int .u64 p, .int .i64 pub, .int .i64 sec] w (RetNew w p pub sec) := by
  have cV := fun W => valid_any p W
  rw [hv] at cV
  obtain ⟨h1, h2, h3, h4⟩ := h
  go_enter Try.func15, Try.ntmps15
  go_wp2_with fail
  refine name_calls fun w1 hN => ?_
  have g1 : Blk w1 w.heap.size #[.int .u64 p] 102 := by rw [hN]; exact Blk.newAt rfl
  have hb1 : Below w.heap.size w w1 := by rw [hN]; exact (Below.refl _ _).alloc (Nat.le_refl _) _
  clear hN
  refine (cV _).mono ?_
  rintro e w2 ⟨rfl, hb⟩
  replace g1 := g1.mono hb
  replace hb1 := below2 hb1 hb
  have f0 := g1.cell (j := 0) (v := .int .u64 p) rfl
  have l1 := g1.lt
  clear hb cV
  go_wp2
  go_ret2
  have gb : Blk ((w2.alloc (.cells #[.int .u64 p, .int .i64 pub, .int .i64 (1 + pub + sec), .slice none 0 0] 34)).alloc (.cells #[.int .u64 p, .int .u64 p, .int .i64 pub, .int .i64 (1 + pub + sec), .slice none 0 0, .int .i64 sec, .slice none 0 0] 104)) (w2.heap.size + 1) #[.int .u64 p, .int .u64 p, .int .i64 pub, .int .i64 (1 + pub + sec), .slice none 0 0, .int .i64 sec, .slice none 0 0] 104 := Blk.newAt (by simp)
  refine ⟨w2.heap.size + 1, rfl, ⟨_, [], _, [], ⟨gb, ?_, OwnG.nil _ _ _ _, OwnG.nil _ _ _ _, (fun r hr => by cases hr), (fun r hr => by cases hr), rfl, rfl, (fun r hr => by cases hr), (fun r hr => by cases hr)⟩⟩, (hb1.alloc hb1.size _).alloc (by have := hb1.size; simp; omega) _⟩
  have := hb1.size
  omega

set_option maxHeartbeats 2000000 in
theorem New20_no (p pub sec : Int) (w : World) (hq : (Lit.int .i64 pub).wf = true ∧ (Lit.int .i64 sec).wf = true) (h : newE p pub sec ≠ 0) :
    Calls Try.prog 15 #[.int .u64 p, .int .i64 pub, .int .i64 sec] w fun e w' => e = .returned (.tuple #[.pointer none, .int .i64 (newE p pub sec)]) ∧ Below w.heap.size w w' := by
  have cV := fun W => valid_any p W
  have hE : newE p pub sec = if vld p then (if 0 ≤ pub ∧ pub ≤ 65535 ∧ 0 ≤ sec ∧ pub + sec ≤ 65535 then 0 else 1) else 7 := rfl
  have b1 := wf_i hq.1
  have b2 := wf_i hq.2
  clear hq
  cases hv : vld p with
  | false =>
    rw [hv] at cV hE
    rw [hE, if_neg (by decide)]
    clear hE h b1 b2
    go_enter Try.func15, Try.ntmps15
    go_wp2_with fail
    refine name_calls fun w1 hN => ?_
    have hb1 : Below w.heap.size w w1 := by rw [hN]; exact (Below.refl _ _).alloc (Nat.le_refl _) _
    clear hN
    refine (cV _).mono ?_
    rintro e w2 ⟨rfl, hb⟩
    go_wp2
    go_ret2
    exact ⟨rfl, below2 hb1 hb⟩
  | true =>
    rw [hv] at cV hE
    have hno : ¬ (0 ≤ pub ∧ pub ≤ 65535 ∧ 0 ≤ sec ∧ pub + sec ≤ 65535) := fun hh => h (by rw [hE, if_pos rfl, if_pos hh])
    rw [hE, if_pos rfl, if_neg hno]
    clear hE h
    have hc : pub < 0 ∨ (0 ≤ pub ∧ 65535 < pub) ∨ (0 ≤ pub ∧ pub ≤ 65535 ∧ sec < 0) ∨ (0 ≤ pub ∧ pub ≤ 65535 ∧ 0 ≤ sec ∧ 65535 - pub < sec) := by omega
    clear hno
    rcases hc with c1 | ⟨c1, c2⟩ | ⟨c1, c2, c3⟩ | ⟨c1, c2, c3, c4⟩
    all_goals
      go_enter Try.func15, Try.ntmps15
      go_wp2_with fail
      refine name_calls fun w1 hN => ?_
      have hb1 : Below w.heap.size w w1 := by rw [hN]; exact (Below.refl _ _).alloc (Nat.le_refl _) _
      clear hN
      refine (cV _).mono ?_
      rintro e w2 ⟨rfl, hb⟩
      go_wp2
      go_ret2
      exact ⟨rfl, below2 hb1 hb⟩

set_option maxHeartbeats 2000000 in
theorem Input20_any (b : Nat) (cs : Array Value) (T : TypeId) (p pub sec i : Int) (w : World) (g : Blk w b cs T) (h0 : cs[0]? = some (.int .u64 p)) (h2 : cs[2]? = some (.int .i64 pub)) (h5 : cs[5]? = some (.int .i64 sec)) (hv : vld p = true) (hb : 0 ≤ pub ∧ 0 ≤ sec ∧ pub + sec ≤ 65535) (hi : (Lit.int .i64 i).wf = true) :
    Calls Try.prog 20 #[.pointer (some ⟨b, 0, none⟩), .int .i64 i] w (RetLn w (if 0 ≤ i ∧ i < pub + sec then [(1 + i, 1)] else [])) := by
  have hi2 := wf_i hi
  obtain ⟨b1, b2, b3⟩ := hb
  have k2 := cell_later' (g.cell h2)
  have k5 := cell_later' (g.cell h5)
  have hw : IntKind.i64.wrap (pub + sec) = pub + sec := by rw [IntKind.wrap_i64]; omega
  by_cases h : i < 0
  · rw [if_neg (by omega)]
    have hd : decide (i < 0) = true := decide_eq_true h
    go_enter Try.func20, Try.ntmps20
    go_wp2_with fail
    refine wp_region_later Try.mixed (by kernel_rfl) ?_
    repeat (first | go_big_quiet_step (first | fail) | quiet_step (first | fail))
    refine wpQuiet_nil ?_
    intro w1 hb1
    replace hb1 := below_of_later hb1
    go_wp2
    go_ret
    exact RetLn.nil w hb1
  · have hd : decide (i < 0) = false := decide_eq_false h
    have hge : 0 ≤ i := by omega
    by_cases h3 : i < pub + sec
    · rw [if_pos ⟨by omega, h3⟩]
      have hd2 : decide (pub + sec ≤ i) = false := decide_eq_false (by omega)
      have cV := fun W hb => variable20_any b cs T p (1 + i) W (g.mono hb) h0 hv (wfI ⟨by omega, by omega⟩)
      go_enter Try.func20, Try.ntmps20
      go_wp2_with fail
      refine wp_region_later Try.mixed (by kernel_rfl) ?_
      repeat (first | go_big_quiet_step (first | fail) | quiet_step (first | fail))
      refine wpQuiet_nil ?_
      intro w1 hb1
      replace hb1 := below_of_later hb1
      clear hd hd2 k2 k5 hw
      go_wp2_with fail
      refine (cV w1 hb1).mono ?_
      rintro e w2 ⟨s, rfl, es, hs, hb2⟩
      go_wp2
      go_ret
      exact ⟨s, rfl, es, hs, below2 hb1 hb2⟩
    · rw [if_neg (by omega)]
      have hd2 : decide (pub + sec ≤ i) = true := decide_eq_true (by omega)
      go_enter Try.func20, Try.ntmps20
      go_wp2_with fail
      refine wp_region_later Try.mixed (by kernel_rfl) ?_
      repeat (first | go_big_quiet_step (first | fail) | quiet_step (first | fail))
      refine wpQuiet_nil ?_
      intro w1 hb1
      replace hb1 := below_of_later hb1
      go_wp2
      go_ret
      exact RetLn.nil w hb1
end Go.Proofs.Ytlgjnidphldiiaa
