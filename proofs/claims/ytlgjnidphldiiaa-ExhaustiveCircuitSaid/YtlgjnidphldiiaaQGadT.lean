/- Gadgets: New, Input, term of the reference; Same of two circuits without rows. -/
import Derived.Test.YtlgjnidphldiiaaQGadQR
namespace Go.Proofs.Ytlgjnidphldiiaa
open Go.RowKit

set_option maxHeartbeats 1000000 in
theorem rTerm_any (v c : Int) (w : World) (hv : (Lit.int .i64 v).wf = true) (hc : (Lit.int .u64 c).wf = true) :
    Calls Try.prog 73 #[.int .i64 v, .int .u64 c] w (RetLn w (keepT (v, c))) := by
  by_cases h0 : c = 0
  · subst h0
    clear hv hc
    go_enter Try.func73, Try.ntmps73
    go_wp2
    go_ret
    exact RetLn.nil w (Below.refl _ _)
  · have hz : (c == 0) = false := by simpa using h0
    have hk : keepT (v, c) = [(v, c)] := by unfold keepT; rw [if_neg h0]
    rw [hk]
    replace h0 := hide h0
    replace hv := hide hv
    replace hc := hide hc
    clear hk
    go_enter Try.func73, Try.ntmps73
    go_wp2
    go_ret
    exact ⟨⟨some ⟨w.heap.size, 0, none⟩, 1, [(v, c)]⟩, rfl, hide rfl, LinT.one (Blk.newAt rfl) hv.out hc.out, (Below.refl _ _).alloc (Nat.le_refl _) _⟩

set_option maxHeartbeats 2000000 in
theorem rInput20_any (b : Nat) (cs : Array Value) (T : TypeId) (pub sec i : Int) (w : World) (g : Blk w b cs T) (h2 : cs[1]? = some (.int .i64 pub)) (h5 : cs[4]? = some (.int .i64 sec)) (hb : 0 ≤ pub ∧ 0 ≤ sec ∧ pub + sec ≤ 65535) (hi : (Lit.int .i64 i).wf = true) :
    Calls Try.prog 21 #[.pointer (some ⟨b, 0, none⟩), .int .i64 i] w (RetLn w (if 0 ≤ i ∧ i < pub + sec then [(1 + i, 1)] else [])) := by
  have hi2 := wf_i hi
  obtain ⟨b1, b2, b3⟩ := hb
  have k2 := cell_later' (g.cell h2)
  have k5 := cell_later' (g.cell h5)
  have hw : IntKind.i64.wrap (pub + sec) = pub + sec := by rw [IntKind.wrap_i64]; omega
  by_cases h : i < 0
  · rw [if_neg (by omega)]
    have hd : decide (i < 0) = true := decide_eq_true h
    go_enter Try.func21, Try.ntmps21
    go_wp2_with fail
    refine wp_region_later Try.mixed (by kernel_rfl) ?_
    repeat (first | go_big_quiet_step (first | fail) | quiet_step (first | fail))
    refine wpQuiet_nil ?_
    intro w1 hb1
    replace hb1 := below_of_later hb1
    go_wp2
    go_ret
    exact RetLn.nil w hb1
  · have hd : decide (i < 0) = false := decide_eq_false h
    have hge : 0 ≤ i := by omega
    by_cases h3 : i < pub + sec
    · rw [if_pos ⟨by omega, h3⟩]
      have hd2 : decide (pub + sec ≤ i) = false := decide_eq_false (by omega)
      have cV := fun W => rTerm_any (1 + i) 1 W (wfI ⟨by omega, by omega⟩) (by decide)
      rw [show keepT (1 + i, 1) = [(1 + i, 1)] from rfl] at cV
      go_enter Try.func21, Try.ntmps21
      go_wp2_with fail
      refine wp_region_later Try.mixed (by kernel_rfl) ?_
      repeat (first | go_big_quiet_step (first | fail) | quiet_step (first | fail))
      refine wpQuiet_nil ?_
      intro w1 hb1
      replace hb1 := below_of_later hb1
      clear hd hd2 k2 k5 hw
      go_wp2_with fail
      refine (cV w1).mono ?_
      rintro e w2 ⟨s, rfl, es, hs, hb2⟩
      go_wp2
      go_ret
      exact ⟨s, rfl, es, hs, below2 hb1 hb2⟩
    · rw [if_neg (by omega)]
      have hd2 : decide (pub + sec ≤ i) = true := decide_eq_true (by omega)
      go_enter Try.func21, Try.ntmps21
      go_wp2_with fail
      refine wp_region_later Try.mixed (by kernel_rfl) ?_
      repeat (first | go_big_quiet_step (first | fail) | quiet_step (first | fail))
      refine wpQuiet_nil ?_
      intro w1 hb1
      replace hb1 := below_of_later hb1
      go_wp2
      go_ret
      exact RetLn.nil w hb1

end Go.Proofs.Ytlgjnidphldiiaa
