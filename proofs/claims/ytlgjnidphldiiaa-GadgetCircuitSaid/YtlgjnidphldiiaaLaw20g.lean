/- GadgetCircuit: after any gadgets, the results and the circuit are the specified ones. -/
import Derived.Test.YtlgjnidphldiiaaRunB
import Derived.Test.YtlgjnidphldiiaaRefR
import Derived.Test.YtlgjnidphldiiaaSameC
import Derived.Test.YtlgjnidphldiiaaHeadX
namespace Go.Proofs.Ytlgjnidphldiiaa
open Go.ChangeShapes Go.WideShapes Go.ChangeAt Go.RowKit
namespace gadgetCircuit

set_option maxRecDepth 10000 in
set_option maxHeartbeats 64000000 in
theorem walk (p pub sec : Int) (oa : Option Addr) (oc : Nat) (ops : List Op5) (w : World) (hp : (Lit.int .u64 p).wf = true ∧ isB pub ∧ isB sec) (SO : Ops5 w oa oc ops) :
    Calls Try.prog 6 #[.agg #[.int .u64 p, .int .u8 pub, .int .u8 sec, .slice oa ops.length oc]] w fun e w' => e = .returned (.bool true) ∧ Below w.heap.size w w' := by
  obtain ⟨_, ⟨pb1, pb2⟩, ⟨sb1, sb2⟩⟩ := hp
  have z1 : ops.length ≤ 9223372036854775807 := by
    have h1 := SO.le
    have h2 := SO.mx
    simp only [maxLen] at h2
    omega
  have cR := fun W => sRight_any p pub sec oa ops.length oc 12 W
  obtain ⟨r, hr⟩ : ∃ r, r = (vld p && decide (pub ≤ 4) && decide (sec ≤ 4) && decide ((ops.length : Int) ≤ 12)) := ⟨_, rfl⟩
  rw [← hr] at cR
  cases r with
  | false =>
    clear hr
    go_enter Try.func6, Try.ntmps6
    go_wp2_with fail
    refine name_calls fun W hN => ?_
    have g0 : Blk W w.heap.size #[.int .u64 p, .int .u8 pub, .int .u8 sec, .slice oa ops.length oc] 66 := by rw [hN]; exact Blk.newAt rfl
    have hB : Below w.heap.size w W := by rw [hN]; exact (Below.refl _ _).alloc (Nat.le_refl _) _
    clear hN
    refine (awake20 W).mono ?_
    rintro e w1 ⟨rfl, hb1⟩
    replace hB := below2 hB hb1
    replace g0 := g0.mono hb1
    have k0 := g0.cell (j := 0) (v := .int .u64 p) rfl
    have k1 := g0.cell (j := 1) (v := .int .u8 pub) rfl
    have k2 := g0.cell (j := 2) (v := .int .u8 sec) rfl
    have k3 := g0.cell (j := 3) (v := .slice oa ops.length oc) rfl
    go_wp2_with fail
    refine (cR w1).mono ?_
    rintro e w2 ⟨rfl, hb2⟩
    replace hB := below2 hB hb2
    replace g0 := g0.mono hb2
    clear k0 k1 k2 k3 cR hb1 hb2
    go_wp2_with fail
    refine (awake20 w2).mono ?_
    rintro e w3 ⟨rfl, hb3⟩
    go_wp2
    go_ret
    exact ⟨rfl, below2 hB hb3⟩
  | true =>
    have hr2 := hr.symm
    simp only [Bool.and_eq_true, decide_eq_true_eq] at hr2
    obtain ⟨⟨⟨hv, hb1⟩, hb2⟩, hb3⟩ := hr2
    clear hr
    have hpp := vld_pos hv
    obtain ⟨N, hN0⟩ : ∃ N : Nat, (N : Int) = pub + sec := ⟨(pub + sec).toNat, by omega⟩
    obtain ⟨Q, hQ⟩ : ∃ Q, Q = runO p ops (newS p pub sec, startL p (pub + sec).toNat) := ⟨_, rfl⟩
    have hRI : RI p pub sec (List.replicate N 0) Q.1 Q.2 (0 + ops.length) := by
      rw [hQ]
      exact RI.run ops (RI.start hv (fun x hx => by rw [List.eq_of_mem_replicate hx]; omega) ⟨pb1, hb1, sb1, hb2⟩ (by rw [List.length_replicate, hN0]))
    have cr := fun W h => run_any p pub sec oa oc ops W hv ⟨pb1, hb1, sb1, hb2⟩ (SO.mono h) (by omega)
    have cq := fun W h => rRun_any p pub sec oa oc ops W hv ⟨pb1, hb1, sb1, hb2⟩ (SO.mono h) (by omega)
    rw [← hQ] at cr cq
    obtain ⟨S, VL⟩ := Q
    have hbd := hRI.bd
    have hbv : S.vars ≤ 5000 := by have := hbd.v; simp only at this; omega
    have hbr : S.R.length ≤ 5000 := by have := hbd.r; simp only at this; omega
    have hbh : S.H.length ≤ 5000 := by have := hbd.h; simp only at this; omega
    have szR : SzR S.R := hRI.wf.szR (by show S.vars ≤ _; omega)
    have szH : SzH S.H := hRI.wf.szH (by show S.vars ≤ _; omega)
    have hVl : 3 ≤ VL.length ∧ VL.length ≤ 200 := by have := hRI.len; simp only at this; omega
    have hVb : Hid (∀ x ∈ VL, x.length ≤ 10000) := hide fun x hx => by have := hRI.lens hx; omega
    have hSp : Hid (S.p = p) := hide hRI.pp
    replace hRI := hide hRI
    replace hN0 := hide hN0
    replace hQ := hide hQ
    replace hv := hide hv
    clear hbd
    go_enter Try.func6, Try.ntmps6
    go_wp2_with fail
    refine name_calls fun W hN => ?_
    have g0 : Blk W w.heap.size #[.int .u64 p, .int .u8 pub, .int .u8 sec, .slice oa ops.length oc] 66 := by rw [hN]; exact Blk.newAt rfl
    have hB : Below w.heap.size w W := by rw [hN]; exact (Below.refl _ _).alloc (Nat.le_refl _) _
    clear hN
    refine (awake20 W).mono ?_
    rintro e w1 ⟨rfl, hb1⟩
    replace hB := below2 hB hb1
    replace g0 := g0.mono hb1
    have k0 := g0.cell (j := 0) (v := .int .u64 p) rfl
    have k1 := g0.cell (j := 1) (v := .int .u8 pub) rfl
    have k2 := g0.cell (j := 2) (v := .int .u8 sec) rfl
    have k3 := g0.cell (j := 3) (v := .slice oa ops.length oc) rfl
    go_wp2_with fail
    refine (cR w1).mono ?_
    rintro e w2 ⟨rfl, hb2⟩
    replace hB := below2 hB hb2
    replace g0 := g0.mono hb2
    clear k0 k1 k2 k3 cR hb1 hb2
    have k0 := g0.cell (j := 0) (v := .int .u64 p) rfl
    have k1 := g0.cell (j := 1) (v := .int .u8 pub) rfl
    have k2 := g0.cell (j := 2) (v := .int .u8 sec) rfl
    have k3 := g0.cell (j := 3) (v := .slice oa ops.length oc) rfl
    go_wp2_with fail
    refine (cr w2 hB).mono ?_
    rintro e w3 ⟨b, lv, Ls, rfl, hB3, ow, hls, eLs, hb3⟩
    obtain ⟨n, hn⟩ : ∃ n, n = VL.length := ⟨_, rfl⟩
    have hn1 : Ls.length = n := by have := congrArg List.length eLs.out; rw [List.length_map] at this; simp only at this; omega
    obtain ⟨va, vc, ve, _⟩ := ow.sl
    rw [hn1] at ve
    subst ve
    replace hn := hide hn
    replace hn1 := hide hn1
    replace hB := below2 hB hb3
    replace g0 := g0.mono hb3
    clear k0 k1 k2 k3 cr hb3
    have k0 := g0.cell (j := 0) (v := .int .u64 p) rfl
    have k1 := g0.cell (j := 1) (v := .int .u8 pub) rfl
    have k2 := g0.cell (j := 2) (v := .int .u8 sec) rfl
    have k3 := g0.cell (j := 3) (v := .slice oa ops.length oc) rfl
    go_wp2_with fail
    refine (cq w3 hB).mono ?_
    rintro e w4 ⟨b', lv', Ls', rfl, hB4, ow', hls', eLs', hb4⟩
    have hn2 : Ls'.length = n := by have := congrArg List.length eLs'.out; have := hn.out; rw [List.length_map] at *; simp only at *; omega
    obtain ⟨va', vc', ve', _⟩ := ow'.sl
    rw [hn2] at ve'
    subst ve'
    replace hB := below2 hB hb4
    replace hB3 := hB3.mono hb4
    replace ow := ow.mono hb4
    replace hls := fun s h => (hls s h).mono hb4
    have hEq : Hid (∀ i, i < n → i < Ls.length ∧ i < Ls'.length ∧ (Ls.getD i default).l = (Ls'.getD i default).l ∧ (Ls.getD i default).l.length ≤ 10000) := hide fun i hi => by
      have hn1 := hn1.out
      have hn := hn.out
      have h1 := getD_map' Lc.l Ls i default [] (by omega)
      have h2 := getD_map' Lc.l Ls' i default [] (by omega)
      rw [eLs.out] at h1
      rw [eLs'.out] at h2
      refine ⟨by omega, by omega, h1.symm.trans h2, ?_⟩
      rw [← h1]
      exact hVb.out _ (getD_mem' (by show i < VL.length; omega) [])
    rcases ow.form with ⟨_, h0⟩ | ⟨g, cp, cur, e4, _⟩
    · have hn1 := hn1.out; have hn := hn.out; rw [h0] at hn1; simp at hn1; omega
    obtain rfl : va = some ⟨g, 0, none⟩ := by injection e4
    rcases ow'.form with ⟨_, h0⟩ | ⟨g', cp', cur', e4', _⟩
    · have hn := hn.out; rw [h0] at hn2; simp at hn2; omega
    obtain rfl : va' = some ⟨g', 0, none⟩ := by injection e4'
    clear e4 e4'
    have hn200 : n ≤ 200 := by have := hn.out; omega
    replace hn2 := hide hn2
    clear k0 k1 k2 k3 cq hb4 g0
    obtain ⟨vr, R', vh, H', B4⟩ := hB4
    have lR' : R'.length = S.R.length := by have := congrArg List.length B4.rv; rw [List.length_map] at this; exact this
    have lH' : H'.length = S.H.length := by have := congrArg List.length B4.hv; rw [List.length_map] at this; exact this
    obtain ⟨nR, hnR⟩ : ∃ nR, nR = S.R.length := ⟨_, rfl⟩
    obtain ⟨nH, hnH⟩ : ∃ nH, nH = S.H.length := ⟨_, rfl⟩
    obtain ⟨ra', rc', ve1, sR', q1, q2, q3⟩ := B4.rows.sl
    obtain ⟨ha', hc', ve2, sH', q4, q5, q6⟩ := B4.hints.sl
    have hR' : RowsP w4 ra' rc' R' := RowsP.of_slg sR' (fun r hr => ⟨(B4.rok r hr).1.ok, (B4.rok r hr).2.1.ok, (B4.rok r hr).2.2.ok⟩) q1 q2 q3
    have hH' : HintsP w4 ha' hc' H' := HintsP.of_slg sH' (fun h hh => ⟨(B4.hok h hh).1.ok, (B4.hok h hh).2.1.ok, (B4.hok h hh).2.2⟩) q4 q5 q6
    have gB' := B4.blk
    have eR' := hide B4.rv
    have eH' := hide B4.hv
    rw [lR', ← hnR] at ve1
    rw [lH', ← hnH] at ve2
    subst ve1 ve2
    have cC := Circuit20_any w2.heap.size b S
    have hnR5 : nR ≤ 100000 := by omega
    have hnH5 : nH ≤ 100000 := by omega
    have hSz : Hid (∀ R : List Rw, R.map Rw.val = S.R → R.length = nR ∧ ∀ r ∈ R, r.a.l.length ≤ 1000000000 ∧ r.b.l.length ≤ 1000000000 ∧ r.c.l.length ≤ 1000000000) := hide fun R e => by
      refine ⟨by have := congrArg List.length e; rw [List.length_map] at this; omega, fun r hr => ?_⟩
      have := szR r.val (by rw [← e]; exact List.mem_map_of_mem hr)
      show r.val.a.length ≤ _ ∧ r.val.b.length ≤ _ ∧ r.val.c.length ≤ _
      omega
    have hSh : Hid (∀ H : List Hn, H.map Hn.val = S.H → H.length = nH ∧ ∀ r ∈ H, r.a.l.length ≤ 1000000000 ∧ r.b.l.length ≤ 1000000000) := hide fun H e => by
      refine ⟨by have := congrArg List.length e; rw [List.length_map] at this; omega, fun r hr => ?_⟩
      have := szH r.val (by rw [← e]; exact List.mem_map_of_mem hr)
      show r.val.a.length ≤ _ ∧ r.val.b.length ≤ _
      omega
    have cC2 := fun W h => cC W h (by omega) (by omega) szR szH
    replace hnR := hide hnR
    replace hnH := hide hnH
    clear lR' lH' sR' sH' q1 q2 q3 q4 q5 q6 B4 cC szR szH hVb
    go_wp2_with fail
    refine Rel.region_any Try.mixed fun w5 hb5 => ?_
    replace hB := below2 hB hb5
    replace hB3 := hB3.mono hb5
    replace ow := ow.mono hb5
    replace hls := fun s h => (hls s h).mono hb5
    replace ow' := ow'.mono hb5
    replace hls' := fun s h => (hls' s h).mono hb5
    replace hR' := hR'.mono hb5
    replace hH' := hH'.mono hb5
    replace gB' := gB'.mono hb5
    clear hb5
    refine Rel.any_held (fun W => W.cell? ⟨b', 0, none⟩ = some (.int .u64 S.p) ∧ W.cell? ⟨b', 1, none⟩ = some (.int .i64 S.pub) ∧ W.cell? ⟨b', 2, none⟩ = some (.int .i64 S.vars) ∧ W.cell? ⟨b', 3, none⟩ = some (.slice ra' nR rc') ∧ W.cell? ⟨b', 4, none⟩ = some (.int .i64 S.sec) ∧ W.cell? ⟨b', 5, none⟩ = some (.slice ha' nH hc')) 14 ⟨gB'.cell (j := 0) rfl, gB'.cell (j := 1) rfl, gB'.cell (j := 2) rfl, gB'.cell (j := 3) rfl, gB'.cell (j := 4) rfl, gB'.cell (j := 5) rfl⟩ fun hH0 => ?_
    refine Rel.heldTake (v := ?_) 0 rfl (by kernel_rfl) (by kernel_rfl) (by kernel_rfl) (fun _ _ _ h => h) (by assumption) (by rfl) ?_ ?_
    rotate_left
    · (intro W hSw; (try dsimp only at hSw); go_simp; try with_reducible rfl)
    try simp only [Act.put, List.setIfInBounds_toArray, List.set_cons_zero, List.set_cons_succ]
    refine Rel.heldTake (v := ?_) 1 rfl (by kernel_rfl) (by kernel_rfl) (by kernel_rfl) (fun _ _ _ h => h) (by assumption) (by rfl) ?_ ?_
    rotate_left
    · (intro W hSw; (try dsimp only at hSw); go_simp; try with_reducible rfl)
    try simp only [Act.put, List.setIfInBounds_toArray, List.set_cons_zero, List.set_cons_succ]
    refine Rel.heldTake (v := ?_) 2 rfl (by kernel_rfl) (by kernel_rfl) (by kernel_rfl) (fun _ _ _ h => h) (by assumption) (by rfl) ?_ ?_
    rotate_left
    · (intro W hSw; (try dsimp only at hSw); go_simp; try with_reducible rfl)
    try simp only [Act.put, List.setIfInBounds_toArray, List.set_cons_zero, List.set_cons_succ]
    refine Rel.heldTake (v := ?_) 3 rfl (by kernel_rfl) (by kernel_rfl) (by kernel_rfl) (fun _ _ _ h => h) (by assumption) (by rfl) ?_ ?_
    rotate_left
    · (intro W hSw; (try dsimp only at hSw); go_simp; try with_reducible rfl)
    try simp only [Act.put, List.setIfInBounds_toArray, List.set_cons_zero, List.set_cons_succ]
    refine Rel.heldTake (v := ?_) 4 rfl (by kernel_rfl) (by kernel_rfl) (by kernel_rfl) (fun _ _ _ h => h) (by assumption) (by rfl) ?_ ?_
    rotate_left
    · (intro W hSw; (try dsimp only at hSw); go_simp; try with_reducible rfl)
    try simp only [Act.put, List.setIfInBounds_toArray, List.set_cons_zero, List.set_cons_succ]
    refine Rel.heldTake (v := ?_) 5 rfl (by kernel_rfl) (by kernel_rfl) (by kernel_rfl) (fun _ _ _ h => h) (by assumption) (by rfl) ?_ ?_
    rotate_left
    · (intro W hSw; (try dsimp only at hSw); go_simp; try with_reducible rfl)
    try simp only [Act.put, List.setIfInBounds_toArray, List.set_cons_zero, List.set_cons_succ]
    refine Rel.heldTake (v := ?_) 6 rfl (by kernel_rfl) (by kernel_rfl) (by kernel_rfl) (fun _ _ _ h => h) (by assumption) (by rfl) ?_ ?_
    rotate_left
    · (intro W hSw; (try dsimp only at hSw); go_simp; try with_reducible rfl)
    try simp only [Act.put, List.setIfInBounds_toArray, List.set_cons_zero, List.set_cons_succ]
    refine Rel.heldTake (v := ?_) 8 rfl (by kernel_rfl) (by kernel_rfl) (by kernel_rfl) (fun _ _ _ h => h) (by assumption) (by rfl) ?_ ?_
    rotate_left
    · (intro W hSw; (try dsimp only at hSw); go_simp; try with_reducible rfl)
    try simp only [Act.put, List.setIfInBounds_toArray, List.set_cons_zero, List.set_cons_succ]
    refine Rel.heldTake (v := ?_) 9 rfl (by kernel_rfl) (by kernel_rfl) (by kernel_rfl) (fun _ _ _ h => h) (by assumption) (by rfl) ?_ ?_
    rotate_left
    · (intro W hSw; (try dsimp only at hSw); go_simp; try with_reducible rfl)
    try simp only [Act.put, List.setIfInBounds_toArray, List.set_cons_zero, List.set_cons_succ]
    refine Rel.heldTake (v := ?_) 10 rfl (by kernel_rfl) (by kernel_rfl) (by kernel_rfl) (fun _ _ _ h => h) (by assumption) (by rfl) ?_ ?_
    rotate_left
    · (intro W hSw; (try dsimp only at hSw); go_simp; try with_reducible rfl)
    try simp only [Act.put, List.setIfInBounds_toArray, List.set_cons_zero, List.set_cons_succ]
    refine Rel.heldTake (v := ?_) 11 rfl (by kernel_rfl) (by kernel_rfl) (by kernel_rfl) (fun _ _ _ h => h) (by assumption) (by rfl) ?_ ?_
    rotate_left
    · (intro W hSw; (try dsimp only at hSw); go_simp; try with_reducible rfl)
    try simp only [Act.put, List.setIfInBounds_toArray, List.set_cons_zero, List.set_cons_succ]
    refine Rel.heldNext 7 rfl (by kernel_rfl) fun K hK => ?_
    go_simp
    refine (cC2 w5 hB3).mono ?_
    rintro e w6 ⟨ra, rc, R, ha, hc, H, he, hR, hH, eR, eH, hb6⟩
    obtain ⟨lR, sR⟩ := hSz.out R eR.out
    obtain ⟨lH, sH⟩ := hSh.out H eH.out
    rw [lR, lH] at he
    subst he
    replace hB := below2 hB hb6
    replace ow := ow.mono hb6
    replace hls := fun s h => (hls s h).mono hb6
    replace ow' := ow'.mono hb6
    replace hls' := fun s h => (hls' s h).mono hb6
    replace hR' := hR'.mono hb6
    replace hH' := hH'.mono hb6
    replace gB' := gB'.mono hb6
    have cS := rSameT_any S.p S.pub S.vars S.sec ra nR rc ha nH hc ra' rc' ha' hc' R R' H H' w6 hR hR' hH hH' (by rw [eR.out, eR'.out]) (by rw [eH.out, eH'.out]) lR lH hnR5 hnH5 sR sH
    refine hK.out _ _ ⟨gB'.cell (j := 0) rfl, gB'.cell (j := 1) rfl, gB'.cell (j := 2) rfl, gB'.cell (j := 3) rfl, gB'.cell (j := 4) rfl, gB'.cell (j := 5) rfl⟩ (fun hH1 => ?_)
    clear hK K
    try simp only [Act.put, List.setIfInBounds_toArray, List.set_cons_zero, List.set_cons_succ]
    clear lR lH sR sH cC2 hSz hSh
    refine Rel.heldNext 12 rfl (by kernel_rfl) fun K hK => ?_
    go_simp
    refine cS.mono ?_
    rintro e w7 ⟨rfl, hb7⟩
    replace hB := below2 hB hb7
    replace ow := ow.mono hb7
    replace hls := fun s h => (hls s h).mono hb7
    replace ow' := ow'.mono hb7
    replace hls' := fun s h => (hls' s h).mono hb7
    replace gB' := gB'.mono hb7
    refine hK.out _ _ ⟨gB'.cell (j := 0) rfl, gB'.cell (j := 1) rfl, gB'.cell (j := 2) rfl, gB'.cell (j := 3) rfl, gB'.cell (j := 4) rfl, gB'.cell (j := 5) rfl⟩ (fun hH2 => ?_)
    clear hK K
    try simp only [Act.put, List.setIfInBounds_toArray, List.set_cons_zero, List.set_cons_succ]
    refine Rel.heldTake (v := ?_) 13 rfl (by kernel_rfl) (by kernel_rfl) (by kernel_rfl) (fun _ _ _ h => h) (by assumption) (by rfl) ?_ ?_
    rotate_left
    · (intro W hSw; (try dsimp only at hSw); go_simp; try with_reducible rfl)
    try simp only [Act.put, List.setIfInBounds_toArray, List.set_cons_zero, List.set_cons_succ]
    refine Rel.heldLast 14 rfl (by kernel_rfl) rfl (by kernel_rfl) fun K hK => ?_
    go_simp
    refine hK.out _ _ ?_
    clear hK K hH0 hH1 hH2 gB' hR' hH' hR hH eR eH eR' eH' cS hb6 hb7 hB3
    go_wp2_with fail
    go_loopw [45] (fun t45 wr => ∃ j : Nat, j ≤ n ∧ t45 = .int .i64 j ∧ Below w7.heap.size w7 wr) (fun t45 _ => n - (intOf t45).toNat)
    case atStart => exact ⟨0, Nat.zero_le _, rfl, Below.refl _ _⟩
    case round =>
      obtain ⟨j, hj, rfl, hb⟩ := hrel
      by_cases hlt : j < n
      · have hlt' : (j : Int) < n := by omega
        obtain ⟨i1, i2, e1, l1⟩ := hEq.out j hlt
        have c1 := (ow.mono hb).cellE (i := j) (j := 0) default i1 (by decide) rfl
        have c2 := (ow'.mono hb).cellE (i := j) (j := 0) default i2 (by decide) rfl
        rw [show j * lcL.m + 0 = j from by show j * 1 + 0 = j; omega] at c1 c2
        have o1 := (hls _ (getD_mem' i1 default)).mono hb
        have o2 := (hls' _ (getD_mem' i2 default)).mono hb
        generalize Ls.getD j default = u at *
        generalize Ls'.getD j default = u' at *
        have cc1 := cell_later' (show wr.cell? ⟨g, j, none⟩ = some (.slice u.ad u.l.length u.cap) from c1)
        have cc2 := cell_later' (show wr.cell? ⟨g', j, none⟩ = some (.slice u'.ad u'.l.length u'.cap) from c2)
        have cS := fun P => SameLinT_any u u' (later wr P) (o1.mono (below_later _ _)).ok (o2.mono (below_later _ _)).ok (by omega) e1
        clear e1 o1 o2 c1 c2
        go_wp2_with fail
        refine wp_region_later Try.mixed (by kernel_rfl) ?_
        repeat (first | go_big_quiet_step (first | (go_at_call 19; exact Calls.later_of (cS _))) | quiet_step (first | (go_at_call 19; exact Calls.later_of (cS _))))
        refine wpQuiet_nil ?_
        intro w9 hb9
        replace hb9 := below_of_later hb9
        clear cc1 cc2 cS
        go_wp2
        go_roundw
        case rel => exact ⟨j + 1, by omega, by go_num, below2 hb hb9⟩
        case measure => simp [intOf]; omega
      · obtain rfl : j = n := by omega
        go_wp2
        go_ret
        exact ⟨rfl, below2 hB hb⟩

set_option maxRecDepth 100000 in
theorem lifted (os : Os) (started : os.Started) (H : Type) (enc : TypeId × Value → H) :
    ReturnsInHanded {} Try.checked os 6 .any (Rows.gadgetCircuitSpec.pre6 enc Try.prog Try.f6 Rows.gadgetCircuitRow.domain false) (Rows.gadgetCircuitSpec.post enc Try.prog Try.f6 false true false false) := by
  refine returnsInHanded_of_change (C := Try.checked) own started (by kernel_rfl) Try.func6
    (ChangeSpec.witness6 (enc := enc) (C := Try.checked) false ⟨#[], #[.agg #[.int .u64 0, .int .u8 0, .int .u8 0, .slice none 0 0]], []⟩ 8 (by kernel_rfl) (by kernel_rfl) (by kernel_rfl) (by kernel_rfl)) ?_
  intro W base args ds gs before hval0 hW hcnd _
  have hval : ∀ (j : Nat) t v, Try.f6.params[j]? = some t → args[j]? = some v → Value.okWide Try.prog W .any base t v := hval0
  have hW' := hW
  obtain ⟨p, q, hA0, hV, rfl, hfz, hnd⟩ := hW
  have hA : DataW.TrodAll enc Try.prog W 0 (fun _ => true) true Try.f6.params.toList args.toList ds p := hA0
  rw [Try.params6] at hA hval
  obtain ⟨v0, vs0, d0, ds0, p0, q0, hargs, rfl, rfl, h0, r0⟩ := trodAll_cons hA
  obtain ⟨rfl, rfl, rfl⟩ := trodAll_nil r0
  obtain rfl : args = #[v0] := by cases args; simp_all
  obtain ⟨rfl, rfl⟩ := trodVars_none hV
  have k0 := h0
  obtain ⟨p0, pub0, sec0, ad0, cap0, ops0, rfl, wc0, hO0⟩ := open_script h0 (hval 0 66 v0 rfl rfl)
  clear hA0 hval0
  simp only [List.append_nil] at hW'
  refine (walk p0 pub0 sec0 ad0 cap0 ops0 W wc0 hO0).mono fun e W' ⟨he, hg⟩ => ?_
  subst he
  exact ⟨_, rfl, post_of_below (pv := []) hW' (fun _ _ _ => (trodAll_cons_mk (shut_bool Try.underlying4 _) trodAll_mk0))
    (fun sp _ hsp => by subst hsp; exact (trodAll_cons_mk (Below.trod Try.laidOut (by kernel_rfl) (of_decide_eq_true (by kernel_rfl)) k0 hg (fun x hx => hW'.lt x (by simp [hx]))) trodAll_mk0)) (fun _ _ => rfl) (by simp) hg⟩

theorem closed : joinedFacts Try.prog 6 Try.f6 Rows.gadgetCircuitSpec Rows.gadgetCircuitRow = true := by
  unfold joinedFacts
  rw [Try.mayEnter, Try.liftsFinal, Try.make]
  kernel_rfl

theorem proved : Rows.GadgetCircuitSaid :=
  OpenClaim.holds_of_wide 6 Try.f6 rfl rfl rfl rfl rfl rfl rfl ⟨rfl, rfl, rfl, rfl, rfl⟩ rfl rfl rfl rfl rfl (by kernel_rfl) Try.func6 closed
    (of_decide_eq_true (by kernel_rfl)) (by unfold Func.isWrapper; first | (rw [if_pos (by decide +kernel)]; kernel_rfl) | (rw [if_neg (by decide +kernel)]; exact ⟨rfl, rfl⟩))
    (fun os started H enc _ => lifted os started H enc)
#print axioms proved
end gadgetCircuit
end Go.Proofs.Ytlgjnidphldiiaa
