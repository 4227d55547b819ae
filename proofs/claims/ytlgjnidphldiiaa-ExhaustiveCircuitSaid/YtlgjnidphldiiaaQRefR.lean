/- Gadgets: Run of the reference. -/
import Derived.Test.YtlgjnidphldiiaaQRefH
import Derived.Test.YtlgjnidphldiiaaQRunD
namespace Go.Proofs.Ytlgjnidphldiiaa
open Go.RowKit

theorem rbNew_any (p pub sec : Int) (w : World) (hv : vld p = true) (h : 0 ≤ pub ∧ pub ≤ 65535 ∧ 0 ≤ sec ∧ pub + sec ≤ 65535) :
    Calls Try.prog 16 #[.int .u64 p, .int .i64 pub, .int .i64 sec] w fun e w' => ∃ b, e = .returned (.tuple #[.pointer (some ⟨b, 0, none⟩), .int .i64 0]) ∧ BlR w' w.heap.size b (newS p pub sec) ∧ Below w.heap.size w w' := by
  have cV := fun W => rValid_any p W
  rw [hv] at cV
  obtain ⟨h1, h2, h3, h4⟩ := h
  go_enter Try.func16, Try.ntmps16
  go_wp2_with fail
  refine (cV _).mono ?_
  rintro e w2 ⟨rfl, hb⟩
  clear cV
  go_wp2
  go_ret2
  exact ⟨w2.heap.size, rfl, ⟨_, [], _, [], Blk.newAt rfl, hb.size, OwnG.nil _ _ _ _, OwnG.nil _ _ _ _, (fun r hr => by cases hr), (fun r hr => by cases hr), rfl, rfl⟩, hb.alloc hb.size _⟩
theorem operand_any (n : Int) (ad : Option Addr) (c B : Nat) (Ls : List Lc) (i : Nat) (w : World) (hn : 0 ≤ n ∧ n < 256) (ow : OwnG lcL w B 44 (.slice ad Ls.length c) Ls) (hl : Ls.length ≤ 100000) (hi : (i : Int) = n % Ls.length) (h0 : 0 < Ls.length) :
    Calls Try.prog 85 #[.slice ad Ls.length c, .int .u8 n] w fun e w' => e = .returned (.slice (Ls.getD i default).ad (Ls.getD i default).l.length (Ls.getD i default).cap) ∧ Below w.heap.size w w' := by
  have hm := mod_lt' (show (0 : Int) < Ls.length by omega) n
  have hiL : i < Ls.length := by omega
  rcases ow.form with ⟨_, e0⟩ | ⟨g, cap, cur, e4, _⟩
  · rw [e0] at h0; simp at h0
  obtain rfl : ad = some ⟨g, 0, none⟩ := by injection e4
  have he := ow.cellE (i := i) (j := 0) default hiL (by decide) rfl
  rw [show i * lcL.m + 0 = i from by show i * 1 + 0 = i; omega] at he
  have he' : w.cell? ⟨g, i, none⟩ = some (.slice (Ls.getD i default).ad (Ls.getD i default).l.length (Ls.getD i default).cap) := he
  generalize Ls.getD i default = u at *
  have hL0 : (0 : Int) < Ls.length := by omega
  have t1 : n % (Ls.length : Int) = (i : Int) := hi.symm
  have t2 : n.tmod (Ls.length : Int) = (i : Int) := by rw [Int.tmod_eq_emod_of_nonneg hn.1, hi]
  have hiL' : (i : Int) < Ls.length := by omega
  have hn1 := hn.1
  have hn2 := hn.2
  replace hi := hide hi
  clear he hm hn
  go_enter Try.func85, Try.ntmps85
  go_wp2
  go_ret
  exact ⟨rfl, Below.refl _ _⟩
theorem SlG.oneL {w : World} {s : Lc} (c : Value) (hc : c = lcV s) : SlG lcL (w.alloc (.cells #[c] 44)) (some ⟨w.heap.size, 0, none⟩) [s] := SlG.one (Blk.new _ _ _) (by rw [hc]; rfl)

/-- The state of Run. -/
structure RS (w wr : World) (b : Nat) (p pub sec : Int) (la : Option Addr) (n lc : Nat) (S : St) (v : Value) (Ls : List Lc) : Prop where
  below : Below w.heap.size w wr
  bld : BlR wr w.heap.size b S
  ow : OwnG lcL wr w.heap.size 44 v Ls
  ls : ∀ s ∈ Ls, LinT wr s
  g0 : Blk wr w.heap.size #[.int .u64 p, .int .u8 pub, .int .u8 sec, .slice la n lc] 66
section
variable {w wr w' : World} {b : Nat} {p pub sec : Int} {la : Option Addr} {n lc : Nat} {S S' : St} {v v' : Value} {Ls : List Lc}
theorem RS.mono (h : RS w wr b p pub sec la n lc S v Ls) (hb : Below wr.heap.size wr w') : RS w w' b p pub sec la n lc S v Ls :=
  ⟨below2 h.below hb, h.bld.mono hb, h.ow.mono hb, fun s hs => (h.ls s hs).mono hb, h.g0.mono hb⟩
theorem RS.kept (h : RS w wr b p pub sec la n lc S v Ls) (k : KX XR w.heap.size wr w') (hB : BlR w' w.heap.size b S') : RS w w' b p pub sec la n lc S' v Ls :=
  ⟨h.below.trans k.below, hB, k.own xrL h.ow, fun s hs => k.lin xrT (h.ls s hs), k.typ _ _ _ h.g0 xrS⟩
theorem RS.push {ys : List Lc} (h : RS w wr b p pub sec la n lc S v Ls) (hy : ∀ s ∈ ys, LinT wr s) (hg : Grew wr w' v v') (own' : OwnG lcL w' w.heap.size 44 v' (Ls ++ ys)) : RS w w' b p pub sec la n lc S v' (Ls ++ ys) := by
  have hbz := h.below.size
  have kx : KX (fun T => T = 44) w.heap.size wr w' := KX.grew h.ow hg rfl hbz
  refine ⟨h.below.trans kx.below, h.bld.kx kx (by decide) (by decide) (by decide) (by decide), own', fun s hs => ?_, kx.typ _ _ _ h.g0 (by decide)⟩
  rcases List.mem_append.1 hs with h1 | h1
  · exact kx.lin (by decide) (h.ls s h1)
  · exact kx.lin (by decide) (hy s h1)
end
theorem stO_atR {p k x y z n : Int} {S : St} {VL : List Lin} {c : Nat} (h : k % 14 = (c : Int)) : stO p (S, VL) ⟨k, x, y, z, n⟩ = gOp S VL (opd VL x) (opd VL y) (opd VL z) (wOf p n) n c := by
  unfold stO
  simp only
  rw [h, Int.toNat_natCast]
theorem opd_mapR {Ls : List Lc} {i : Nat} {n : Int} (hi : (i : Int) = n % Ls.length) (hl : i < Ls.length) : (Ls.getD i default).l = opd (Ls.map Lc.l) n := by
  unfold opd
  rw [List.length_map, ← hi, Int.toNat_natCast, getD_map' Lc.l Ls i default [] hl]
def RetRunR (w : World) (Q : St × List Lin) (e : Ending) (w' : World) : Prop := ∃ b v Ls, e = .returned (.tuple #[.pointer (some ⟨b, 0, none⟩), v]) ∧ BlR w' w.heap.size b Q.1 ∧ OwnG lcL w' w.heap.size 44 v Ls ∧ (∀ s ∈ Ls, LinT w' s) ∧ Hid (Ls.map Lc.l = Q.2) ∧ Below w.heap.size w w'

set_option maxRecDepth 10000 in
set_option maxHeartbeats 64000000 in
theorem rRun_any (p pub sec : Int) (la : Option Addr) (lc : Nat) (ops : List Op5) (w : World) (hv : vld p = true) (hb : 0 ≤ pub ∧ pub ≤ 4 ∧ 0 ≤ sec ∧ sec ≤ 4) (hO : Ops5 w la lc ops) (hn : ops.length ≤ 12) :
    Calls Try.prog 41 #[.agg #[.int .u64 p, .int .u8 pub, .int .u8 sec, .slice la ops.length lc]] w (RetRunR w (runO p ops (newS p pub sec, startL p (pub + sec).toNat))) := by
  obtain ⟨b0, b1, b2, b3⟩ := hb
  have cN := fun W => rbNew_any p pub sec W hv ⟨b0, by omega, b2, by omega⟩
  obtain ⟨N, hNe⟩ : ∃ N : Nat, (N : Int) = pub + sec := ⟨(pub + sec).toNat, by omega⟩
  have hNt : (pub + sec).toNat = N := by omega
  have hRI0 := RI.start (p := p) (pub := pub) (sec := sec) (I := List.replicate N 0) hv (fun x hx => by rw [List.eq_of_mem_replicate hx]; have := vld_pos hv; omega) ⟨b0, b1, b2, b3⟩ (by rw [List.length_replicate]; exact hNe)
  rw [hNt] at hRI0 ⊢
  clear hNt
  obtain ⟨Q0, hQ0⟩ : ∃ Q0 : St × List Lin, Q0 = (newS p pub sec, startL p N) := ⟨_, rfl⟩
  have hQ1 : Hid (Q0.1 = newS p pub sec ∧ Q0.2 = startL p N) := hide (by rw [hQ0]; exact ⟨rfl, rfl⟩)
  have hRI : Hid (∀ j, j ≤ ops.length → RI p pub sec (List.replicate N 0) (runO p (ops.take j) Q0).1 (runO p (ops.take j) Q0).2 j) := hide (by
    intro j hj
    have h := RI.run (ops.take j) hRI0
    rw [List.length_take, Nat.min_eq_left hj, Nat.zero_add] at h
    rw [hQ0]
    exact h)
  rw [← hQ0]
  clear hQ0 hRI0
  have hz63 : ops.length ≤ 9223372036854775807 := by omega
  replace hNe := hide hNe
  replace hv := hide hv
  go_enter Try.func41, Try.ntmps41
  go_wp2_with fail
  refine name_calls fun W hN => ?_
  have g0 : Blk W w.heap.size #[.int .u64 p, .int .u8 pub, .int .u8 sec, .slice la ops.length lc] 66 := by rw [hN]; exact Blk.newAt rfl
  have hB : Below w.heap.size w W := by rw [hN]; exact (Below.refl _ _).alloc (Nat.le_refl _) _
  clear hN
  refine (cN W).mono ?_
  rintro e w2 ⟨b, rfl, hB2, hb2⟩
  have hzW := hB.size
  have hlow : ∀ {w0 : World} {S : St} {b1 b2 : Nat}, b1 ≤ b2 → BlR w0 b2 b S → BlR w0 b1 b S := fun hle h => by
    obtain ⟨vr, R, vh, H, h⟩ := h
    exact ⟨vr, R, vh, H, h.blk, Nat.le_trans hle h.lo, h.rows.low hle, h.hints.low hle, h.rok, h.hok, h.rv, h.hv⟩
  replace hB2 := hlow hzW hB2
  replace hB := below2 hB hb2
  replace g0 := g0.mono hb2
  clear cN hb2 hlow hzW
  go_wp2_with fail
  refine Rel.region_any Try.mixed fun w3 hb3 => ?_
  replace hB2 := hB2.mono hb3
  replace hB := below2 hB hb3
  replace g0 := g0.mono hb3
  clear hb3
  refine Rel.any_held (fun W => W.cell? ⟨w.heap.size, 0, none⟩ = some (.int .u64 p)) 7 (g0.cell (j := 0) rfl) fun hH0 => ?_
  refine Rel.heldTake (v := ?_) 0 rfl (by kernel_rfl) (by kernel_rfl) (by kernel_rfl) (fun _ _ _ h => h) (by assumption) (by rfl) ?_ ?_
  rotate_left
  · (intro W hSw; (try dsimp only at hSw); go_simp; try with_reducible rfl)
  try simp only [Act.put, List.setIfInBounds_toArray, List.set_cons_zero, List.set_cons_succ]
  refine Rel.heldTake (v := ?_) 1 rfl (by kernel_rfl) (by kernel_rfl) (by kernel_rfl) (fun _ _ _ h => h) (by assumption) (by rfl) ?_ ?_
  rotate_left
  · (intro W hSw; (try dsimp only at hSw); go_simp; try with_reducible rfl)
  try simp only [Act.put, List.setIfInBounds_toArray, List.set_cons_zero, List.set_cons_succ]
  refine Rel.heldTake (v := ?_) 3 rfl (by kernel_rfl) (by kernel_rfl) (by kernel_rfl) (fun _ _ _ h => h) (by assumption) (by rfl) ?_ ?_
  rotate_left
  · (intro W hSw; (try dsimp only at hSw); go_simp; try with_reducible rfl)
  try simp only [Act.put, List.setIfInBounds_toArray, List.set_cons_zero, List.set_cons_succ]
  refine Rel.heldTake (v := ?_) 4 rfl (by kernel_rfl) (by kernel_rfl) (by kernel_rfl) (fun _ _ _ h => h) (by assumption) (by rfl) ?_ ?_
  rotate_left
  · (intro W hSw; (try dsimp only at hSw); go_simp; try with_reducible rfl)
  try simp only [Act.put, List.setIfInBounds_toArray, List.set_cons_zero, List.set_cons_succ]
  refine Rel.heldNext 2 rfl (by kernel_rfl) fun K hK => ?_
  go_simp
  refine (rConstant20_any p 1 _ (by decide)).mono ?_
  rintro e w4 ⟨s1, rfl, e1, l1, hb4⟩
  replace hB2 := hB2.mono hb4
  replace hB := below2 hB hb4
  replace g0 := g0.mono hb4
  refine hK.out _ _ (g0.cell (j := 0) rfl) (fun hH1 => ?_)
  clear hK K
  try simp only [Act.put, List.setIfInBounds_toArray, List.set_cons_zero, List.set_cons_succ]
  refine Rel.heldNext 5 rfl (by kernel_rfl) fun K hK => ?_
  go_simp
  refine (rConstant20_any p 2 _ (by decide)).mono ?_
  rintro e w5 ⟨s2, rfl, e2, l2, hb5⟩
  replace hB2 := hB2.mono hb5
  replace hB := below2 hB hb5
  replace g0 := g0.mono hb5
  refine hK.out _ _ (g0.cell (j := 0) rfl) (fun hH2 => ?_)
  clear hK K
  try simp only [Act.put, List.setIfInBounds_toArray, List.set_cons_zero, List.set_cons_succ]
  refine Rel.heldNext 6 rfl (by kernel_rfl) fun K hK => ?_
  go_simp
  have hbA : Below w5.heap.size w5 (w5.alloc (.cells #[.slice none 0 0, .slice s1.ad s1.l.length s1.cap, .slice s2.ad s2.l.length s2.cap] 44)) := (Below.refl _ _).alloc (Nat.le_refl _) _
  have gL : Blk (w5.alloc (.cells #[.slice none 0 0, .slice s1.ad s1.l.length s1.cap, .slice s2.ad s2.l.length s2.cap] 44)) w5.heap.size #[.slice none 0 0, lcV s1, lcV s2] 44 := Blk.new _ _ _
  have hz5 := hB.size
  have D0 : RS w (w5.alloc (.cells #[.slice none 0 0, .slice s1.ad s1.l.length s1.cap, .slice s2.ad s2.l.length s2.cap] 44)) b p pub sec la ops.length lc (newS p pub sec) (.slice (some ⟨w5.heap.size, 0, none⟩) 3 3) [⟨none, 0, []⟩, s1, s2] :=
    ⟨below2 hB hbA, hB2.mono hbA, OwnG.of_blk (xs := [⟨none, 0, []⟩, s1, s2]) (cap := 3) hz5 gL (by simp) (by decide) rfl rfl, fun s hs => by
      simp only [List.mem_cons, List.not_mem_nil, or_false] at hs
      rcases hs with rfl | rfl | rfl
      · exact LinT.nil _
      · exact (l1.mono hb5).mono hbA
      · exact l2.mono hbA, g0.mono hbA⟩
  have ev0 : Hid (([⟨none, 0, []⟩, s1, s2] : List Lc).map Lc.l = startL p 0) := hide (by show [[], s1.l, s2.l] = _; rw [e1.out, e2.out]; rfl)
  refine hK.out _ _ ((g0.mono hbA).cell (j := 0) rfl) (fun hH3 => ?_)
  clear hK K
  try simp only [Act.put, List.setIfInBounds_toArray, List.set_cons_zero, List.set_cons_succ]
  refine Rel.heldLast 7 rfl (by kernel_rfl) rfl (by kernel_rfl) fun K hK => ?_
  go_simp
  refine hK.out _ _ ?_
  clear hK K hH0 hH1 hH2 hH3 hB2 hB g0 l1 l2 e1 e2 hb4 hb5 gL hz5 hbA
  go_wp2_with fail
  go_loopw [6, 7] (fun t6 t7 wr => ∃ k : Nat, k ≤ N ∧ t7 = .int .i64 k ∧ ∃ Ls, RS w wr b p pub sec la ops.length lc (newS p pub sec) t6 Ls ∧ Hid (Ls.map Lc.l = startL p k)) (fun _ t7 _ => N - (intOf t7).toNat)
  case atStart => exact ⟨0, Nat.zero_le _, rfl, _, D0, ev0⟩
  case round =>
    clear D0 ev0
    obtain ⟨k, hk, rfl, Ls, D, ev⟩ := hrel
    have k1 := D.g0.cell (j := 1) (v := .int .u8 pub) rfl
    have k2 := D.g0.cell (j := 2) (v := .int .u8 sec) rfl
    have hNe2 := hNe.out
    by_cases hlt : k < N
    · have hlt' : (k : Int) < pub + sec := by omega
      have cI : Calls Try.prog 21 #[.pointer (some ⟨b, 0, none⟩), .int .i64 k] wr (RetLn wr [(1 + (k : Int), 1)]) := by
        obtain ⟨vr, R, vh, H, hh⟩ := D.bld
        have := rInput20_any b _ _ pub sec k wr hh.blk rfl rfl ⟨b0, b2, by omega⟩ (wfI ⟨by omega, by omega⟩)
        rw [if_pos ⟨by omega, by omega⟩] at this
        exact this
      have hll : Ls.length ≤ 20 := by
        have := congrArg List.length ev.out
        simp [startL, inL] at this
        omega
      clear hNe2
      go_wp2_with fail
      refine cI.mono ?_
      rintro e w4 ⟨s, rfl, es, hs, hb4⟩
      replace D := D.mono hb4
      have hbz := D.below.size
      go_wp2_with (at_builtin; refine wpList_appG _ lcL Ls [s] rfl _ _ 55 rfl w.heap.size 44 (.slice none 0 0) 24 Try.underlying55 Try.infoLc rfl (by decide) _ 1 1 (some ⟨w4.heap.size, 0, none⟩) rfl rfl rfl (D.ow.alloc _) (SlG.oneL _ rfl) (by simp; omega) (by simp; omega) ?_; intro v' w' own' hg'; refine Hold.mk ?_)
      refine Hold.go ?_
      have DD := (D.mono ((Below.refl _ _).alloc (Nat.le_refl _) (.cells #[lcV s] 44))).push (ys := [s]) (fun q hq => by rw [List.mem_singleton] at hq; subst hq; exact hs.mono ((Below.refl _ _).alloc (Nat.le_refl _) _)) hg' own'
      have ev2 : Hid ((Ls ++ [s]).map Lc.l = startL p (k + 1)) := hide (by rw [List.map_append, ev.out, startL_succ, ← es.out]; rfl)
      clear own' hg' D ev es hs hb4 cI k1 k2 hll
      go_wp2
      go_roundw
      case rel => exact ⟨k + 1, by omega, by go_num, _, DD, ev2⟩
      case measure => simp [intOf]; omega
    · obtain rfl : k = N := by omega
      have hge : pub + sec ≤ (k : Int) := by omega
      have hev0 : Hid ((newS p pub sec, Ls.map Lc.l) = runO p (ops.take 0) Q0) := hide (by
        rw [List.take_zero]
        show _ = Q0
        rw [ev.out, ← hQ1.out.1, ← hQ1.out.2])
      clear hNe2 ev
      go_wp2_with fail
      obtain ⟨wA, hwA⟩ : ∃ wA, wA = wr := ⟨_, rfl⟩
      subst hwA
      go_loopw [6, 8] (fun t6 t8 wr => ∃ j : Nat, j ≤ ops.length ∧ t8 = .int .i64 j ∧ ∃ S Ls, RS w wr b p pub sec la ops.length lc S t6 Ls ∧ Hid ((S, Ls.map Lc.l) = runO p (ops.take j) Q0)) (fun _ t8 _ => ops.length - (intOf t8).toNat)
      case atStart => exact ⟨0, Nat.zero_le _, rfl, _, _, D, hev0⟩
      case round =>
        clear D hev0 k1 k2
        obtain ⟨j, hj, rfl, S, Ls, D, hev⟩ := hrel
        have k3 := D.g0.cell (j := 3) (v := .slice la ops.length lc) rfl
        by_cases hlt : j < ops.length
        · have hlt' : (j : Int) < ops.length := by omega
          obtain ⟨q2, off2, rfl, _, hd⟩ := (hO.mono D.below).s (by omega)
          obtain ⟨d0, d1, d2, d3, d4⟩ := hd j hlt
          have hx := hO.wf _ (getD_mem' hlt default)
          have htk := hide (take_succ_getD ops default hlt)
          have hag : RI p pub sec (List.replicate k 0) S (Ls.map Lc.l) j := by
            have := hRI.out j (by omega)
            rw [← hev.out] at this
            exact this
          generalize ops.getD j default = o at *
          obtain ⟨kk, ox, oy, oz, on⟩ := o
          obtain ⟨⟨hk1, hk2⟩, ⟨hx1, hx2⟩, ⟨hy1, hy2⟩, ⟨hz1, hz2⟩, ⟨hn1, hn2⟩⟩ := hx
          simp only at d0 d1 d2 d3 d4 hk1 hk2 hx1 hx2 hy1 hy2 hz1 hz2 hn1 hn2
          have hL2 : 3 ≤ Ls.length ∧ Ls.length ≤ 100 := by
            have := hag.len
            rw [List.length_map] at this
            omega
          obtain ⟨va, vc, ve, _⟩ := D.ow.sl
          subst ve
          have mx := mod_lt' (show (0 : Int) < Ls.length by omega) ox
          have my := mod_lt' (show (0 : Int) < Ls.length by omega) oy
          have mz := mod_lt' (show (0 : Int) < Ls.length by omega) oz
          obtain ⟨ix, hix⟩ : ∃ i : Nat, (i : Int) = ox % Ls.length := ⟨(ox % Ls.length).toNat, by omega⟩
          obtain ⟨iy, hiy⟩ : ∃ i : Nat, (i : Int) = oy % Ls.length := ⟨(oy % Ls.length).toNat, by omega⟩
          obtain ⟨iz, hiz⟩ : ∃ i : Nat, (i : Int) = oz % Ls.length := ⟨(oz % Ls.length).toNat, by omega⟩
          clear mx my mz
          have hxL : ix < Ls.length := by have := mod_lt' (show (0 : Int) < Ls.length by omega) ox; omega
          have hyL : iy < Ls.length := by have := mod_lt' (show (0 : Int) < Ls.length by omega) oy; omega
          have hzL : iz < Ls.length := by have := mod_lt' (show (0 : Int) < Ls.length by omega) oz; omega
          have cat := fun n i hn hi W h => operand_any n va vc w.heap.size Ls i W hn (D.ow.mono h) (by omega) hi (by omega)
          have cx := fun W h => cat ox ix ⟨hx1, hx2⟩ hix W h
          have cy := fun W h => cat oy iy ⟨hy1, hy2⟩ hiy W h
          have cz := fun W h => cat oz iz ⟨hz1, hz2⟩ hiz W h
          clear cat
          have lu := D.ls _ (getD_mem' hxL default)
          have ly := D.ls _ (getD_mem' hyL default)
          have lz := D.ls _ (getD_mem' hzL default)
          have zu := hide (hag.lens (List.mem_map_of_mem (f := Lc.l) (getD_mem' hxL default)))
          have zy := hide (hag.lens (List.mem_map_of_mem (f := Lc.l) (getD_mem' hyL default)))
          have zz := hide (hag.lens (List.mem_map_of_mem (f := Lc.l) (getD_mem' hzL default)))
          have iu := hide (hag.get (List.mem_map_of_mem (f := Lc.l) (getD_mem' hxL default)))
          have iv := hide (hag.get (List.mem_map_of_mem (f := Lc.l) (getD_mem' hyL default)))
          have iw := hide (hag.get (List.mem_map_of_mem (f := Lc.l) (getD_mem' hzL default)))
          have mu := hide (opd_mapR hix hxL).symm
          have my := hide (opd_mapR hiy hyL).symm
          have mz := hide (opd_mapR hiz hzL).symm
          clear hix hiy hiz
          generalize Ls.getD ix default = u at *
          generalize Ls.getD iy default = y at *
          generalize Ls.getD iz default = z at *
          have hkm : kk % 14 = 0 ∨ kk % 14 = 1 ∨ kk % 14 = 2 ∨ kk % 14 = 3 ∨ kk % 14 = 4 ∨ kk % 14 = 5 ∨ kk % 14 = 6 ∨ kk % 14 = 7 ∨ kk % 14 = 8 ∨ kk % 14 = 9 ∨ kk % 14 = 10 ∨ kk % 14 = 11 ∨ kk % 14 = 12 ∨ kk % 14 = 13 := by omega
          replace hkm := hide hkm
          have hvS := hag.v
          have hbd := hag.bd
          replace hag := hide hag
          have hLh := hide hL2
          clear hd hL2
          go_wp2_with fail
          refine name_world fun w5 hN => ?_
          have g9 : Blk w5 wr.heap.size #[.int .u8 kk, .int .u8 ox, .int .u8 oy, .int .u8 oz, .int .u8 on] 122 := by rw [hN]; exact Blk.newAt rfl
          have hb5 : Below wr.heap.size wr w5 := by rw [hN]; exact (Below.refl _ _).alloc (Nat.le_refl _) _
          clear hN d0 d1 d2 d3 d4 k3
          have k1 := cell_later' (g9.cell (j := 1) (v := .int .u8 ox) rfl)
          have k2 := cell_later' (g9.cell (j := 2) (v := .int .u8 oy) rfl)
          have k3 := cell_later' (g9.cell (j := 3) (v := .int .u8 oz) rfl)
          refine wp_region_later Try.mixed (by kernel_rfl) ?_
          repeat (first | go_big_quiet_step (first | (go_at_call_of 85 ox; exact Calls.later_of (cx _ (below2 hb5 (below_later _ _)))) | (go_at_call_of 85 oy; exact Calls.later_of (cy _ (below2 hb5 (below_later _ _)))) | (go_at_call_of 85 oz; exact Calls.later_of (cz _ (below2 hb5 (below_later _ _))))) | quiet_step (first | (go_at_call_of 85 ox; exact Calls.later_of (cx _ (below2 hb5 (below_later _ _)))) | (go_at_call_of 85 oy; exact Calls.later_of (cy _ (below2 hb5 (below_later _ _)))) | (go_at_call_of 85 oz; exact Calls.later_of (cz _ (below2 hb5 (below_later _ _))))))
          refine wpQuiet_nil ?_
          intro w6 hb6
          replace hb6 := below_of_later hb6
          replace D := (D.mono hb5).mono hb6
          replace lu := (lu.mono hb5).mono hb6
          replace ly := (ly.mono hb5).mono hb6
          replace lz := (lz.mono hb5).mono hb6
          replace g9 := g9.mono hb6
          clear cx cy cz k1 k2 k3 hb5 hb6
          have k0 := g9.cell (j := 0) (v := .int .u8 kk) rfl
          rcases hkm.out with hm | hm | hm | hm | hm | hm | hm | hm | hm | hm | hm | hm | hm | hm
          · as_aux_lemma =>
            go_wp2_with fail
            refine (rbMul_any w.heap.size b S _ u y w6 D.bld hbd (by omega) lu ly).mono ?_
            rintro e w7 ⟨s, rfl, es, hs, hB7, k7⟩
            have D7 := D.kept k7 hB7
            go_wp2_with (at_builtin; refine wpList_appG _ lcL Ls [s] rfl _ _ 55 rfl w.heap.size 44 (.slice none 0 0) 24 Try.underlying55 Try.infoLc rfl (by decide) _ 1 1 (some ⟨w7.heap.size, 0, none⟩) rfl rfl rfl (D7.ow.alloc _) (SlG.oneL _ rfl) (by have := hLh.out; simp; omega) (by have := D7.below.size; simp; omega) ?_; intro v' w8 own' hg'; refine Hold.mk ?_)
            refine Hold.go ?_
            have DD := (D7.mono ((Below.refl _ _).alloc (Nat.le_refl _) (.cells #[lcV s] 44))).push (ys := [s]) (fun q hq => by rw [List.mem_singleton] at hq; subst hq; exact hs.mono ((Below.refl _ _).alloc (Nat.le_refl _) _)) hg' own'
            clear hg' own'
            have hq' : Hid ((gMul S u.l y.l, (Ls ++ [s]).map Lc.l) = runO p (ops.take (j + 1)) Q0) := hide (by
              rw [htk.out, runO_snoc, ← hev.out, stO_atR (c := 0) hm, List.map_append, mu.out, my.out, mz.out]
              show (_, _ ++ [s.l]) = _; rw [es.out]; rfl)
            clear hev htk D7
            go_wp2
            go_roundw
            case rel => exact ⟨j + 1, by omega, by go_num, _, _, DD, hq'⟩
            case measure => simp [intOf]; omega
          · as_aux_lemma =>
            go_wp2_with fail
            refine (rbAssert_any w.heap.size b S _ u y w6 D.bld hbd (by omega) lu ly (by have := zu.out; omega) (by have := zy.out; omega) iu.out.1 iv.out.1).mono ?_
            rintro e w7 ⟨rfl, hB7, k7⟩
            have DD := D.kept k7 hB7
            have hq' : Hid ((gAssert S u.l y.l, Ls.map Lc.l) = runO p (ops.take (j + 1)) Q0) := hide (by
              rw [htk.out, runO_snoc, ← hev.out, stO_atR (c := 1) hm, mu.out, my.out, mz.out]
              rfl)
            clear hev htk
            go_wp2
            go_roundw
            case rel => exact ⟨j + 1, by omega, by go_num, _, _, DD, hq'⟩
            case measure => simp [intOf]; omega
          · as_aux_lemma =>
            go_wp2_with fail
            refine (rbBoolean_any w.heap.size b S _ u w6 D.bld hbd (by omega) lu).mono ?_
            rintro e w7 ⟨rfl, hB7, k7⟩
            have DD := D.kept k7 hB7
            have hq' : Hid ((gBool S u.l, Ls.map Lc.l) = runO p (ops.take (j + 1)) Q0) := hide (by
              rw [htk.out, runO_snoc, ← hev.out, stO_atR (c := 2) hm, mu.out, my.out, mz.out]
              rfl)
            clear hev htk
            go_wp2
            go_roundw
            case rel => exact ⟨j + 1, by omega, by go_num, _, _, DD, hq'⟩
            case measure => simp [intOf]; omega
          · as_aux_lemma =>
            have hn3 := wOf_bd hv.out on
            have hn6 := hn3.2.1
            have hn7 := hn3.2.2
            have cW := fun W => sWidth_any p pub sec (some ⟨q2, off2, none⟩) ops.length lc on W hv.out ⟨hn1, hn2⟩
            rw [← hn3.1] at cW
            clear hn3
            obtain ⟨m, hmm⟩ : ∃ m, m = wOf p on := ⟨_, rfl⟩
            rw [← hmm] at cW hn6 hn7
            have hpw : ∀ i : Nat, i < m + 1 + 1 → (2 : Int) ^ i < S.p := fun i hi => by
              have h3 : (2 : Int) ^ i ≤ 2 ^ (m + 1) := by exact_mod_cast Nat.pow_le_pow_right (show 0 < 2 by decide) (show i ≤ m + 1 by omega)
              rw [hag.out.pp]
              omega
            replace hpw := hide hpw
            replace hmm := hide hmm
            clear hn7
            have h00 := D.g0.cell (j := 0) (v := .int .u64 p) rfl
            have h01 := D.g0.cell (j := 1) (v := .int .u8 pub) rfl
            have h02 := D.g0.cell (j := 2) (v := .int .u8 sec) rfl
            have h03 := D.g0.cell (j := 3) (v := .slice (some ⟨q2, off2, none⟩) ops.length lc) rfl
            have h94 := g9.cell (j := 4) (v := .int .u8 on) rfl
            go_wp2_with fail
            refine (cW _).mono ?_
            rintro e wW ⟨rfl, hbW⟩
            replace D := D.mono hbW
            replace lu := lu.mono hbW
            replace ly := ly.mono hbW
            clear h00 h01 h02 h03 h94 cW k0
            go_wp2_with fail
            refine (rbBits_any w.heap.size b S _ u m wW D.bld hvS hbd (by omega) lu (by have := zu.out; omega) iu.out.1 (by omega) (fun i hi => hpw.out i (by omega))).mono ?_
            rintro e w7 ⟨vB, Bs, rfl, ownB, hBl, hys, hB7, k7⟩
            have D7 := D.kept k7 hB7
            have lenB6 : Bs.length ≤ 6 := by
              have := congrArg List.length hBl.out
              rw [List.length_map, bitsL_len] at this
              omega
            obtain ⟨aB, cB, eB, slB, _⟩ := ownB.sl
            subst eB
            clear ownB
            go_wp2_with (at_builtin; refine wpList_appG _ lcL Ls Bs rfl _ _ 55 rfl w.heap.size 44 (.slice none 0 0) 24 Try.underlying55 Try.infoLc rfl (by decide) _ _ _ aB rfl rfl rfl D7.ow slB (by have := hLh.out; omega) D7.below.size ?_; intro v' w8 own' hg'; refine Hold.mk ?_)
            refine Hold.go ?_
            have DD := D7.push (ys := Bs) hys hg' own'
            clear hg' own'
            have hq' : Hid ((gBits S u.l m, (Ls ++ Bs).map Lc.l) = runO p (ops.take (j + 1)) Q0) := hide (by
              rw [htk.out, runO_snoc, ← hev.out, stO_atR (c := 3) hm, List.map_append, mu.out, my.out, mz.out]
              rw [hBl.out, hmm.out]; rfl)
            clear hev htk D7
            go_wp2
            go_roundw
            case rel => exact ⟨j + 1, by omega, by go_num, _, _, DD, hq'⟩
            case measure => simp [intOf]; omega
          · as_aux_lemma =>
            go_wp2_with fail
            refine (rbIsZero_any w.heap.size b S _ u w6 D.bld hvS hbd (by omega) lu).mono ?_
            rintro e w7 ⟨s, rfl, es, hs, hB7, k7⟩
            have D7 := D.kept k7 hB7
            go_wp2_with (at_builtin; refine wpList_appG _ lcL Ls [s] rfl _ _ 55 rfl w.heap.size 44 (.slice none 0 0) 24 Try.underlying55 Try.infoLc rfl (by decide) _ 1 1 (some ⟨w7.heap.size, 0, none⟩) rfl rfl rfl (D7.ow.alloc _) (SlG.oneL _ rfl) (by have := hLh.out; simp; omega) (by have := D7.below.size; simp; omega) ?_; intro v' w8 own' hg'; refine Hold.mk ?_)
            refine Hold.go ?_
            have DD := (D7.mono ((Below.refl _ _).alloc (Nat.le_refl _) (.cells #[lcV s] 44))).push (ys := [s]) (fun q hq => by rw [List.mem_singleton] at hq; subst hq; exact hs.mono ((Below.refl _ _).alloc (Nat.le_refl _) _)) hg' own'
            clear hg' own'
            have hq' : Hid (((gIsZero S u.l).1, (Ls ++ [s]).map Lc.l) = runO p (ops.take (j + 1)) Q0) := hide (by
              rw [htk.out, runO_snoc, ← hev.out, stO_atR (c := 4) hm, List.map_append, mu.out, my.out, mz.out]
              show (_, _ ++ [s.l]) = _; rw [es.out]; rfl)
            clear hev htk D7
            go_wp2
            go_roundw
            case rel => exact ⟨j + 1, by omega, by go_num, _, _, DD, hq'⟩
            case measure => simp [intOf]; omega
          · as_aux_lemma =>
            go_wp2_with fail
            refine (rbEqual_any w.heap.size b S _ u y w6 D.bld hvS hbd (by omega) lu ly (by have := zu.out; omega) (by have := zy.out; omega) iu.out.1 iv.out.1).mono ?_
            rintro e w7 ⟨s, rfl, es, hs, hB7, k7⟩
            have D7 := D.kept k7 hB7
            go_wp2_with (at_builtin; refine wpList_appG _ lcL Ls [s] rfl _ _ 55 rfl w.heap.size 44 (.slice none 0 0) 24 Try.underlying55 Try.infoLc rfl (by decide) _ 1 1 (some ⟨w7.heap.size, 0, none⟩) rfl rfl rfl (D7.ow.alloc _) (SlG.oneL _ rfl) (by have := hLh.out; simp; omega) (by have := D7.below.size; simp; omega) ?_; intro v' w8 own' hg'; refine Hold.mk ?_)
            refine Hold.go ?_
            have DD := (D7.mono ((Below.refl _ _).alloc (Nat.le_refl _) (.cells #[lcV s] 44))).push (ys := [s]) (fun q hq => by rw [List.mem_singleton] at hq; subst hq; exact hs.mono ((Below.refl _ _).alloc (Nat.le_refl _) _)) hg' own'
            clear hg' own'
            have hq' : Hid (((gEqual S u.l y.l).1, (Ls ++ [s]).map Lc.l) = runO p (ops.take (j + 1)) Q0) := hide (by
              rw [htk.out, runO_snoc, ← hev.out, stO_atR (c := 5) hm, List.map_append, mu.out, my.out, mz.out]
              show (_, _ ++ [s.l]) = _; rw [es.out]; rfl)
            clear hev htk D7
            go_wp2
            go_roundw
            case rel => exact ⟨j + 1, by omega, by go_num, _, _, DD, hq'⟩
            case measure => simp [intOf]; omega
          · as_aux_lemma =>
            go_wp2_with fail
            refine (rbNot_any w.heap.size b S u w6 D.bld hvS lu (by have := zu.out; omega) iu.out.1).mono ?_
            rintro e w7 ⟨s, rfl, es, hs, hb7⟩
            have D7 := D.mono hb7
            go_wp2_with (at_builtin; refine wpList_appG _ lcL Ls [s] rfl _ _ 55 rfl w.heap.size 44 (.slice none 0 0) 24 Try.underlying55 Try.infoLc rfl (by decide) _ 1 1 (some ⟨w7.heap.size, 0, none⟩) rfl rfl rfl (D7.ow.alloc _) (SlG.oneL _ rfl) (by have := hLh.out; simp; omega) (by have := D7.below.size; simp; omega) ?_; intro v' w8 own' hg'; refine Hold.mk ?_)
            refine Hold.go ?_
            have DD := (D7.mono ((Below.refl _ _).alloc (Nat.le_refl _) (.cells #[lcV s] 44))).push (ys := [s]) (fun q hq => by rw [List.mem_singleton] at hq; subst hq; exact hs.mono ((Below.refl _ _).alloc (Nat.le_refl _) _)) hg' own'
            clear hg' own'
            have hq' : Hid ((S, (Ls ++ [s]).map Lc.l) = runO p (ops.take (j + 1)) Q0) := hide (by
              rw [htk.out, runO_snoc, ← hev.out, stO_atR (c := 6) hm, List.map_append, mu.out, my.out, mz.out]
              show (_, _ ++ [s.l]) = _; rw [es.out]; rfl)
            clear hev htk D7
            go_wp2
            go_roundw
            case rel => exact ⟨j + 1, by omega, by go_num, _, _, DD, hq'⟩
            case measure => simp [intOf]; omega
          · as_aux_lemma =>
            go_wp2_with fail
            refine (rbMul_any w.heap.size b S _ u y w6 D.bld hbd (by omega) lu ly).mono ?_
            rintro e w7 ⟨s, rfl, es, hs, hB7, k7⟩
            have D7 := D.kept k7 hB7
            go_wp2_with (at_builtin; refine wpList_appG _ lcL Ls [s] rfl _ _ 55 rfl w.heap.size 44 (.slice none 0 0) 24 Try.underlying55 Try.infoLc rfl (by decide) _ 1 1 (some ⟨w7.heap.size, 0, none⟩) rfl rfl rfl (D7.ow.alloc _) (SlG.oneL _ rfl) (by have := hLh.out; simp; omega) (by have := D7.below.size; simp; omega) ?_; intro v' w8 own' hg'; refine Hold.mk ?_)
            refine Hold.go ?_
            have DD := (D7.mono ((Below.refl _ _).alloc (Nat.le_refl _) (.cells #[lcV s] 44))).push (ys := [s]) (fun q hq => by rw [List.mem_singleton] at hq; subst hq; exact hs.mono ((Below.refl _ _).alloc (Nat.le_refl _) _)) hg' own'
            clear hg' own'
            have hq' : Hid ((gMul S u.l y.l, (Ls ++ [s]).map Lc.l) = runO p (ops.take (j + 1)) Q0) := hide (by
              rw [htk.out, runO_snoc, ← hev.out, stO_atR (c := 7) hm, List.map_append, mu.out, my.out, mz.out]
              show (_, _ ++ [s.l]) = _; rw [es.out]; rfl)
            clear hev htk D7
            go_wp2
            go_roundw
            case rel => exact ⟨j + 1, by omega, by go_num, _, _, DD, hq'⟩
            case measure => simp [intOf]; omega
          · as_aux_lemma =>
            go_wp2_with fail
            refine (rbOr_any w.heap.size b S _ u y w6 D.bld hvS hbd (by omega) lu ly (by have := zu.out; omega) (by have := zy.out; omega) iu.out.1 iv.out.1 (LinIn.add hvS iu.out iv.out).1).mono ?_
            rintro e w7 ⟨s, rfl, es, hs, hB7, k7⟩
            have D7 := D.kept k7 hB7
            go_wp2_with (at_builtin; refine wpList_appG _ lcL Ls [s] rfl _ _ 55 rfl w.heap.size 44 (.slice none 0 0) 24 Try.underlying55 Try.infoLc rfl (by decide) _ 1 1 (some ⟨w7.heap.size, 0, none⟩) rfl rfl rfl (D7.ow.alloc _) (SlG.oneL _ rfl) (by have := hLh.out; simp; omega) (by have := D7.below.size; simp; omega) ?_; intro v' w8 own' hg'; refine Hold.mk ?_)
            refine Hold.go ?_
            have DD := (D7.mono ((Below.refl _ _).alloc (Nat.le_refl _) (.cells #[lcV s] 44))).push (ys := [s]) (fun q hq => by rw [List.mem_singleton] at hq; subst hq; exact hs.mono ((Below.refl _ _).alloc (Nat.le_refl _) _)) hg' own'
            clear hg' own'
            have hq' : Hid (((gOr S u.l y.l).1, (Ls ++ [s]).map Lc.l) = runO p (ops.take (j + 1)) Q0) := hide (by
              rw [htk.out, runO_snoc, ← hev.out, stO_atR (c := 8) hm, List.map_append, mu.out, my.out, mz.out]
              show (_, _ ++ [s.l]) = _; rw [es.out]; rfl)
            clear hev htk D7
            go_wp2
            go_roundw
            case rel => exact ⟨j + 1, by omega, by go_num, _, _, DD, hq'⟩
            case measure => simp [intOf]; omega
          · as_aux_lemma =>
            go_wp2_with fail
            refine (rbSelect_any w.heap.size b S _ u y z w6 D.bld hvS hbd (by omega) lu ly lz (by have := zy.out; omega) (by have := zz.out; omega) iv.out.1 iw.out.1).mono ?_
            rintro e w7 ⟨s, rfl, es, hs, hB7, k7⟩
            have D7 := D.kept k7 hB7
            go_wp2_with (at_builtin; refine wpList_appG _ lcL Ls [s] rfl _ _ 55 rfl w.heap.size 44 (.slice none 0 0) 24 Try.underlying55 Try.infoLc rfl (by decide) _ 1 1 (some ⟨w7.heap.size, 0, none⟩) rfl rfl rfl (D7.ow.alloc _) (SlG.oneL _ rfl) (by have := hLh.out; simp; omega) (by have := D7.below.size; simp; omega) ?_; intro v' w8 own' hg'; refine Hold.mk ?_)
            refine Hold.go ?_
            have DD := (D7.mono ((Below.refl _ _).alloc (Nat.le_refl _) (.cells #[lcV s] 44))).push (ys := [s]) (fun q hq => by rw [List.mem_singleton] at hq; subst hq; exact hs.mono ((Below.refl _ _).alloc (Nat.le_refl _) _)) hg' own'
            clear hg' own'
            have hq' : Hid (((gSelect S u.l y.l z.l).1, (Ls ++ [s]).map Lc.l) = runO p (ops.take (j + 1)) Q0) := hide (by
              rw [htk.out, runO_snoc, ← hev.out, stO_atR (c := 9) hm, List.map_append, mu.out, my.out, mz.out]
              show (_, _ ++ [s.l]) = _; rw [es.out]; rfl)
            clear hev htk D7
            go_wp2
            go_roundw
            case rel => exact ⟨j + 1, by omega, by go_num, _, _, DD, hq'⟩
            case measure => simp [intOf]; omega
          · as_aux_lemma =>
            have hn3 := wOf_bd hv.out on
            have hn6 := hn3.2.1
            have hn7 := hn3.2.2
            have cW := fun W => sWidth_any p pub sec (some ⟨q2, off2, none⟩) ops.length lc on W hv.out ⟨hn1, hn2⟩
            rw [← hn3.1] at cW
            clear hn3
            obtain ⟨m, hmm⟩ : ∃ m, m = wOf p on := ⟨_, rfl⟩
            rw [← hmm] at cW hn6 hn7
            have hpw : ∀ i : Nat, i < m + 1 + 1 → (2 : Int) ^ i < S.p := fun i hi => by
              have h3 : (2 : Int) ^ i ≤ 2 ^ (m + 1) := by exact_mod_cast Nat.pow_le_pow_right (show 0 < 2 by decide) (show i ≤ m + 1 by omega)
              rw [hag.out.pp]
              omega
            replace hpw := hide hpw
            replace hmm := hide hmm
            clear hn7
            have h00 := D.g0.cell (j := 0) (v := .int .u64 p) rfl
            have h01 := D.g0.cell (j := 1) (v := .int .u8 pub) rfl
            have h02 := D.g0.cell (j := 2) (v := .int .u8 sec) rfl
            have h03 := D.g0.cell (j := 3) (v := .slice (some ⟨q2, off2, none⟩) ops.length lc) rfl
            have h94 := g9.cell (j := 4) (v := .int .u8 on) rfl
            go_wp2_with fail
            refine (cW _).mono ?_
            rintro e wW ⟨rfl, hbW⟩
            replace D := D.mono hbW
            replace lu := lu.mono hbW
            replace ly := ly.mono hbW
            clear h00 h01 h02 h03 h94 cW k0
            go_wp2_with fail
            refine (rbLess_any w.heap.size b S _ u y m wW D.bld hvS hbd (by omega) lu ly (by have := zu.out; omega) (by have := zy.out; omega) iu.out iv.out hag.out.wf.pos (by omega) (fun i hi => hpw.out i (by omega))).mono ?_
            rintro e w7 ⟨s, rfl, es, hs, hB7, k7⟩
            have D7 := D.kept k7 hB7
            go_wp2_with (at_builtin; refine wpList_appG _ lcL Ls [s] rfl _ _ 55 rfl w.heap.size 44 (.slice none 0 0) 24 Try.underlying55 Try.infoLc rfl (by decide) _ 1 1 (some ⟨w7.heap.size, 0, none⟩) rfl rfl rfl (D7.ow.alloc _) (SlG.oneL _ rfl) (by have := hLh.out; simp; omega) (by have := D7.below.size; simp; omega) ?_; intro v' w8 own' hg'; refine Hold.mk ?_)
            refine Hold.go ?_
            have DD := (D7.mono ((Below.refl _ _).alloc (Nat.le_refl _) (.cells #[lcV s] 44))).push (ys := [s]) (fun q hq => by rw [List.mem_singleton] at hq; subst hq; exact hs.mono ((Below.refl _ _).alloc (Nat.le_refl _) _)) hg' own'
            clear hg' own'
            have hq' : Hid (((gLess S u.l y.l m).1, (Ls ++ [s]).map Lc.l) = runO p (ops.take (j + 1)) Q0) := hide (by
              rw [htk.out, runO_snoc, ← hev.out, stO_atR (c := 10) hm, List.map_append, mu.out, my.out, mz.out]
              show (_, _ ++ [s.l]) = _; rw [es.out, hmm.out]; rfl)
            clear hev htk D7
            go_wp2
            go_roundw
            case rel => exact ⟨j + 1, by omega, by go_num, _, _, DD, hq'⟩
            case measure => simp [intOf]; omega
          · as_aux_lemma =>
            have h00 := D.g0.cell (j := 0) (v := .int .u64 p) rfl
            have cu2 : CoefOk p u.l := by rw [← hag.out.pp]; exact iu.out.1
            have cv2 : CoefOk p y.l := by rw [← hag.out.pp]; exact iv.out.1
            go_wp2_with fail
            refine (rAddS_any p u y w6 lu.ok ly.ok (by have := zu.out; have := zy.out; omega) cu2 cv2).mono ?_
            rintro e w7 ⟨s, rfl, es, hs, hb7⟩
            have D7 := D.mono hb7
            go_wp2_with (at_builtin; refine wpList_appG _ lcL Ls [s] rfl _ _ 55 rfl w.heap.size 44 (.slice none 0 0) 24 Try.underlying55 Try.infoLc rfl (by decide) _ 1 1 (some ⟨w7.heap.size, 0, none⟩) rfl rfl rfl (D7.ow.alloc _) (SlG.oneL _ rfl) (by have := hLh.out; simp; omega) (by have := D7.below.size; simp; omega) ?_; intro v' w8 own' hg'; refine Hold.mk ?_)
            refine Hold.go ?_
            have DD := (D7.mono ((Below.refl _ _).alloc (Nat.le_refl _) (.cells #[lcV s] 44))).push (ys := [s]) (fun q hq => by rw [List.mem_singleton] at hq; subst hq; exact hs.mono ((Below.refl _ _).alloc (Nat.le_refl _) _)) hg' own'
            clear hg' own'
            have hq' : Hid ((S, (Ls ++ [s]).map Lc.l) = runO p (ops.take (j + 1)) Q0) := hide (by
              rw [htk.out, runO_snoc, ← hev.out, stO_atR (c := 11) hm, List.map_append, mu.out, my.out, mz.out]
              show (_, _ ++ [s.l]) = _; rw [es.out]; show _ = (S, _ ++ [addL S.p u.l y.l]); rw [hag.out.pp])
            clear hev htk D7
            go_wp2
            go_roundw
            case rel => exact ⟨j + 1, by omega, by go_num, _, _, DD, hq'⟩
            case measure => simp [intOf]; omega
          · as_aux_lemma =>
            have h00 := D.g0.cell (j := 0) (v := .int .u64 p) rfl
            have h94 := g9.cell (j := 4) (v := .int .u8 on) rfl
            have cSc := rScale_any p on u w6 lu.ok (fun _ => by have := zu.out; omega) ⟨by omega, by omega⟩
            rw [← (lin_same (x := u.l) (y := []) (n := on) (fun _ => by rw [← hag.out.pp]; exact iu.out.1) (fun _ => CoefOk.nil _)).2.2] at cSc
            have hwu : IntKind.u64.wrap on = on := by rw [IntKind.wrap_u64]; omega
            go_wp2_with fail
            refine (cSc).mono ?_
            rintro e w7 ⟨s, rfl, es, hs, hb7⟩
            have D7 := D.mono hb7
            go_wp2_with (at_builtin; refine wpList_appG _ lcL Ls [s] rfl _ _ 55 rfl w.heap.size 44 (.slice none 0 0) 24 Try.underlying55 Try.infoLc rfl (by decide) _ 1 1 (some ⟨w7.heap.size, 0, none⟩) rfl rfl rfl (D7.ow.alloc _) (SlG.oneL _ rfl) (by have := hLh.out; simp; omega) (by have := D7.below.size; simp; omega) ?_; intro v' w8 own' hg'; refine Hold.mk ?_)
            refine Hold.go ?_
            have DD := (D7.mono ((Below.refl _ _).alloc (Nat.le_refl _) (.cells #[lcV s] 44))).push (ys := [s]) (fun q hq => by rw [List.mem_singleton] at hq; subst hq; exact hs.mono ((Below.refl _ _).alloc (Nat.le_refl _) _)) hg' own'
            clear hg' own'
            have hq' : Hid ((S, (Ls ++ [s]).map Lc.l) = runO p (ops.take (j + 1)) Q0) := hide (by
              rw [htk.out, runO_snoc, ← hev.out, stO_atR (c := 12) hm, List.map_append, mu.out, my.out, mz.out]
              show (_, _ ++ [s.l]) = _; rw [es.out]; show _ = (S, _ ++ [addP S.p [] u.l on]); rw [hag.out.pp])
            clear hev htk D7
            go_wp2
            go_roundw
            case rel => exact ⟨j + 1, by omega, by go_num, _, _, DD, hq'⟩
            case measure => simp [intOf]; omega
          · as_aux_lemma =>
            have hm4 := mod_lt' (show (0 : Int) < 4 by decide) on
            obtain ⟨m, hmm⟩ : ∃ m : Nat, (m : Int) = on % 4 := ⟨(on % 4).toNat, by omega⟩
            have hmt : on.tmod 4 = (m : Int) := by rw [Int.tmod_eq_emod_of_nonneg hn1, hmm]
            have hm3 : (m : Int) ≤ 3 := by omega
            have hm0 : (0 : Int) ≤ (m : Int) := by omega
            have hwu : IntKind.u64.wrap on = on := by rw [IntKind.wrap_u64]; omega
            have hwi : IntKind.i64.wrap on = on := by rw [IntKind.wrap_i64]; omega
            obtain ⟨Vs, hVs⟩ : ∃ Vs, Vs = [u, y, z].take m := ⟨_, rfl⟩
            have hVl : Vs.length = m := by rw [hVs, List.length_take]; simp; omega
            have hVm : ∀ s ∈ Vs, s = u ∨ s = y ∨ s = z := fun s hs => by
              rw [hVs] at hs
              have := List.mem_of_mem_take hs
              simpa using this
            have hVe : Hid (Vs.map Lc.l = [u.l, y.l, z.l].take (on % 4).toNat) := hide (by rw [hVs, ← hmm, Int.toNat_natCast, List.map_take]; rfl)
            have cH := fun W (D : RS w W b p pub sec (some ⟨q2, off2, none⟩) ops.length lc S (.slice va Ls.length vc) Ls) g (gV : Blk W g #[lcV u, lcV y, lcV z] 44) (l1 : LinT W u) (l2 : LinT W y) (l3 : LinT W z) => rbHash_any w.heap.size b g S _ _ on (some ⟨g, 0, none⟩) 3 Vs W D.bld hag.out.wf hbd (by omega) ⟨by omega, by omega⟩ (OwnG.of_blk (cap := 3) (Nat.le_refl g) gV (by omega) (by decide) rfl (by rw [hVl, hVs, show m * lcL.m = m from Nat.mul_one m, flat1]; show List.take m (List.map lcV [u, y, z]) = _; exact List.map_take.symm)) (fun s hs => by rcases hVm s hs with rfl | rfl | rfl <;> assumption) (fun s hs => by have := zu.out; have := zy.out; have := zz.out; rcases hVm s hs with rfl | rfl | rfl <;> omega) (fun s hs => by rcases hVm s hs with rfl | rfl | rfl <;> first | exact iu.out | exact iv.out | exact iw.out) (by omega)
            rw [hVl, hVe.out] at cH
            clear hVs hVl hVm hm4
            replace hmm := hide hmm
            go_wp2_with fail
            refine Rel.region_any Try.mixed fun w7 hb7 => ?_
            replace D := D.mono hb7
            replace lu := lu.mono hb7
            replace ly := ly.mono hb7
            replace lz := lz.mono hb7
            replace g9 := g9.mono hb7
            refine Rel.any_held (fun W => W.cell? ⟨wr.heap.size, 4, none⟩ = some (.int .u8 on)) 17 (g9.cell (j := 4) rfl) fun hH0 => ?_
            refine Rel.heldTake (v := ?_) 0 rfl (by kernel_rfl) (by kernel_rfl) (by kernel_rfl) (fun _ _ _ h => h) (by assumption) (by rfl) ?_ ?_
            rotate_left
            · (intro W hSw; (try dsimp only at hSw); go_simp; try with_reducible rfl)
            try simp only [Act.put, List.setIfInBounds_toArray, List.set_cons_zero, List.set_cons_succ]
            refine Rel.heldTake (v := ?_) 1 rfl (by kernel_rfl) (by kernel_rfl) (by kernel_rfl) (fun _ _ _ h => h) (by assumption) (by rfl) ?_ ?_
            rotate_left
            · (intro W hSw; (try dsimp only at hSw); go_simp; try with_reducible rfl)
            try simp only [Act.put, List.setIfInBounds_toArray, List.set_cons_zero, List.set_cons_succ]
            refine Rel.heldTake (v := ?_) 2 rfl (by kernel_rfl) (by kernel_rfl) (by kernel_rfl) (fun _ _ _ h => h) (by assumption) (by rfl) ?_ ?_
            rotate_left
            · (intro W hSw; (try dsimp only at hSw); go_simp; try with_reducible rfl)
            try simp only [Act.put, List.setIfInBounds_toArray, List.set_cons_zero, List.set_cons_succ]
            refine Rel.heldTake (v := ?_) 3 rfl (by kernel_rfl) (by kernel_rfl) (by kernel_rfl) (fun _ _ _ h => h) (by assumption) (by rfl) ?_ ?_
            rotate_left
            · (intro W hSw; (try dsimp only at hSw); go_simp; try with_reducible rfl)
            try simp only [Act.put, List.setIfInBounds_toArray, List.set_cons_zero, List.set_cons_succ]
            refine Rel.heldTake (v := ?_) 4 rfl (by kernel_rfl) (by kernel_rfl) (by kernel_rfl) (fun _ _ _ h => h) (by assumption) (by rfl) ?_ ?_
            rotate_left
            · (intro W hSw; (try dsimp only at hSw); go_simp; try with_reducible rfl)
            try simp only [Act.put, List.setIfInBounds_toArray, List.set_cons_zero, List.set_cons_succ]
            refine Rel.heldTake (v := ?_) 5 rfl (by kernel_rfl) (by kernel_rfl) (by kernel_rfl) (fun _ _ _ h => h) (by assumption) (by rfl) ?_ ?_
            rotate_left
            · (intro W hSw; (try dsimp only at hSw); go_simp; try with_reducible rfl)
            try simp only [Act.put, List.setIfInBounds_toArray, List.set_cons_zero, List.set_cons_succ]
            refine Rel.heldTake (v := ?_) 6 rfl (by kernel_rfl) (by kernel_rfl) (by kernel_rfl) (fun _ _ _ h => h) (by assumption) (by rfl) ?_ ?_
            rotate_left
            · (intro W hSw; (try dsimp only at hSw); go_simp; try with_reducible rfl)
            try simp only [Act.put, List.setIfInBounds_toArray, List.set_cons_zero, List.set_cons_succ]
            refine Rel.heldTake (v := ?_) 7 rfl (by kernel_rfl) (by kernel_rfl) (by kernel_rfl) (fun _ _ _ h => h) (by assumption) (by rfl) ?_ ?_
            rotate_left
            · (intro W hSw; (try dsimp only at hSw); go_simp; try with_reducible rfl)
            try simp only [Act.put, List.setIfInBounds_toArray, List.set_cons_zero, List.set_cons_succ]
            refine Rel.heldTake (v := ?_) 9 rfl (by kernel_rfl) (by kernel_rfl) (by kernel_rfl) (fun _ _ _ h => h) (by assumption) (by rfl) ?_ ?_
            rotate_left
            · (intro W hSw; (try dsimp only at hSw); go_simp; try with_reducible rfl)
            try simp only [Act.put, List.setIfInBounds_toArray, List.set_cons_zero, List.set_cons_succ]
            refine Rel.heldTake (v := ?_) 10 rfl (by kernel_rfl) (by kernel_rfl) (by kernel_rfl) (fun _ _ _ h => h) (by assumption) (by rfl) ?_ ?_
            rotate_left
            · (intro W hSw; (try dsimp only at hSw); go_simp; try with_reducible rfl)
            try simp only [Act.put, List.setIfInBounds_toArray, List.set_cons_zero, List.set_cons_succ]
            refine Rel.heldTake (v := ?_) 11 rfl (by kernel_rfl) (by kernel_rfl) (by kernel_rfl) (fun _ _ _ h => h) (by assumption) (by rfl) ?_ ?_
            rotate_left
            · (intro W hSw; (try dsimp only at hSw); go_simp; try with_reducible rfl)
            try simp only [Act.put, List.setIfInBounds_toArray, List.set_cons_zero, List.set_cons_succ]
            refine Rel.heldTake (v := ?_) 12 rfl (by kernel_rfl) (by kernel_rfl) (by kernel_rfl) (fun _ _ _ h => h) (by assumption) (by rfl) ?_ ?_
            rotate_left
            · (intro W hSw; (try dsimp only at hSw); go_simp; try with_reducible rfl)
            try simp only [Act.put, List.setIfInBounds_toArray, List.set_cons_zero, List.set_cons_succ]
            refine Rel.heldNext 8 rfl (by kernel_rfl) fun K hK => ?_
            go_simp
            have hbA : Below w7.heap.size w7 (w7.alloc (.cells #[lcV u, lcV y, lcV z] 44)) := (Below.refl _ _).alloc (Nat.le_refl _) _
            replace D := D.mono hbA
            replace lu := lu.mono hbA
            replace ly := ly.mono hbA
            replace lz := lz.mono hbA
            replace g9 := g9.mono hbA
            refine hK.out _ _ (g9.cell (j := 4) rfl) (fun hHW => ?_)
            clear hK K
            try simp only [Act.put, List.setIfInBounds_toArray, List.set_cons_zero, List.set_cons_succ]
            clear hH0
            refine Rel.heldTake (v := ?_) 13 rfl (by kernel_rfl) (by kernel_rfl) (by kernel_rfl) (fun _ _ _ h => h) (by assumption) (by rfl) ?_ ?_
            rotate_left
            · (intro W hSw; (try dsimp only at hSw); go_simp; try with_reducible rfl)
            try simp only [Act.put, List.setIfInBounds_toArray, List.set_cons_zero, List.set_cons_succ]
            refine Rel.heldNext 14 rfl (by kernel_rfl) fun K hK => ?_
            go_simp
            refine (cH _ D _ (Blk.new _ _ _) lu ly lz).mono ?_
            rintro e w8 ⟨s, rfl, es, hs, hB8, k8⟩
            clear cH
            have D8 := D.kept k8 hB8
            have g98 := k8.typ _ _ _ g9 xrO
            refine hK.out _ _ (g98.cell (j := 4) rfl) (fun hH1 => ?_)
            clear hK K
            try simp only [Act.put, List.setIfInBounds_toArray, List.set_cons_zero, List.set_cons_succ]
            refine Rel.heldNext 15 rfl (by kernel_rfl) fun K hK => ?_
            go_simp
            have D9 := D8.mono ((Below.refl _ _).alloc (Nat.le_refl _) (.cells #[lcV s] 44))
            have g99 := g98.mono ((Below.refl _ _).alloc (Nat.le_refl _) (.cells #[lcV s] 44))
            have hys : ∀ s' ∈ [s], LinT (w8.alloc (.cells #[lcV s] 44)) s' := fun s' h => by
              rw [List.mem_singleton] at h; subst h; exact hs.mono ((Below.refl _ _).alloc (Nat.le_refl _) _)
            refine hK.out _ _ (g99.cell (j := 4) rfl) (fun hH2 => ?_)
            clear hK K
            try simp only [Act.put, List.setIfInBounds_toArray, List.set_cons_zero, List.set_cons_succ]
            refine Rel.heldNext 16 rfl (by kernel_rfl) fun K hK => ?_
            refine step_appGR lcL Ls [s] rfl _ _ 55 rfl w.heap.size 44 (.slice none 0 0) 24 Try.underlying55 Try.infoLc rfl (by decide) _ 1 1 (some ⟨w8.heap.size, 0, none⟩) rfl rfl rfl D9.ow (SlG.oneL _ rfl) (by have := hLh.out; simp; omega) D9.below.size ?_
            intro v' w9 own' hg'
            have DD := D9.push (ys := [s]) hys hg' own'
            have g9' := (KX.grew (X := fun T => T = 44) D9.ow hg' rfl D9.below.size).typ _ _ _ g99 (by decide)
            refine hK.out _ _ (g9'.cell (j := 4) rfl) (fun hH3 => ?_)
            clear hK K
            try simp only [Act.put, List.setIfInBounds_toArray, List.set_cons_zero, List.set_cons_succ]
            refine Rel.heldLast 17 rfl (by kernel_rfl) rfl (by kernel_rfl) fun K hK => ?_
            go_simp
            refine hK.out _ _ ?_
            clear hK K hH1 hH2 hH3 hHW
            clear hg' own'
            have hq' : Hid (((gHash S on ([u.l, y.l, z.l].take (on % 4).toNat)).1, (Ls ++ [s]).map Lc.l) = runO p (ops.take (j + 1)) Q0) := hide (by
              rw [htk.out, runO_snoc, ← hev.out, stO_atR (c := 13) hm, List.map_append, mu.out, my.out, mz.out]
              show (_, _ ++ [s.l]) = _; rw [es.out]; rfl)
            clear hev htk D8
            go_wp2
            go_roundw
            case rel => exact ⟨j + 1, by omega, by go_num, _, _, DD, hq'⟩
            case measure => simp [intOf]; omega
        · obtain rfl : j = ops.length := by omega
          rw [List.take_length] at hev
          obtain ⟨va, vc, ve, _⟩ := D.ow.sl
          subst ve
          go_wp2
          exact bodyPost_ret (v := .tuple #[.pointer (some ⟨b, 0, none⟩), .slice va Ls.length vc]) (by simp [results, Try.results41, go_sem]) rfl ⟨b, _, Ls, rfl, by rw [← hev.out]; exact D.bld, D.ow, D.ls, hide (by rw [← hev.out]), D.below⟩
end Go.Proofs.Ytlgjnidphldiiaa
