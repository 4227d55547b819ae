/- Gadgets: the reference's Hash. -/
import Derived.Test.YtlgjnidphldiiaaQRefC
import Derived.Test.YtlgjnidphldiiaaQGmh
namespace Go.Proofs.Ytlgjnidphldiiaa
open Go.RowKit

/-- A state of Hash between two rounds. -/
structure TF (p : Int) (I : List Int) (N : Int) (q : St × L3) : Prop where
  wf : Wf q.1 I
  lin : Lin3 q.1 q.2
  pp : q.1.p = p
  bd : Bd q.1 N
  sm : Sm3 30000 q.2
def TT (p : Int) (VL : List Lin) (Q : St × L3) (m r : Nat) : St × L3 := gPerm r ((gHashN p VL m Q).1, gAbs p VL (2 * m) 2 (gHashN p VL m Q).2)
theorem TF.gs {p : Int} {I : List Int} {N : Int} {q : St × L3} {VL : List Lin} {S0 : St} (h : TF p I N q) (hs : Sm3 4 q.2) (e : Ext S0 q.1 I) (hV : ∀ x ∈ VL, LinIn S0.p 0 S0.vars x) (hl : ∀ x ∈ VL, x.length ≤ 20000) (i r : Nat) :
    TF p I (N + 24 * r) (gPerm r (q.1, gAbs p VL i 2 q.2)) ∧ Ext S0 (gPerm r (q.1, gAbs p VL i 2 q.2)).1 I := by
  obtain ⟨la, _⟩ := abs_val h.wf h.lin (fun x hx => e.lin (hV x hx)) i
  rw [h.pp] at la
  obtain ⟨e2, _, l2, _⟩ := perm_ext h.wf la r
  refine ⟨⟨e2.wf, l2, by rw [e2.p, h.pp], gPerm_bd (q := (q.1, gAbs p VL i 2 q.2)) h.bd r, gPerm_len (q := (q.1, gAbs p VL i 2 q.2)) ?_ (by decide) r⟩, e.trans e2⟩
  obtain ⟨s1, s2, s3⟩ := gAbs_len (p := p) (VL := VL) (i := i) (j := 2) hs hl
  exact ⟨by show (gAbs p VL i 2 q.2).a.length ≤ _; omega, by show (gAbs p VL i 2 q.2).b.length ≤ _; omega, by show (gAbs p VL i 2 q.2).c.length ≤ _; omega⟩
theorem TF.all {S : St} {I : List Int} (h : Wf S I) (label : Int) {VL : List Lin} (hV : ∀ x ∈ VL, LinIn S.p 0 S.vars x) (hl : ∀ x ∈ VL, x.length ≤ 20000) {N : Int} (hb : Bd S N) : ∀ m : Nat,
    TF S.p I (N + 192 * m) (gHashN S.p VL m (S, hash0 S.p label VL.length)) ∧ Sm3 4 (gHashN S.p VL m (S, hash0 S.p label VL.length)).2 ∧ Ext S (gHashN S.p VL m (S, hash0 S.p label VL.length)).1 I
  | 0 => by
    have hk := keepT_len (0, fred S.p (hashLast S.p label VL.length))
    have hs : Sm3 4 (hash0 S.p label VL.length) := ⟨by simp [hash0], by simp [hash0], by show (keepT _).length ≤ 4; omega⟩
    refine ⟨⟨h, ⟨LinIn.nil .., LinIn.nil .., cst_in h.v _ h.pos⟩, rfl, hb.up (by omega), ?_⟩, hs, Ext.refl h⟩
    exact ⟨Nat.le_trans hs.1 (by decide), Nat.le_trans hs.2.1 (by decide), Nat.le_trans hs.2.2 (by decide)⟩
  | m + 1 => by
    obtain ⟨t, s, e⟩ := TF.all h label hV hl hb m
    obtain ⟨t2, e2⟩ := t.gs s e hV hl (2 * m) 8
    refine ⟨⟨t2.wf, t2.lin, t2.pp, ?_, t2.sm⟩, gPerm8_len _, e2⟩
    exact t2.bd.up (by omega)
/-- Behind the powers of a round. -/
theorem TF.sub {p : Int} {I : List Int} {N : Int} {q : St × L3} (h : TF p I N q) (r : Int) : TF p I (N + 24) (gSub r q) ∧ Sm3 1 (gSub r q).2 := by
  obtain ⟨e, _, l, _⟩ := sub_ext h.wf h.lin r
  obtain ⟨s1, s2, s3⟩ := gSub_len r q
  refine ⟨⟨e.wf, l, by rw [gSub_p, h.pp], ?_, ⟨Nat.le_trans s1 (by decide), Nat.le_trans s2 (by decide), Nat.le_trans s3 (by decide)⟩⟩, s1, s2, s3⟩
  have := pB_bd (q := (q.1, gKon3 q.1.p r q.2)) h.bd 3
  exact this
theorem KX.setNew {X : TypeId → Prop} {base : Nat} {w wr : World} (k : KX X base w wr) {q j : Nat} (hq : w.heap.size ≤ q) (hb : base ≤ w.heap.size) (u : Value) : KX X base w (wr.setCell ⟨q, j, none⟩ u) :=
  ⟨k.below.setCell (by show base ≤ q; omega) _, fun b cs T gb h => (k.typ b cs T gb h).other (fun e => by subst e; have := gb.lt; omega) _ _⟩

/-- The state of Hash in memory. -/
structure HR (w wr : World) (base b q : Nat) (S : St) (x y z : Lc) (B : Nat) (v : Value) (Ls : List Lc) : Prop where
  kx : KX XR base w wr
  bld : BlR wr base b S
  blk : Blk wr q #[lcV x, lcV y, lcV z] 118
  lx : LinT wr x
  ly : LinT wr y
  lz : LinT wr z
  ow : OwnG lcL wr B 44 v Ls
  ls : ∀ s ∈ Ls, LinT wr s
section
variable {w wr w2 : World} {base b q B : Nat} {S S' : St} {x y z : Lc} {v : Value} {Ls : List Lc}
theorem HR.below (h : HR w wr base b q S x y z B v Ls) (hb : Below wr.heap.size wr w2) : HR w w2 base b q S x y z B v Ls :=
  ⟨h.kx.trans (KX.of_below hb h.bld.lt), h.bld.mono hb, h.blk.mono hb, h.lx.mono hb, h.ly.mono hb, h.lz.mono hb, h.ow.mono hb, fun s hs => (h.ls s hs).mono hb⟩
theorem HR.keep (h : HR w wr base b q S x y z B v Ls) (k : KX XR base wr w2) (hB : BlR w2 base b S') : HR w w2 base b q S' x y z B v Ls :=
  ⟨h.kx.trans k, hB, k.typ _ _ _ h.blk (by unfold XR; decide), k.lin xrT h.lx, k.lin xrT h.ly, k.lin xrT h.lz, k.own xrL h.ow, fun s hs => k.lin xrT (h.ls s hs)⟩
theorem HR.set (h : HR w wr base b q S x y z B v Ls) (hq : w.heap.size ≤ q) (hb : base ≤ w.heap.size) (j : Nat) (s x' y' z' : Lc)
    (hc : (#[lcV x, lcV y, lcV z] : Array Value).setIfInBounds j (lcV s) = #[lcV x', lcV y', lcV z']) (hx : LinT wr x') (hy : LinT wr y') (hz : LinT wr z') : HR w (wr.setCell ⟨q, j, none⟩ (lcV s)) base b q S x' y' z' B v Ls := by
  have k3 : KX (fun T => T = 118) base wr (wr.setCell ⟨q, j, none⟩ (lcV s)) := KX.set h.blk rfl (by omega)
  have l2 : ∀ t, LinT wr t → LinT (wr.setCell ⟨q, j, none⟩ (lcV s)) t := fun t ht => k3.lin (by decide) ht
  refine ⟨h.kx.setNew hq hb _, h.bld.kx k3 (by decide) (by decide) (by decide) (by decide), ?_, l2 _ hx, l2 _ hy, l2 _ hz, k3.own (by decide) h.ow, fun t ht => l2 t (h.ls t ht)⟩
  have := h.blk.set j (lcV s)
  rw [hc] at this
  exact this
end

set_option maxRecDepth 10000 in
set_option maxHeartbeats 64000000 in
theorem rbHash_any (base b B : Nat) (S : St) (I : List Int) (N label : Int) (ad : Option Addr) (c : Nat) (Ls : List Lc) (w : World) (h : BlR w base b S) (wf : Wf S I) (hS : Bd S N) (hN : N ≤ 600000000) (hlab : 0 ≤ label ∧ label < 18446744073709551616)
    (ow : OwnG lcL w B 44 (.slice ad Ls.length c) Ls) (hls : ∀ s ∈ Ls, LinT w s) (hlen : ∀ s ∈ Ls, s.l.length ≤ 20000) (hlin : ∀ s ∈ Ls, LinIn S.p 0 S.vars s.l) (hn : Ls.length ≤ 1000) :
    Calls Try.prog 96 #[.pointer (some ⟨b, 0, none⟩), .int .u64 label, .slice ad Ls.length c] w (RetBR w base b (gHash S label (Ls.map Lc.l)).1 (gHash S label (Ls.map Lc.l)).2) := by
  have hb0 := h.lt
  have hv := wf.v
  obtain ⟨p, hp⟩ : ∃ p, p = S.p := ⟨_, rfl⟩
  obtain ⟨VL, hVL⟩ : ∃ VL, VL = Ls.map Lc.l := ⟨_, rfl⟩
  have hVl : VL.length = Ls.length := by rw [hVL, List.length_map]
  have hV1 : ∀ x ∈ VL, x.length ≤ 20000 := fun x hx => by
    rw [hVL] at hx
    obtain ⟨s, hs, rfl⟩ := List.mem_map.1 hx
    exact hlen s hs
  have hV2 : ∀ x ∈ VL, LinIn S.p 0 S.vars x := fun x hx => by
    rw [hVL] at hx
    obtain ⟨s, hs, rfl⟩ := List.mem_map.1 hx
    exact hlin s hs
  have hVg : Hid (∀ i, i < Ls.length → (Ls.getD i default).l = VL.getD i [] ∧ (VL.getD i []).length ≤ 20000 ∧ CoefOk S.p (VL.getD i [])) := hide fun i hi => by
    have e : (Ls.getD i default).l = VL.getD i [] := by rw [hVL, getD_map' Lc.l Ls i default [] hi]
    have hm : VL.getD i [] ∈ VL := getD_mem' (by rw [hVl]; exact hi) []
    exact ⟨e, hV1 _ hm, (hV2 _ hm).1⟩
  obtain ⟨Q, hQ⟩ : ∃ Q : St × L3, Q = (S, hash0 p label Ls.length) := ⟨_, rfl⟩
  obtain ⟨M, hM⟩ : ∃ M, M = hashM Ls.length := ⟨_, rfl⟩
  have hM1 : 1 ≤ M := by rw [hM]; exact hashM_pos _
  have hMl : Hid (∀ m, m < M → m = 0 ∨ 2 * m < Ls.length) := hide fun m hm => by rw [hM] at hm; exact hashM_lt hm
  have hMg : Ls.length ≤ 2 * M ∧ M ≤ Ls.length + 1 := by rw [hM]; exact hashM_ge
  have hG : ∀ m : Nat, TF p I (N + 192 * m) (gHashN p VL m Q) ∧ Sm3 4 (gHashN p VL m Q).2 ∧ Ext S (gHashN p VL m Q).1 I := fun m => by
    have := TF.all wf label hV2 hV1 hS m
    rw [hVl, ← hp, ← hQ] at this
    exact this
  have hT : ∀ m r : Nat, TF p I (N + 192 * m + 24 * r) (TT p VL Q m r) := fun m r => ((hG m).1.gs (hG m).2.1 (hG m).2.2 hV2 hV1 (2 * m) r).1
  have hR : gHash S label (Ls.map Lc.l) = ((gHashN p VL M Q).1, (gHashN p VL M Q).2.a) := by
    unfold gHash
    rw [← hVL, ← hp, hVl, ← hM, ← hQ]
  rw [hR]
  rw [← hp] at hVg
  obtain ⟨K, hK⟩ : ∃ K, K = hashLast p label Ls.length := ⟨_, rfl⟩
  have hm1 := fmul_bd p label 65536
  have hK1 : 0 ≤ K ∧ K < 18446744073709551616 := by rw [hK]; exact fadd_bd _ _ _
  have hK2 : Hid (fadd p (fmul p label 65536) Ls.length = K) := hide hK.symm
  have hK3 : Hid (hash0 p label Ls.length = ⟨[], [], keepT (0, fred p K)⟩) := hide (by rw [hK]; rfl)
  have cMu := fun W => rMul_any p label 65536 W hlab.1 hlab.2 (by decide) (by decide)
  generalize fmul p label 65536 = U at *
  have cAd := fun W => rAdd_any p U (Ls.length : Int) W hm1.1 hm1.2 (by omega) (by omega)
  rw [hK2.out] at cAd
  have hwl : IntKind.u64.wrap (Ls.length : Int) = Ls.length := by rw [IntKind.wrap_u64]; omega
  have cP := h.p_any
  rw [← hp] at cP hv
  replace hp := hide hp
  replace hVL := hide hVL
  replace hVl := hide hVl
  replace hQ := hide hQ
  replace hM := hide hM
  replace hG := hide hG
  replace hT := hide hT
  replace hK := hide hK
  clear hR hS hm1 hlen hlin hV1 hV2 wf
  go_enter Try.func96, Try.ntmps96
  go_wp2_with fail
  refine cP.mono ?_
  rintro e w1 ⟨rfl, hb1⟩
  go_wp2_with fail
  refine (cMu w1).mono ?_
  rintro e w2 ⟨rfl, hb2⟩
  go_wp2_with fail
  refine (cAd w2).mono ?_
  rintro e w3 ⟨rfl, hb3⟩
  go_wp2_with fail
  refine (rConstant20_any p K w3 hK1).mono ?_
  rintro e w4 ⟨t, rfl, et, lt, hb4⟩
  have hb14 := below2 (below2 (below2 hb1 hb2) hb3) hb4
  have hz4 := hb14.size
  have k4 := KX.of_below (X := XR) hb14 hb0
  replace h := h.mono hb14
  replace ow := ow.mono hb14
  replace hls := fun s hs => (hls s hs).mono hb14
  clear hb1 hb2 hb3 hb4 hb14 cP cMu cAd hwl hlab
  go_wp2_with fail
  refine name_world fun w5 hN5 => ?_
  have gT : Blk w5 w4.heap.size #[.slice none 0 0, .slice none 0 0, .slice t.ad t.l.length t.cap] 118 := by rw [hN5]; exact Blk.newAt rfl
  have hb5 : Below w4.heap.size w4 w5 := by rw [hN5]; exact (Below.refl _ _).alloc (Nat.le_refl _) _
  clear hN5
  have H0 : HR w w5 base b w4.heap.size (gHashN p VL 0 Q).1 ⟨none, 0, []⟩ ⟨none, 0, []⟩ t B (.slice ad Ls.length c) Ls :=
    ⟨k4.trans (KX.of_below hb5 h.lt), by show BlR w5 base b Q.1; rw [hQ.out]; exact h.mono hb5, gT, LinT.nil _, LinT.nil _, lt.mono hb5, ow.mono hb5, fun s hs => (hls s hs).mono hb5⟩
  have E0 : Hid ((⟨[], [], t.l⟩ : L3) = (gHashN p VL 0 Q).2) := hide (by show _ = Q.2; rw [hQ.out, et.out]; exact hK3.out.symm)
  obtain ⟨q0, hq0⟩ : ∃ q0, q0 = w4.heap.size := ⟨_, rfl⟩
  have hqz : w.heap.size ≤ q0 := by omega
  rw [← hq0] at H0 ⊢
  replace hq0 := hide hq0
  clear h ow hls gT hb5 k4 lt et hz4 hK hK2 hK3 hK1
  go_loopw [9] (fun t9 wr => ∃ m i : Nat, m ≤ M ∧ Hid (i = 2 * m) ∧ t9 = .int .i64 i ∧ ∃ x y z : Lc, HR w wr base b q0 (gHashN p VL m Q).1 x y z B (.slice ad Ls.length c) Ls ∧ Hid ((⟨x.l, y.l, z.l⟩ : L3) = (gHashN p VL m Q).2)) (fun t9 _ => 2 * M - (intOf t9).toNat)
  case atStart => exact ⟨0, 0, by omega, hide rfl, rfl, _, _, t, H0, E0⟩
  case round =>
    clear H0 E0
    obtain ⟨m, i, hm, hi, rfl, x, y, z, H, hE⟩ := hrel
    by_cases hlt : m < M
    · have hcase := hide (hMl.out m hlt)
      have hQN : Hid (gHashN p VL (m + 1) Q = TT p VL Q m 8) := hide rfl
      have hQ0 : Hid (TT p VL Q m 0 = ((gHashN p VL m Q).1, gAbs p VL i 2 (gHashN p VL m Q).2)) := hide (by rw [hi.out]; rfl)
      have hTm := hide (hT.out m)
      have hGm := hide (hG.out m).1
      have hGs := hide (hG.out m).2.1
      have hib : i ≤ 2000 := by have := hi.out; omega
      obtain ⟨⟨S1, s⟩, hq⟩ : ∃ q : St × L3, q = gHashN p VL m Q := ⟨_, rfl⟩
      rw [← hq] at hGm hGs hQ0 H hE
      simp only at H hE
      have hc3 := hGm.out.lin
      have hpp := hGm.out.pp
      have hsm := hGs.out
      obtain ⟨sm1, sm2, sm3⟩ := hsm
      simp only at hc3 hpp sm1 sm2 sm3
      have ca : CoefOk p s.a := by rw [← hpp]; exact hc3.1.1
      have cb : CoefOk p s.b := by rw [← hpp]; exact hc3.2.1.1
      have ea : Hid (x.l = s.a) := hide (congrArg L3.a hE.out)
      have eb : Hid (y.l = s.b) := hide (congrArg L3.b hE.out)
      have lx0 : x.l.length ≤ 4 := by rw [ea.out]; exact sm1
      have ly0 : y.l.length ≤ 4 := by rw [eb.out]; exact sm2
      replace hpp := hide hpp
      replace hq := hide hq
      clear hc3 hGm hGs sm1 sm2 sm3
      rcases (show (m = 0 ∧ Ls.length = 0) ∨ (m = 0 ∧ Ls.length = 1) ∨ (m = 0 ∧ 2 ≤ Ls.length) ∨ (0 < m ∧ Ls.length = 2 * m + 1) ∨ (0 < m ∧ 2 * m + 1 < Ls.length) by have := hcase.out; omega) with ⟨hc1, hc2⟩ | ⟨hc1, hc2⟩ | ⟨hc1, hc2⟩ | ⟨hc1, hc2⟩ | ⟨hc1, hc2⟩
      · as_aux_lemma =>
        have hi0 : ((i : Int) == 0) = true := by have := hi.out; simp; omega
        have hin0i : (Ls.length : Int) ≤ i := by have := hi.out; omega
        have hin1i : (Ls.length : Int) ≤ (i : Int) + 1 := by have := hi.out; omega
        replace hc1 := hide hc1
        replace hc2 := hide hc2
        have E1 : Hid ((⟨x.l, y.l, z.l⟩ : L3) = (TT p VL Q m 0).2) := hide (by
          rw [hQ0.out]
          show _ = gAbs p VL i 2 s
          have hvl := hVl.out
          have hi9 := hi.out
          have c1 : ¬ i < VL.length := by omega
          have c2 : ¬ i + 1 < VL.length := by omega
          unfold gAbs
          rw [if_neg (by omega), if_neg (by omega)]
          exact hE.out)
        have eT0 : (TT p VL Q m 0).1 = S1 := by rw [hQ0.out]
        have H1 := H
        rw [← eT0] at H1
        replace eT0 := hide eT0
        clear H hE ea eb ca cb lx0 ly0 hpp hq 
        replace hv := hide hv
        go_wp2_with fail
        obtain ⟨wO, hwO⟩ : ∃ wO, wO = wr := ⟨_, rfl⟩
        subst hwO
        go_loopw [10] (fun t10 wr => ∃ r : Nat, r ≤ 8 ∧ t10 = .int .i64 r ∧ ∃ x y z : Lc, HR w wr base b q0 (TT p VL Q m r).1 x y z B (.slice ad Ls.length c) Ls ∧ Hid ((⟨x.l, y.l, z.l⟩ : L3) = (TT p VL Q m r).2)) (fun t10 _ => 8 - (intOf t10).toNat)
        case atStart => exact ⟨0, by omega, rfl, x, y, z, H1, E1⟩
        case round =>
          clear H1 E1
          obtain ⟨r, hr, rfl, x, y, z, P, hE⟩ := hrel
          by_cases hlt8 : r < 8
          · have hlt8' : (r : Int) < 8 := by omega
            have hTr := hTm.out r
            have hnx : Hid (TT p VL Q m (r + 1) = gRound r (TT p VL Q m r)) := hide rfl
            obtain ⟨QR, hQR⟩ : ∃ QR, QR = TT p VL Q m (r + 1) := ⟨_, rfl⟩
            rw [← hQR] at hnx
            replace hQR := hide hQR
            obtain ⟨⟨S1, s⟩, hq⟩ : ∃ q : St × L3, q = TT p VL Q m r := ⟨_, rfl⟩
            rw [← hq] at hTr hnx P hE
            simp only at P hE
            have hS1 : Hid (S1.p = p) := hide hTr.pp
            have hS2 : Bd S1 (N + 192 * m + 24 * r) := hTr.bd
            have hS3 : Hid (Sm3 30000 s) := hide hTr.sm
            have hco : Hid (CoefOk p s.a ∧ CoefOk p s.b ∧ CoefOk p s.c) := hide (by
              have h1 := hTr.lin
              have h2 : S1.p = p := hTr.pp
              rw [← h2]
              exact ⟨h1.1.1, h1.2.1.1, h1.2.2.1⟩)
            replace hTr := hide hTr
            replace hq := hide hq
            have hE' : Hid ((⟨x.l, y.l, z.l⟩ : L3) = kA p r s 0) := hE
            go_wp2_with fail
            obtain ⟨wP, hwP⟩ : ∃ wP, wP = wr := ⟨_, rfl⟩
            subst hwP
            go_loopw [11] (fun t11 wr => ∃ k : Nat, k ≤ 3 ∧ t11 = .int .i64 k ∧ ∃ x y z : Lc, HR w wr base b q0 S1 x y z B (.slice ad Ls.length c) Ls ∧ Hid ((⟨x.l, y.l, z.l⟩ : L3) = kA p r s k)) (fun t11 _ => 3 - (intOf t11).toNat)
            case atStart => exact ⟨0, by omega, rfl, x, y, z, P, hE'⟩
            case round =>
              clear P hE hE'
              obtain ⟨k, hk, rfl, x, y, z, P, hE⟩ := hrel
              by_cases hlt3 : k < 3
              · obtain rfl | rfl | rfl : k = 0 ∨ k = 1 ∨ k = 2 := by omega
                · have hel : Hid (x.l = s.a) := hide (by have := congrArg L3.a hE.out; exact this)
                  have hsl : x.l.length ≤ 30000 := by rw [hel.out]; have := hS3.out; unfold Sm3 at this; omega
                  have cK := fun W => rConstant_any p r 0 W
                  have kb := fconst_bd p r 0
                  obtain ⟨kc, hkc⟩ : ∃ kc, kc = fconst p r 0 := ⟨_, rfl⟩
                  rw [← hkc] at cK kb
                  have hkon : Hid (addL p s.a (keepT (0, fred p kc)) = gKon p r 0 s.a) := hide (by rw [hkc]; rfl)
                  replace hkc := hide hkc
                  go_wp2_with fail
                  refine Rel.region_any Try.mixed fun w7 hb7 => ?_
                  replace P := P.below hb7
                  refine Rel.any_held (fun W => W.cell? ⟨q0, 0, none⟩ = some (.slice x.ad x.l.length x.cap)) 13 (P.blk.cell (j := 0) rfl) fun hH0 => ?_
                  refine Rel.heldTake (v := ?_) 0 rfl (by kernel_rfl) (by kernel_rfl) (by kernel_rfl) (fun _ _ _ h => h) (by assumption) (by rfl) ?_ ?_
                  rotate_left
                  · (intro W hSw; (try dsimp only at hSw); go_simp; try with_reducible rfl)
                  try simp only [Act.put, List.setIfInBounds_toArray, List.set_cons_zero, List.set_cons_succ]
                  refine Rel.heldTake (v := ?_) 1 rfl (by kernel_rfl) (by kernel_rfl) (by kernel_rfl) (fun _ _ _ h => h) (by assumption) (by rfl) ?_ ?_
                  rotate_left
                  · (intro W hSw; (try dsimp only at hSw); go_simp; try with_reducible rfl)
                  try simp only [Act.put, List.setIfInBounds_toArray, List.set_cons_zero, List.set_cons_succ]
                  refine Rel.heldTake (v := ?_) 2 rfl (by kernel_rfl) (by kernel_rfl) (by kernel_rfl) (fun _ _ _ h => h) (by assumption) (by rfl) ?_ ?_
                  rotate_left
                  · (intro W hSw; (try dsimp only at hSw); go_simp; try with_reducible rfl)
                  try simp only [Act.put, List.setIfInBounds_toArray, List.set_cons_zero, List.set_cons_succ]
                  refine Rel.heldTake (v := ?_) 3 rfl (by kernel_rfl) (by kernel_rfl) (by kernel_rfl) (fun _ _ _ h => h) (by assumption) (by rfl) ?_ ?_
                  rotate_left
                  · (intro W hSw; (try dsimp only at hSw); go_simp; try with_reducible rfl)
                  try simp only [Act.put, List.setIfInBounds_toArray, List.set_cons_zero, List.set_cons_succ]
                  refine Rel.heldTake (v := ?_) 4 rfl (by kernel_rfl) (by kernel_rfl) (by kernel_rfl) (fun _ _ _ h => h) (by assumption) (by rfl) ?_ ?_
                  rotate_left
                  · (intro W hSw; (try dsimp only at hSw); go_simp; try with_reducible rfl)
                  try simp only [Act.put, List.setIfInBounds_toArray, List.set_cons_zero, List.set_cons_succ]
                  refine Rel.heldTake (v := ?_) 5 rfl (by kernel_rfl) (by kernel_rfl) (by kernel_rfl) (fun _ _ _ h => h) (by assumption) (by rfl) ?_ ?_
                  rotate_left
                  · (intro W hSw; (try dsimp only at hSw); go_simp; try with_reducible rfl)
                  try simp only [Act.put, List.setIfInBounds_toArray, List.set_cons_zero, List.set_cons_succ]
                  refine Rel.heldTake (v := ?_) 6 rfl (by kernel_rfl) (by kernel_rfl) (by kernel_rfl) (fun _ _ _ h => h) (by assumption) (by rfl) ?_ ?_
                  rotate_left
                  · (intro W hSw; (try dsimp only at hSw); go_simp; try with_reducible rfl)
                  try simp only [Act.put, List.setIfInBounds_toArray, List.set_cons_zero, List.set_cons_succ]
                  refine Rel.heldTake (v := ?_) 7 rfl (by kernel_rfl) (by kernel_rfl) (by kernel_rfl) (fun _ _ _ h => h) (by assumption) (by rfl) ?_ ?_
                  rotate_left
                  · (intro W hSw; (try dsimp only at hSw); go_simp; try with_reducible rfl)
                  try simp only [Act.put, List.setIfInBounds_toArray, List.set_cons_zero, List.set_cons_succ]
                  refine Rel.heldTake (v := ?_) 8 rfl (by kernel_rfl) (by kernel_rfl) (by kernel_rfl) (fun _ _ _ h => h) (by assumption) (by rfl) ?_ ?_
                  rotate_left
                  · (intro W hSw; (try dsimp only at hSw); go_simp; try with_reducible rfl)
                  try simp only [Act.put, List.setIfInBounds_toArray, List.set_cons_zero, List.set_cons_succ]
                  refine Rel.heldNext 9 rfl (by kernel_rfl) fun K hK => ?_
                  go_simp
                  refine (cK _).mono ?_
                  rintro e w8 ⟨rfl, hb8⟩
                  replace P := P.below hb8
                  refine hK.out _ _ (P.blk.cell (j := 0) rfl) (fun hH1 => ?_)
                  clear hK K
                  try simp only [Act.put, List.setIfInBounds_toArray, List.set_cons_zero, List.set_cons_succ]
                  refine Rel.heldNext 10 rfl (by kernel_rfl) fun K hK => ?_
                  go_simp
                  refine (rConstant20_any p kc w8 kb).mono ?_
                  rintro e w9 ⟨tk, rfl, ek, lk, hb9⟩
                  replace P := P.below hb9
                  have lk1 : tk.l.length ≤ 1 := by rw [ek.out]; exact keepT_len _
                  refine hK.out _ _ (P.blk.cell (j := 0) rfl) (fun hH2 => ?_)
                  clear hK K
                  try simp only [Act.put, List.setIfInBounds_toArray, List.set_cons_zero, List.set_cons_succ]
                  refine Rel.heldNext 11 rfl (by kernel_rfl) fun K hK => ?_
                  go_simp
                  have cA := rAddS_any p x tk w9 P.lx.ok lk.ok (by omega) (by rw [hel.out]; exact hco.out.1) (by rw [ek.out]; exact (cst_in (hi := 1) hv.out _ (by decide)).1)
                  have eA : addL p x.l tk.l = gKon p r 0 s.a := by rw [← hkon.out, hel.out, ek.out]
                  rw [eA] at cA
                  refine cA.mono ?_
                  rintro e w10 ⟨n, rfl, en, ln, hb10⟩
                  replace P := P.below hb10
                  refine hK.out _ _ (P.blk.cell (j := 0) rfl) (fun hH3 => ?_)
                  clear hK K
                  try simp only [Act.put, List.setIfInBounds_toArray, List.set_cons_zero, List.set_cons_succ]
                  refine Rel.heldTake (v := ?_) 12 rfl (by kernel_rfl) (by kernel_rfl) (by kernel_rfl) (fun _ _ _ h => h) (by assumption) (by rfl) ?_ ?_
                  rotate_left
                  · (intro W hSw; (try dsimp only at hSw); go_simp; try with_reducible rfl)
                  try simp only [Act.put, List.setIfInBounds_toArray, List.set_cons_zero, List.set_cons_succ]
                  have f := P.blk.free 0
                  have cq := P.blk.cell (j := 0) (v := .slice x.ad x.l.length x.cap) rfl
                  refine Rel.heldLast 13 rfl (by kernel_rfl) rfl (by kernel_rfl) fun K hK => ?_
                  go_simp
                  refine hK.out _ _ ?_
                  have PP := P.set hqz hb0 0 n n y z rfl ln P.ly P.lz
                  have hE2 : Hid ((⟨n.l, y.l, z.l⟩ : L3) = kA p r s 1) := hide (by
                    have e1 := congrArg L3.a hE.out
                    have e2 := congrArg L3.b hE.out
                    have e3 := congrArg L3.c hE.out
                    simp only [kA] at e1 e2 e3 ⊢
                    simp [en.out, e2, e3])
                  clear hK K hH0 hH1 hH2 hH3 f cq P hE hel cA eA en lk ek
                  go_wp2
                  go_roundw
                  case rel => exact ⟨1, by omega, rfl, _, _, _, PP, hE2⟩
                  case measure => simp [intOf]
                · have hel : Hid (y.l = s.b) := hide (by have := congrArg L3.b hE.out; exact this)
                  have hsl : y.l.length ≤ 30000 := by rw [hel.out]; have := hS3.out; unfold Sm3 at this; omega
                  have cK := fun W => rConstant_any p r 1 W
                  have kb := fconst_bd p r 1
                  obtain ⟨kc, hkc⟩ : ∃ kc, kc = fconst p r 1 := ⟨_, rfl⟩
                  rw [← hkc] at cK kb
                  have hkon : Hid (addL p s.b (keepT (0, fred p kc)) = gKon p r 1 s.b) := hide (by rw [hkc]; rfl)
                  replace hkc := hide hkc
                  go_wp2_with fail
                  refine Rel.region_any Try.mixed fun w7 hb7 => ?_
                  replace P := P.below hb7
                  refine Rel.any_held (fun W => W.cell? ⟨q0, 1, none⟩ = some (.slice y.ad y.l.length y.cap)) 13 (P.blk.cell (j := 1) rfl) fun hH0 => ?_
                  refine Rel.heldTake (v := ?_) 0 rfl (by kernel_rfl) (by kernel_rfl) (by kernel_rfl) (fun _ _ _ h => h) (by assumption) (by rfl) ?_ ?_
                  rotate_left
                  · (intro W hSw; (try dsimp only at hSw); go_simp; try with_reducible rfl)
                  try simp only [Act.put, List.setIfInBounds_toArray, List.set_cons_zero, List.set_cons_succ]
                  refine Rel.heldTake (v := ?_) 1 rfl (by kernel_rfl) (by kernel_rfl) (by kernel_rfl) (fun _ _ _ h => h) (by assumption) (by rfl) ?_ ?_
                  rotate_left
                  · (intro W hSw; (try dsimp only at hSw); go_simp; try with_reducible rfl)
                  try simp only [Act.put, List.setIfInBounds_toArray, List.set_cons_zero, List.set_cons_succ]
                  refine Rel.heldTake (v := ?_) 2 rfl (by kernel_rfl) (by kernel_rfl) (by kernel_rfl) (fun _ _ _ h => h) (by assumption) (by rfl) ?_ ?_
                  rotate_left
                  · (intro W hSw; (try dsimp only at hSw); go_simp; try with_reducible rfl)
                  try simp only [Act.put, List.setIfInBounds_toArray, List.set_cons_zero, List.set_cons_succ]
                  refine Rel.heldTake (v := ?_) 3 rfl (by kernel_rfl) (by kernel_rfl) (by kernel_rfl) (fun _ _ _ h => h) (by assumption) (by rfl) ?_ ?_
                  rotate_left
                  · (intro W hSw; (try dsimp only at hSw); go_simp; try with_reducible rfl)
                  try simp only [Act.put, List.setIfInBounds_toArray, List.set_cons_zero, List.set_cons_succ]
                  refine Rel.heldTake (v := ?_) 4 rfl (by kernel_rfl) (by kernel_rfl) (by kernel_rfl) (fun _ _ _ h => h) (by assumption) (by rfl) ?_ ?_
                  rotate_left
                  · (intro W hSw; (try dsimp only at hSw); go_simp; try with_reducible rfl)
                  try simp only [Act.put, List.setIfInBounds_toArray, List.set_cons_zero, List.set_cons_succ]
                  refine Rel.heldTake (v := ?_) 5 rfl (by kernel_rfl) (by kernel_rfl) (by kernel_rfl) (fun _ _ _ h => h) (by assumption) (by rfl) ?_ ?_
                  rotate_left
                  · (intro W hSw; (try dsimp only at hSw); go_simp; try with_reducible rfl)
                  try simp only [Act.put, List.setIfInBounds_toArray, List.set_cons_zero, List.set_cons_succ]
                  refine Rel.heldTake (v := ?_) 6 rfl (by kernel_rfl) (by kernel_rfl) (by kernel_rfl) (fun _ _ _ h => h) (by assumption) (by rfl) ?_ ?_
                  rotate_left
                  · (intro W hSw; (try dsimp only at hSw); go_simp; try with_reducible rfl)
                  try simp only [Act.put, List.setIfInBounds_toArray, List.set_cons_zero, List.set_cons_succ]
                  refine Rel.heldTake (v := ?_) 7 rfl (by kernel_rfl) (by kernel_rfl) (by kernel_rfl) (fun _ _ _ h => h) (by assumption) (by rfl) ?_ ?_
                  rotate_left
                  · (intro W hSw; (try dsimp only at hSw); go_simp; try with_reducible rfl)
                  try simp only [Act.put, List.setIfInBounds_toArray, List.set_cons_zero, List.set_cons_succ]
                  refine Rel.heldTake (v := ?_) 8 rfl (by kernel_rfl) (by kernel_rfl) (by kernel_rfl) (fun _ _ _ h => h) (by assumption) (by rfl) ?_ ?_
                  rotate_left
                  · (intro W hSw; (try dsimp only at hSw); go_simp; try with_reducible rfl)
                  try simp only [Act.put, List.setIfInBounds_toArray, List.set_cons_zero, List.set_cons_succ]
                  refine Rel.heldNext 9 rfl (by kernel_rfl) fun K hK => ?_
                  go_simp
                  refine (cK _).mono ?_
                  rintro e w8 ⟨rfl, hb8⟩
                  replace P := P.below hb8
                  refine hK.out _ _ (P.blk.cell (j := 1) rfl) (fun hH1 => ?_)
                  clear hK K
                  try simp only [Act.put, List.setIfInBounds_toArray, List.set_cons_zero, List.set_cons_succ]
                  refine Rel.heldNext 10 rfl (by kernel_rfl) fun K hK => ?_
                  go_simp
                  refine (rConstant20_any p kc w8 kb).mono ?_
                  rintro e w9 ⟨tk, rfl, ek, lk, hb9⟩
                  replace P := P.below hb9
                  have lk1 : tk.l.length ≤ 1 := by rw [ek.out]; exact keepT_len _
                  refine hK.out _ _ (P.blk.cell (j := 1) rfl) (fun hH2 => ?_)
                  clear hK K
                  try simp only [Act.put, List.setIfInBounds_toArray, List.set_cons_zero, List.set_cons_succ]
                  refine Rel.heldNext 11 rfl (by kernel_rfl) fun K hK => ?_
                  go_simp
                  have cA := rAddS_any p y tk w9 P.ly.ok lk.ok (by omega) (by rw [hel.out]; exact hco.out.2.1) (by rw [ek.out]; exact (cst_in (hi := 1) hv.out _ (by decide)).1)
                  have eA : addL p y.l tk.l = gKon p r 1 s.b := by rw [← hkon.out, hel.out, ek.out]
                  rw [eA] at cA
                  refine cA.mono ?_
                  rintro e w10 ⟨n, rfl, en, ln, hb10⟩
                  replace P := P.below hb10
                  refine hK.out _ _ (P.blk.cell (j := 1) rfl) (fun hH3 => ?_)
                  clear hK K
                  try simp only [Act.put, List.setIfInBounds_toArray, List.set_cons_zero, List.set_cons_succ]
                  refine Rel.heldTake (v := ?_) 12 rfl (by kernel_rfl) (by kernel_rfl) (by kernel_rfl) (fun _ _ _ h => h) (by assumption) (by rfl) ?_ ?_
                  rotate_left
                  · (intro W hSw; (try dsimp only at hSw); go_simp; try with_reducible rfl)
                  try simp only [Act.put, List.setIfInBounds_toArray, List.set_cons_zero, List.set_cons_succ]
                  have f := P.blk.free 1
                  have cq := P.blk.cell (j := 1) (v := .slice y.ad y.l.length y.cap) rfl
                  refine Rel.heldLast 13 rfl (by kernel_rfl) rfl (by kernel_rfl) fun K hK => ?_
                  go_simp
                  refine hK.out _ _ ?_
                  have PP := P.set hqz hb0 1 n x n z rfl P.lx ln P.lz
                  have hE2 : Hid ((⟨x.l, n.l, z.l⟩ : L3) = kA p r s 2) := hide (by
                    have e1 := congrArg L3.a hE.out
                    have e2 := congrArg L3.b hE.out
                    have e3 := congrArg L3.c hE.out
                    simp only [kA] at e1 e2 e3 ⊢
                    simp [en.out, e1, e3])
                  clear hK K hH0 hH1 hH2 hH3 f cq P hE hel cA eA en lk ek
                  go_wp2
                  go_roundw
                  case rel => exact ⟨2, by omega, rfl, _, _, _, PP, hE2⟩
                  case measure => simp [intOf]
                · have hel : Hid (z.l = s.c) := hide (by have := congrArg L3.c hE.out; exact this)
                  have hsl : z.l.length ≤ 30000 := by rw [hel.out]; have := hS3.out; unfold Sm3 at this; omega
                  have cK := fun W => rConstant_any p r 2 W
                  have kb := fconst_bd p r 2
                  obtain ⟨kc, hkc⟩ : ∃ kc, kc = fconst p r 2 := ⟨_, rfl⟩
                  rw [← hkc] at cK kb
                  have hkon : Hid (addL p s.c (keepT (0, fred p kc)) = gKon p r 2 s.c) := hide (by rw [hkc]; rfl)
                  replace hkc := hide hkc
                  go_wp2_with fail
                  refine Rel.region_any Try.mixed fun w7 hb7 => ?_
                  replace P := P.below hb7
                  refine Rel.any_held (fun W => W.cell? ⟨q0, 2, none⟩ = some (.slice z.ad z.l.length z.cap)) 13 (P.blk.cell (j := 2) rfl) fun hH0 => ?_
                  refine Rel.heldTake (v := ?_) 0 rfl (by kernel_rfl) (by kernel_rfl) (by kernel_rfl) (fun _ _ _ h => h) (by assumption) (by rfl) ?_ ?_
                  rotate_left
                  · (intro W hSw; (try dsimp only at hSw); go_simp; try with_reducible rfl)
                  try simp only [Act.put, List.setIfInBounds_toArray, List.set_cons_zero, List.set_cons_succ]
                  refine Rel.heldTake (v := ?_) 1 rfl (by kernel_rfl) (by kernel_rfl) (by kernel_rfl) (fun _ _ _ h => h) (by assumption) (by rfl) ?_ ?_
                  rotate_left
                  · (intro W hSw; (try dsimp only at hSw); go_simp; try with_reducible rfl)
                  try simp only [Act.put, List.setIfInBounds_toArray, List.set_cons_zero, List.set_cons_succ]
                  refine Rel.heldTake (v := ?_) 2 rfl (by kernel_rfl) (by kernel_rfl) (by kernel_rfl) (fun _ _ _ h => h) (by assumption) (by rfl) ?_ ?_
                  rotate_left
                  · (intro W hSw; (try dsimp only at hSw); go_simp; try with_reducible rfl)
                  try simp only [Act.put, List.setIfInBounds_toArray, List.set_cons_zero, List.set_cons_succ]
                  refine Rel.heldTake (v := ?_) 3 rfl (by kernel_rfl) (by kernel_rfl) (by kernel_rfl) (fun _ _ _ h => h) (by assumption) (by rfl) ?_ ?_
                  rotate_left
                  · (intro W hSw; (try dsimp only at hSw); go_simp; try with_reducible rfl)
                  try simp only [Act.put, List.setIfInBounds_toArray, List.set_cons_zero, List.set_cons_succ]
                  refine Rel.heldTake (v := ?_) 4 rfl (by kernel_rfl) (by kernel_rfl) (by kernel_rfl) (fun _ _ _ h => h) (by assumption) (by rfl) ?_ ?_
                  rotate_left
                  · (intro W hSw; (try dsimp only at hSw); go_simp; try with_reducible rfl)
                  try simp only [Act.put, List.setIfInBounds_toArray, List.set_cons_zero, List.set_cons_succ]
                  refine Rel.heldTake (v := ?_) 5 rfl (by kernel_rfl) (by kernel_rfl) (by kernel_rfl) (fun _ _ _ h => h) (by assumption) (by rfl) ?_ ?_
                  rotate_left
                  · (intro W hSw; (try dsimp only at hSw); go_simp; try with_reducible rfl)
                  try simp only [Act.put, List.setIfInBounds_toArray, List.set_cons_zero, List.set_cons_succ]
                  refine Rel.heldTake (v := ?_) 6 rfl (by kernel_rfl) (by kernel_rfl) (by kernel_rfl) (fun _ _ _ h => h) (by assumption) (by rfl) ?_ ?_
                  rotate_left
                  · (intro W hSw; (try dsimp only at hSw); go_simp; try with_reducible rfl)
                  try simp only [Act.put, List.setIfInBounds_toArray, List.set_cons_zero, List.set_cons_succ]
                  refine Rel.heldTake (v := ?_) 7 rfl (by kernel_rfl) (by kernel_rfl) (by kernel_rfl) (fun _ _ _ h => h) (by assumption) (by rfl) ?_ ?_
                  rotate_left
                  · (intro W hSw; (try dsimp only at hSw); go_simp; try with_reducible rfl)
                  try simp only [Act.put, List.setIfInBounds_toArray, List.set_cons_zero, List.set_cons_succ]
                  refine Rel.heldTake (v := ?_) 8 rfl (by kernel_rfl) (by kernel_rfl) (by kernel_rfl) (fun _ _ _ h => h) (by assumption) (by rfl) ?_ ?_
                  rotate_left
                  · (intro W hSw; (try dsimp only at hSw); go_simp; try with_reducible rfl)
                  try simp only [Act.put, List.setIfInBounds_toArray, List.set_cons_zero, List.set_cons_succ]
                  refine Rel.heldNext 9 rfl (by kernel_rfl) fun K hK => ?_
                  go_simp
                  refine (cK _).mono ?_
                  rintro e w8 ⟨rfl, hb8⟩
                  replace P := P.below hb8
                  refine hK.out _ _ (P.blk.cell (j := 2) rfl) (fun hH1 => ?_)
                  clear hK K
                  try simp only [Act.put, List.setIfInBounds_toArray, List.set_cons_zero, List.set_cons_succ]
                  refine Rel.heldNext 10 rfl (by kernel_rfl) fun K hK => ?_
                  go_simp
                  refine (rConstant20_any p kc w8 kb).mono ?_
                  rintro e w9 ⟨tk, rfl, ek, lk, hb9⟩
                  replace P := P.below hb9
                  have lk1 : tk.l.length ≤ 1 := by rw [ek.out]; exact keepT_len _
                  refine hK.out _ _ (P.blk.cell (j := 2) rfl) (fun hH2 => ?_)
                  clear hK K
                  try simp only [Act.put, List.setIfInBounds_toArray, List.set_cons_zero, List.set_cons_succ]
                  refine Rel.heldNext 11 rfl (by kernel_rfl) fun K hK => ?_
                  go_simp
                  have cA := rAddS_any p z tk w9 P.lz.ok lk.ok (by omega) (by rw [hel.out]; exact hco.out.2.2) (by rw [ek.out]; exact (cst_in (hi := 1) hv.out _ (by decide)).1)
                  have eA : addL p z.l tk.l = gKon p r 2 s.c := by rw [← hkon.out, hel.out, ek.out]
                  rw [eA] at cA
                  refine cA.mono ?_
                  rintro e w10 ⟨n, rfl, en, ln, hb10⟩
                  replace P := P.below hb10
                  refine hK.out _ _ (P.blk.cell (j := 2) rfl) (fun hH3 => ?_)
                  clear hK K
                  try simp only [Act.put, List.setIfInBounds_toArray, List.set_cons_zero, List.set_cons_succ]
                  refine Rel.heldTake (v := ?_) 12 rfl (by kernel_rfl) (by kernel_rfl) (by kernel_rfl) (fun _ _ _ h => h) (by assumption) (by rfl) ?_ ?_
                  rotate_left
                  · (intro W hSw; (try dsimp only at hSw); go_simp; try with_reducible rfl)
                  try simp only [Act.put, List.setIfInBounds_toArray, List.set_cons_zero, List.set_cons_succ]
                  have f := P.blk.free 2
                  have cq := P.blk.cell (j := 2) (v := .slice z.ad z.l.length z.cap) rfl
                  refine Rel.heldLast 13 rfl (by kernel_rfl) rfl (by kernel_rfl) fun K hK => ?_
                  go_simp
                  refine hK.out _ _ ?_
                  have PP := P.set hqz hb0 2 n x y n rfl P.lx P.ly ln
                  have hE2 : Hid ((⟨x.l, y.l, n.l⟩ : L3) = kA p r s 3) := hide (by
                    have e1 := congrArg L3.a hE.out
                    have e2 := congrArg L3.b hE.out
                    have e3 := congrArg L3.c hE.out
                    simp only [kA] at e1 e2 e3 ⊢
                    simp [en.out, e1, e2])
                  clear hK K hH0 hH1 hH2 hH3 f cq P hE hel cA eA en lk ek
                  go_wp2
                  go_roundw
                  case rel => exact ⟨3, by omega, rfl, _, _, _, PP, hE2⟩
                  case measure => simp [intOf]
              · obtain rfl : k = 3 := by omega
                rw [show ((3 : Nat) : Int) = 3 from rfl]
                have hE3 : Hid ((⟨x.l, y.l, z.l⟩ : L3) = gKon3 p r s) := hE
                obtain ⟨q1, hq1⟩ : ∃ q1 : St × L3, q1 = (S1, gKon3 p r s) := ⟨_, rfl⟩
                have hpB : ∀ k, (pB q1 k).1.p = p := fun k => by rw [pB_p, hq1]; exact hS1.out
                have hbB : ∀ k, Bd (pB q1 k).1 (N + 192 * m + 24 * (r : Int) + 24) := fun k => pB_bd (by rw [hq1]; exact hS2) k
                have hgs : Hid (pB q1 3 = gSub r (S1, s)) := hide (by rw [hq1]; show gPow3 (gPow2 (gPow1 (S1, gKon3 p r s))) = gPow3 (gPow2 (gPow1 (S1, gKon3 S1.p r s))); rw [hS1.out])
                have P0 : HR w wr base b q0 (pB q1 0).1 x y z B (.slice ad Ls.length c) Ls := by rw [hq1]; exact P
                have hE4 : Hid ((⟨x.l, y.l, z.l⟩ : L3) = (pB q1 0).2) := by rw [hq1]; exact hE3
                obtain ⟨wA, hwA⟩ : ∃ wA, wA = wr := ⟨_, rfl⟩
                subst hwA
                replace hq1 := hide hq1
                replace hpB := hide hpB
                replace hbB := hide hbB
                clear P hE hE3
                go_wp2_with fail
                go_loopw [12] (fun t12 wr => ∃ k : Nat, k ≤ 3 ∧ t12 = .int .i64 k ∧ ∃ x y z : Lc, HR w wr base b q0 (pB q1 k).1 x y z B (.slice ad Ls.length c) Ls ∧ Hid ((⟨x.l, y.l, z.l⟩ : L3) = (pB q1 k).2)) (fun t12 _ => 3 - (intOf t12).toNat)
                case atStart => exact ⟨0, by omega, rfl, x, y, z, P0, hE4⟩
                case round =>
                  clear P0 hE4
                  obtain ⟨k, hk, rfl, x, y, z, P, hE⟩ := hrel
                  by_cases hlt3 : k < 3
                  · obtain rfl | rfl | rfl : k = 0 ∨ k = 1 ∨ k = 2 := by omega
                    · have hel : Hid (x.l = (pB q1 0).2.a) := hide (congrArg L3.a hE.out)
                      have km := P.blk.cell (j := 0) (v := .slice x.ad x.l.length x.cap) rfl
                      have cP := rbRaise_any base b (pB q1 0).1 _ x wr P.bld (by rw [hpB.out]; exact hv.out) (hbB.out 0) (by omega) P.lx
                      go_wp2_with fail
                      refine cP.mono ?_
                      rintro e w3 ⟨n, rfl, en, ln, hB3, k3⟩
                      rw [hel.out] at hB3 en
                      have P3 : HR w w3 base b q0 (pB q1 1).1 x y z B (.slice ad Ls.length c) Ls := P.keep k3 hB3
                      have f := P3.blk.free 0
                      have cq := P3.blk.cell (j := 0) (v := .slice x.ad x.l.length x.cap) rfl
                      have PP := P3.set hqz hb0 0 n n y z rfl ln P3.ly P3.lz
                      have hE2 : Hid ((⟨n.l, y.l, z.l⟩ : L3) = (pB q1 1).2) := hide (by
                        have e1 := congrArg L3.a hE.out
                        have e2 := congrArg L3.b hE.out
                        have e3 := congrArg L3.c hE.out
                        simp only at e1 e2 e3
                        simp only [en.out, e2, e3]
                        rfl)
                      clear hE hel km cP P P3 k3 hB3
                      go_wp2
                      go_roundw
                      case rel => exact ⟨1, by omega, rfl, _, _, _, PP, hE2⟩
                      case measure => simp [intOf]
                    · have hel : Hid (y.l = (pB q1 1).2.b) := hide (congrArg L3.b hE.out)
                      have km := P.blk.cell (j := 1) (v := .slice y.ad y.l.length y.cap) rfl
                      have cP := rbRaise_any base b (pB q1 1).1 _ y wr P.bld (by rw [hpB.out]; exact hv.out) (hbB.out 1) (by omega) P.ly
                      go_wp2_with fail
                      refine cP.mono ?_
                      rintro e w3 ⟨n, rfl, en, ln, hB3, k3⟩
                      rw [hel.out] at hB3 en
                      have P3 : HR w w3 base b q0 (pB q1 2).1 x y z B (.slice ad Ls.length c) Ls := P.keep k3 hB3
                      have f := P3.blk.free 1
                      have cq := P3.blk.cell (j := 1) (v := .slice y.ad y.l.length y.cap) rfl
                      have PP := P3.set hqz hb0 1 n x n z rfl P3.lx ln P3.lz
                      have hE2 : Hid ((⟨x.l, n.l, z.l⟩ : L3) = (pB q1 2).2) := hide (by
                        have e1 := congrArg L3.a hE.out
                        have e2 := congrArg L3.b hE.out
                        have e3 := congrArg L3.c hE.out
                        simp only at e1 e2 e3
                        simp only [en.out, e1, e3]
                        rfl)
                      clear hE hel km cP P P3 k3 hB3
                      go_wp2
                      go_roundw
                      case rel => exact ⟨2, by omega, rfl, _, _, _, PP, hE2⟩
                      case measure => simp [intOf]
                    · have hel : Hid (z.l = (pB q1 2).2.c) := hide (congrArg L3.c hE.out)
                      have km := P.blk.cell (j := 2) (v := .slice z.ad z.l.length z.cap) rfl
                      have cP := rbRaise_any base b (pB q1 2).1 _ z wr P.bld (by rw [hpB.out]; exact hv.out) (hbB.out 2) (by omega) P.lz
                      go_wp2_with fail
                      refine cP.mono ?_
                      rintro e w3 ⟨n, rfl, en, ln, hB3, k3⟩
                      rw [hel.out] at hB3 en
                      have P3 : HR w w3 base b q0 (pB q1 3).1 x y z B (.slice ad Ls.length c) Ls := P.keep k3 hB3
                      have f := P3.blk.free 2
                      have cq := P3.blk.cell (j := 2) (v := .slice z.ad z.l.length z.cap) rfl
                      have PP := P3.set hqz hb0 2 n x y n rfl P3.lx P3.ly ln
                      have hE2 : Hid ((⟨x.l, y.l, n.l⟩ : L3) = (pB q1 3).2) := hide (by
                        have e1 := congrArg L3.a hE.out
                        have e2 := congrArg L3.b hE.out
                        have e3 := congrArg L3.c hE.out
                        simp only at e1 e2 e3
                        simp only [en.out, e1, e2]
                        rfl)
                      clear hE hel km cP P P3 k3 hB3
                      go_wp2
                      go_roundw
                      case rel => exact ⟨3, by omega, rfl, _, _, _, PP, hE2⟩
                      case measure => simp [intOf]
                  · obtain rfl : k = 3 := by omega
                    rw [show ((3 : Nat) : Int) = 3 from rfl]
                    rw [hgs.out] at P hE
                    obtain ⟨hTs, hGl⟩ := hTr.out.sub r
                    obtain ⟨⟨S2, s2⟩, hq2⟩ : ∃ q : St × L3, q = gSub r (S1, s) := ⟨_, rfl⟩
                    rw [← hq2] at P hE hTs hGl
                    simp only at P hE hGl
                    have hpp2 : S2.p = p := hTs.pp
                    have hv2 : vld S2.p = true := by rw [hpp2]; exact hv.out
                    have hl2 := hTs.lin
                    simp only at hl2
                    have hco2 : Hid (CoefOk p s2.a ∧ CoefOk p s2.b ∧ CoefOk p s2.c) := hide (by
                      rw [← hpp2]
                      exact ⟨hl2.1.1, hl2.2.1.1, hl2.2.2.1⟩)
                    have hcab : CoefOk p (addL p s2.a s2.b) := by
                      rw [← hpp2]
                      exact (LinIn.add hv2 hl2.1 hl2.2.1).1
                    have hct0 : CoefOk p (gSum3 p s2) := by
                      rw [← hpp2]
                      exact (LinIn.add hv2 (LinIn.add hv2 hl2.1 hl2.2.1) hl2.2.2).1
                    have hQN2 : Hid (QR = (S2, gMix p s2)) := hide (by
                      rw [hnx.out]
                      show ((gSub r (S1, s)).1, gMix (gSub r (S1, s)).1.p (gSub r (S1, s)).2) = _
                      rw [← hq2]
                      show (S2, gMix S2.p s2) = _
                      rw [hpp2])
                    replace hpp2 := hide hpp2
                    replace hv2 := hide hv2
                    replace hq2 := hide hq2
                    replace hct0 := hide hct0
                    replace hcab := hide hcab
                    clear hl2 hTs
                    obtain ⟨wB, hwB⟩ : ∃ wB, wB = wr := ⟨_, rfl⟩
                    subst hwB
                    obtain ⟨gl1, gl2, gl3⟩ := hGl
                    have ea : Hid (x.l = s2.a) := hide (congrArg L3.a hE.out)
                    have eb : Hid (y.l = s2.b) := hide (congrArg L3.b hE.out)
                    have ec : Hid (z.l = s2.c) := hide (congrArg L3.c hE.out)
                    have za : x.l.length ≤ 1 := by rw [ea.out]; exact gl1
                    have zb : y.l.length ≤ 1 := by rw [eb.out]; exact gl2
                    have zc : z.l.length ≤ 1 := by rw [ec.out]; exact gl3
                    go_wp2_with fail
                    refine Rel.region_any Try.mixed fun w7 hb7 => ?_
                    replace P := P.below hb7
                    refine Rel.any_held (fun W => W.cell? ⟨q0, 0, none⟩ = some (.slice x.ad x.l.length x.cap) ∧ W.cell? ⟨q0, 1, none⟩ = some (.slice y.ad y.l.length y.cap) ∧ W.cell? ⟨q0, 2, none⟩ = some (.slice z.ad z.l.length z.cap)) 10 ⟨P.blk.cell (j := 0) rfl, P.blk.cell (j := 1) rfl, P.blk.cell (j := 2) rfl⟩ fun hH0 => ?_
                    refine Rel.heldTake (v := ?_) 0 rfl (by kernel_rfl) (by kernel_rfl) (by kernel_rfl) (fun _ _ _ h => h) (by assumption) (by rfl) ?_ ?_
                    rotate_left
                    · (intro W hSw; (try dsimp only at hSw); go_simp; try with_reducible rfl)
                    try simp only [Act.put, List.setIfInBounds_toArray, List.set_cons_zero, List.set_cons_succ]
                    refine Rel.heldTake (v := ?_) 1 rfl (by kernel_rfl) (by kernel_rfl) (by kernel_rfl) (fun _ _ _ h => h) (by assumption) (by rfl) ?_ ?_
                    rotate_left
                    · (intro W hSw; (try dsimp only at hSw); go_simp; try with_reducible rfl)
                    try simp only [Act.put, List.setIfInBounds_toArray, List.set_cons_zero, List.set_cons_succ]
                    refine Rel.heldTake (v := ?_) 2 rfl (by kernel_rfl) (by kernel_rfl) (by kernel_rfl) (fun _ _ _ h => h) (by assumption) (by rfl) ?_ ?_
                    rotate_left
                    · (intro W hSw; (try dsimp only at hSw); go_simp; try with_reducible rfl)
                    try simp only [Act.put, List.setIfInBounds_toArray, List.set_cons_zero, List.set_cons_succ]
                    refine Rel.heldTake (v := ?_) 3 rfl (by kernel_rfl) (by kernel_rfl) (by kernel_rfl) (fun _ _ _ h => h) (by assumption) (by rfl) ?_ ?_
                    rotate_left
                    · (intro W hSw; (try dsimp only at hSw); go_simp; try with_reducible rfl)
                    try simp only [Act.put, List.setIfInBounds_toArray, List.set_cons_zero, List.set_cons_succ]
                    refine Rel.heldTake (v := ?_) 4 rfl (by kernel_rfl) (by kernel_rfl) (by kernel_rfl) (fun _ _ _ h => h) (by assumption) (by rfl) ?_ ?_
                    rotate_left
                    · (intro W hSw; (try dsimp only at hSw); go_simp; try with_reducible rfl)
                    try simp only [Act.put, List.setIfInBounds_toArray, List.set_cons_zero, List.set_cons_succ]
                    refine Rel.heldTake (v := ?_) 5 rfl (by kernel_rfl) (by kernel_rfl) (by kernel_rfl) (fun _ _ _ h => h) (by assumption) (by rfl) ?_ ?_
                    rotate_left
                    · (intro W hSw; (try dsimp only at hSw); go_simp; try with_reducible rfl)
                    try simp only [Act.put, List.setIfInBounds_toArray, List.set_cons_zero, List.set_cons_succ]
                    refine Rel.heldTake (v := ?_) 7 rfl (by kernel_rfl) (by kernel_rfl) (by kernel_rfl) (fun _ _ _ h => h) (by assumption) (by rfl) ?_ ?_
                    rotate_left
                    · (intro W hSw; (try dsimp only at hSw); go_simp; try with_reducible rfl)
                    try simp only [Act.put, List.setIfInBounds_toArray, List.set_cons_zero, List.set_cons_succ]
                    refine Rel.heldTake (v := ?_) 8 rfl (by kernel_rfl) (by kernel_rfl) (by kernel_rfl) (fun _ _ _ h => h) (by assumption) (by rfl) ?_ ?_
                    rotate_left
                    · (intro W hSw; (try dsimp only at hSw); go_simp; try with_reducible rfl)
                    try simp only [Act.put, List.setIfInBounds_toArray, List.set_cons_zero, List.set_cons_succ]
                    refine Rel.heldNext 6 rfl (by kernel_rfl) fun K hK => ?_
                    go_simp
                    have cA := rAddS_any p x y w7 P.lx.ok P.ly.ok (by omega) (by rw [ea.out]; exact hco2.out.1) (by rw [eb.out]; exact hco2.out.2.1)
                    have eA : addL p x.l y.l = addL p s2.a s2.b := by rw [ea.out, eb.out]
                    have lA := addP_len p x.l y.l 1
                    rw [eA] at cA
                    refine cA.mono ?_
                    rintro e w8 ⟨t8, rfl, et8, lt8, hb8⟩
                    replace P := P.below hb8
                    have zt : t8.l.length ≤ 2 := by rw [et8.out, ← eA]; unfold addL; omega
                    refine hK.out _ _ ⟨P.blk.cell (j := 0) rfl, P.blk.cell (j := 1) rfl, P.blk.cell (j := 2) rfl⟩ (fun hH1 => ?_)
                    clear hK K
                    try simp only [Act.put, List.setIfInBounds_toArray, List.set_cons_zero, List.set_cons_succ]
                    refine Rel.heldNext 9 rfl (by kernel_rfl) fun K hK => ?_
                    go_simp
                    have cA2 := rAddS_any p t8 z w8 lt8.ok P.lz.ok (by omega) (by rw [et8.out]; exact hcab.out) (by rw [ec.out]; exact hco2.out.2.2)
                    have eA2 : addL p t8.l z.l = gSum3 p s2 := by rw [et8.out, ec.out]; rfl
                    have lA2 := addP_len p t8.l z.l 1
                    rw [eA2] at cA2
                    refine cA2.mono ?_
                    rintro e w9 ⟨t, rfl, et, lt, hb9⟩
                    replace P := P.below hb9
                    have htl : Hid (t.l.length ≤ 3) := hide (by rw [et.out, ← eA2]; unfold addL; omega)
                    have hct : Hid (CoefOk p t.l) := hide (by rw [et.out]; exact hct0.out)
                    refine hK.out _ _ ⟨P.blk.cell (j := 0) rfl, P.blk.cell (j := 1) rfl, P.blk.cell (j := 2) rfl⟩ (fun hH2 => ?_)
                    clear hK K
                    try simp only [Act.put, List.setIfInBounds_toArray, List.set_cons_zero, List.set_cons_succ]
                    refine Rel.heldLast 10 rfl (by kernel_rfl) rfl (by kernel_rfl) fun K hK => ?_
                    go_simp
                    refine hK.out _ _ ?_
                    have P0 : HR w w9 base b q0 S2 x y z B (.slice ad Ls.length c) Ls ∧ LinT w9 t := ⟨P, lt⟩
                    have hE5 : Hid ((⟨x.l, y.l, z.l⟩ : L3) = mC p t.l s2 0) := hE
                    clear hK K hH0 hH1 hH2 hE P lt za zb zc zt ea eb ec cA cA2 eA eA2 lA lA2 et8 lt8 hb7 hb8 hb9
                    go_wp2_with fail
                    go_loopw [14] (fun t14 wr => ∃ k : Nat, k ≤ 3 ∧ t14 = .int .i64 k ∧ ∃ x y z : Lc, (HR w wr base b q0 S2 x y z B (.slice ad Ls.length c) Ls ∧ LinT wr t) ∧ Hid ((⟨x.l, y.l, z.l⟩ : L3) = mC p t.l s2 k)) (fun t14 _ => 3 - (intOf t14).toNat)
                    case atStart => exact ⟨0, by omega, rfl, x, y, z, P0, hE5⟩
                    case round =>
                      clear P0 hE5
                      obtain ⟨k, hk, rfl, x, y, z, ⟨P, lt⟩, hE⟩ := hrel
                      by_cases hlt3 : k < 3
                      · obtain rfl | rfl | rfl : k = 0 ∨ k = 1 ∨ k = 2 := by omega
                        · have hel : Hid (x.l = s2.a) := hide (congrArg L3.a hE.out)
                          have hsl : x.l.length ≤ 1 := by rw [hel.out]; exact gl1
                          have km := P.blk.cell (j := 0) (v := .slice x.ad x.l.length x.cap) rfl
                          have cA := rAddS_any p x t wr P.lx.ok lt.ok (by have := htl.out; omega) (by rw [hel.out]; exact hco2.out.1) hct.out
                          have eA : addL p x.l t.l = addL p s2.a t.l := by rw [hel.out]
                          rw [eA] at cA
                          go_wp2_with fail
                          refine cA.mono ?_
                          rintro e w3 ⟨n, rfl, en, ln, hb3⟩
                          have P3 := P.below hb3
                          have f := P3.blk.free 0
                          have cq := P3.blk.cell (j := 0) (v := .slice x.ad x.l.length x.cap) rfl
                          have PP := P3.set hqz hb0 0 n n y z rfl ln P3.ly P3.lz
                          have lt2 : LinT (w3.setCell ⟨q0, 0, none⟩ (lcV n)) t := (lt.mono hb3).setType P3.blk (by decide)
                          have hE2 : Hid ((⟨n.l, y.l, z.l⟩ : L3) = mC p t.l s2 1) := hide (by
                            have e1 := congrArg L3.a hE.out
                            have e2 := congrArg L3.b hE.out
                            have e3 := congrArg L3.c hE.out
                            simp only [mC] at e1 e2 e3 ⊢
                            simp [en.out, e2, e3])
                          clear hE hel km cA eA P P3 lt hb3 en
                          go_wp2
                          go_roundw
                          case rel => exact ⟨1, by omega, rfl, _, _, _, ⟨PP, lt2⟩, hE2⟩
                          case measure => simp [intOf]
                        · have hel : Hid (y.l = s2.b) := hide (congrArg L3.b hE.out)
                          have hsl : y.l.length ≤ 1 := by rw [hel.out]; exact gl2
                          have km := P.blk.cell (j := 1) (v := .slice y.ad y.l.length y.cap) rfl
                          have cA := rAddS_any p y t wr P.ly.ok lt.ok (by have := htl.out; omega) (by rw [hel.out]; exact hco2.out.2.1) hct.out
                          have eA : addL p y.l t.l = addL p s2.b t.l := by rw [hel.out]
                          rw [eA] at cA
                          go_wp2_with fail
                          refine cA.mono ?_
                          rintro e w3 ⟨n, rfl, en, ln, hb3⟩
                          have P3 := P.below hb3
                          have f := P3.blk.free 1
                          have cq := P3.blk.cell (j := 1) (v := .slice y.ad y.l.length y.cap) rfl
                          have PP := P3.set hqz hb0 1 n x n z rfl P3.lx ln P3.lz
                          have lt2 : LinT (w3.setCell ⟨q0, 1, none⟩ (lcV n)) t := (lt.mono hb3).setType P3.blk (by decide)
                          have hE2 : Hid ((⟨x.l, n.l, z.l⟩ : L3) = mC p t.l s2 2) := hide (by
                            have e1 := congrArg L3.a hE.out
                            have e2 := congrArg L3.b hE.out
                            have e3 := congrArg L3.c hE.out
                            simp only [mC] at e1 e2 e3 ⊢
                            simp [en.out, e1, e3])
                          clear hE hel km cA eA P P3 lt hb3 en
                          go_wp2
                          go_roundw
                          case rel => exact ⟨2, by omega, rfl, _, _, _, ⟨PP, lt2⟩, hE2⟩
                          case measure => simp [intOf]
                        · have hel : Hid (z.l = s2.c) := hide (congrArg L3.c hE.out)
                          have hsl : z.l.length ≤ 1 := by rw [hel.out]; exact gl3
                          have km := P.blk.cell (j := 2) (v := .slice z.ad z.l.length z.cap) rfl
                          have cA := rAddS_any p z t wr P.lz.ok lt.ok (by have := htl.out; omega) (by rw [hel.out]; exact hco2.out.2.2) hct.out
                          have eA : addL p z.l t.l = addL p s2.c t.l := by rw [hel.out]
                          rw [eA] at cA
                          go_wp2_with fail
                          refine cA.mono ?_
                          rintro e w3 ⟨n, rfl, en, ln, hb3⟩
                          have P3 := P.below hb3
                          have f := P3.blk.free 2
                          have cq := P3.blk.cell (j := 2) (v := .slice z.ad z.l.length z.cap) rfl
                          have PP := P3.set hqz hb0 2 n x y n rfl P3.lx P3.ly ln
                          have lt2 : LinT (w3.setCell ⟨q0, 2, none⟩ (lcV n)) t := (lt.mono hb3).setType P3.blk (by decide)
                          have hE2 : Hid ((⟨x.l, y.l, n.l⟩ : L3) = mC p t.l s2 3) := hide (by
                            have e1 := congrArg L3.a hE.out
                            have e2 := congrArg L3.b hE.out
                            have e3 := congrArg L3.c hE.out
                            simp only [mC] at e1 e2 e3 ⊢
                            simp [en.out, e1, e2])
                          clear hE hel km cA eA P P3 lt hb3 en
                          go_wp2
                          go_roundw
                          case rel => exact ⟨3, by omega, rfl, _, _, _, ⟨PP, lt2⟩, hE2⟩
                          case measure => simp [intOf]
                      · obtain rfl : k = 3 := by omega
                        have hE6 : Hid ((⟨x.l, y.l, z.l⟩ : L3) = gMix p s2) := hide (by rw [hE.out, et.out]; rfl)
                        have PN : HR w wr base b q0 QR.1 x y z B (.slice ad Ls.length c) Ls := by rw [hQN2.out]; exact P
                        have EN : Hid ((⟨x.l, y.l, z.l⟩ : L3) = QR.2) := by rw [hQN2.out]; exact hE6
                        clear P hE hE6 lt
                        go_wp2
                        go_roundw
                        case rel => exact ⟨r + 1, by omega, by go_num, x, y, z, by rw [← hQR.out]; exact PN, by rw [← hQR.out]; exact EN⟩
                        case measure => simp [intOf]; omega
          · obtain rfl : r = 8 := by omega
            have HN : HR w wr base b q0 (gHashN p VL (m + 1) Q).1 x y z B (.slice ad Ls.length c) Ls := by rw [hQN.out]; exact P
            have EN : Hid ((⟨x.l, y.l, z.l⟩ : L3) = (gHashN p VL (m + 1) Q).2) := by rw [hQN.out]; exact hE
            clear P hE
            go_wp2
            go_roundw
            case rel => exact ⟨m + 1, i + 2, by omega, hide (by have := hi.out; omega), by go_num, x, y, z, HN, EN⟩
            case measure => simp [intOf]; have := hi.out; omega
      · as_aux_lemma =>
        have hi0 : ((i : Int) == 0) = true := by have := hi.out; simp; omega
        have hin0 : i < Ls.length := by have := hi.out; have := hcase.out; omega
        have hin0i : (i : Int) < Ls.length := by omega
        have hin1i : (Ls.length : Int) ≤ (i : Int) + 1 := by have := hi.out; omega
        replace hc1 := hide hc1
        replace hc2 := hide hc2
        rcases H.ow.form with ⟨_, h0⟩ | ⟨gl, cap, cur, e4, _⟩
        · exfalso; rw [h0] at hin0; simp at hin0
        obtain rfl : ad = some ⟨gl, 0, none⟩ := by injection e4
        have hin2 : i < Ls.length := by omega
        have he := H.ow.cellE (i := i) (j := 0) default hin2 (by decide) rfl
        rw [show i * lcL.m + 0 = i from by show i * 1 + 0 = i; omega] at he
        have lu := H.ls _ (getD_mem' hin2 default)
        obtain ⟨hul, hu2, hu3⟩ := hVg.out _ hin2
        generalize Ls.getD i default = u at *
        replace hul := hide hul
        have lu2 : u.l.length ≤ 20000 := by rw [hul.out]; exact hu2
        have he' : World.cell? _ ⟨gl, i, none⟩ = some (.slice u.ad u.l.length u.cap) := he
        clear he hu2
        go_wp2_with fail
        refine Rel.region_any Try.mixed fun w7 hb7 => ?_
        have he7 := cell_below hb7 he'
        replace H := H.below hb7
        replace lu := lu.mono hb7
        refine Rel.any_held (fun W => W.cell? ⟨q0, 0, none⟩ = some (.slice x.ad x.l.length x.cap) ∧ W.cell? ⟨gl, i, none⟩ = some (.slice u.ad u.l.length u.cap)) 9 ⟨H.blk.cell (j := 0) rfl, he7⟩ fun hH0 => ?_
        refine Rel.heldTake (v := ?_) 0 rfl (by kernel_rfl) (by kernel_rfl) (by kernel_rfl) (fun _ _ _ h => h) (by assumption) (by rfl) ?_ ?_
        rotate_left
        · (intro W hSw; (try dsimp only at hSw); go_simp; try with_reducible rfl)
        try simp only [Act.put, List.setIfInBounds_toArray, List.set_cons_zero, List.set_cons_succ]
        refine Rel.heldTake (v := ?_) 1 rfl (by kernel_rfl) (by kernel_rfl) (by kernel_rfl) (fun _ _ _ h => h) (by assumption) (by rfl) ?_ ?_
        rotate_left
        · (intro W hSw; (try dsimp only at hSw); go_simp; try with_reducible rfl)
        try simp only [Act.put, List.setIfInBounds_toArray, List.set_cons_zero, List.set_cons_succ]
        refine Rel.heldTake (v := ?_) 2 rfl (by kernel_rfl) (by kernel_rfl) (by kernel_rfl) (fun _ _ _ h => h) (by assumption) (by rfl) ?_ ?_
        rotate_left
        · (intro W hSw; (try dsimp only at hSw); go_simp; try with_reducible rfl)
        try simp only [Act.put, List.setIfInBounds_toArray, List.set_cons_zero, List.set_cons_succ]
        refine Rel.heldTake (v := ?_) 3 rfl (by kernel_rfl) (by kernel_rfl) (by kernel_rfl) (fun _ _ _ h => h) (by assumption) (by rfl) ?_ ?_
        rotate_left
        · (intro W hSw; (try dsimp only at hSw); go_simp; try with_reducible rfl)
        try simp only [Act.put, List.setIfInBounds_toArray, List.set_cons_zero, List.set_cons_succ]
        refine Rel.heldTake (v := ?_) 4 rfl (by kernel_rfl) (by kernel_rfl) (by kernel_rfl) (fun _ _ _ h => h) (by assumption) (by rfl) ?_ ?_
        rotate_left
        · (intro W hSw; (try dsimp only at hSw); go_simp; try with_reducible rfl)
        try simp only [Act.put, List.setIfInBounds_toArray, List.set_cons_zero, List.set_cons_succ]
        refine Rel.heldTake (v := ?_) 5 rfl (by kernel_rfl) (by kernel_rfl) (by kernel_rfl) (fun _ _ _ h => h) (by assumption) (by rfl) ?_ ?_
        rotate_left
        · (intro W hSw; (try dsimp only at hSw); go_simp; try with_reducible rfl)
        try simp only [Act.put, List.setIfInBounds_toArray, List.set_cons_zero, List.set_cons_succ]
        refine Rel.heldTake (v := ?_) 6 rfl (by kernel_rfl) (by kernel_rfl) (by kernel_rfl) (fun _ _ _ h => h) (by assumption) (by rfl) ?_ ?_
        rotate_left
        · (intro W hSw; (try dsimp only at hSw); go_simp; try with_reducible rfl)
        try simp only [Act.put, List.setIfInBounds_toArray, List.set_cons_zero, List.set_cons_succ]
        refine Rel.heldNext 7 rfl (by kernel_rfl) fun K hK => ?_
        go_simp
        have cA := rAddS_any p x u w7 H.lx.ok lu.ok (by omega) (by rw [ea.out]; exact ca) (by rw [hul.out]; exact hu3)
        have eA : addL p x.l u.l = addL p s.a (VL.getD i []) := by rw [ea.out, hul.out]
        rw [eA] at cA
        refine cA.mono ?_
        rintro e w8 ⟨n0, rfl, en, ln, hb8⟩
        have H8 := H.below hb8
        refine hK.out _ _ ⟨H8.blk.cell (j := 0) rfl, cell_below hb8 he7⟩ (fun hH1 => ?_)
        clear hK K
        try simp only [Act.put, List.setIfInBounds_toArray, List.set_cons_zero, List.set_cons_succ]
        refine Rel.heldTake (v := ?_) 8 rfl (by kernel_rfl) (by kernel_rfl) (by kernel_rfl) (fun _ _ _ h => h) (by assumption) (by rfl) ?_ ?_
        rotate_left
        · (intro W hSw; (try dsimp only at hSw); go_simp; try with_reducible rfl)
        try simp only [Act.put, List.setIfInBounds_toArray, List.set_cons_zero, List.set_cons_succ]
        have f := H8.blk.free 0
        have cq := H8.blk.cell (j := 0) (v := .slice x.ad x.l.length x.cap) rfl
        refine Rel.heldLast 9 rfl (by kernel_rfl) rfl (by kernel_rfl) fun K hK => ?_
        go_simp
        refine hK.out _ _ ?_
        have HH := H8.set hqz hb0 0 n0 n0 y z rfl ln H8.ly H8.lz
        have e0 : Hid (n0.l = addL p s.a (VL.getD i [])) := en
        clear hK K hH0 hH1 f cq H H8 cA eA lu hul lu2 hu3 he' he7 en hb7 hb8
        replace H := HH
        clear HH
        have E1 : Hid ((⟨n0.l, y.l, z.l⟩ : L3) = (TT p VL Q m 0).2) := hide (by
          rw [hQ0.out]
          show _ = gAbs p VL i 2 s
          have hvl := hVl.out
          have hi9 := hi.out
          unfold gAbs
          rw [if_pos ⟨by decide, by omega⟩, if_neg (by omega), e0.out, eb.out, show z.l = s.c from congrArg L3.c hE.out])
        have eT0 : (TT p VL Q m 0).1 = S1 := by rw [hQ0.out]
        have H1 := H
        rw [← eT0] at H1
        replace eT0 := hide eT0
        clear H hE ea eb ca cb lx0 ly0 hpp hq e0
        replace hv := hide hv
        go_wp2_with fail
        obtain ⟨wO, hwO⟩ : ∃ wO, wO = wr := ⟨_, rfl⟩
        subst hwO
        go_loopw [10] (fun t10 wr => ∃ r : Nat, r ≤ 8 ∧ t10 = .int .i64 r ∧ ∃ x y z : Lc, HR w wr base b q0 (TT p VL Q m r).1 x y z B (.slice (some ⟨gl, 0, none⟩) Ls.length c) Ls ∧ Hid ((⟨x.l, y.l, z.l⟩ : L3) = (TT p VL Q m r).2)) (fun t10 _ => 8 - (intOf t10).toNat)
        case atStart => exact ⟨0, by omega, rfl, n0, y, z, H1, E1⟩
        case round =>
          clear H1 E1
          obtain ⟨r, hr, rfl, x, y, z, P, hE⟩ := hrel
          by_cases hlt8 : r < 8
          · have hlt8' : (r : Int) < 8 := by omega
            have hTr := hTm.out r
            have hnx : Hid (TT p VL Q m (r + 1) = gRound r (TT p VL Q m r)) := hide rfl
            obtain ⟨QR, hQR⟩ : ∃ QR, QR = TT p VL Q m (r + 1) := ⟨_, rfl⟩
            rw [← hQR] at hnx
            replace hQR := hide hQR
            obtain ⟨⟨S1, s⟩, hq⟩ : ∃ q : St × L3, q = TT p VL Q m r := ⟨_, rfl⟩
            rw [← hq] at hTr hnx P hE
            simp only at P hE
            have hS1 : Hid (S1.p = p) := hide hTr.pp
            have hS2 : Bd S1 (N + 192 * m + 24 * r) := hTr.bd
            have hS3 : Hid (Sm3 30000 s) := hide hTr.sm
            have hco : Hid (CoefOk p s.a ∧ CoefOk p s.b ∧ CoefOk p s.c) := hide (by
              have h1 := hTr.lin
              have h2 : S1.p = p := hTr.pp
              rw [← h2]
              exact ⟨h1.1.1, h1.2.1.1, h1.2.2.1⟩)
            replace hTr := hide hTr
            replace hq := hide hq
            have hE' : Hid ((⟨x.l, y.l, z.l⟩ : L3) = kA p r s 0) := hE
            go_wp2_with fail
            obtain ⟨wP, hwP⟩ : ∃ wP, wP = wr := ⟨_, rfl⟩
            subst hwP
            go_loopw [11] (fun t11 wr => ∃ k : Nat, k ≤ 3 ∧ t11 = .int .i64 k ∧ ∃ x y z : Lc, HR w wr base b q0 S1 x y z B (.slice (some ⟨gl, 0, none⟩) Ls.length c) Ls ∧ Hid ((⟨x.l, y.l, z.l⟩ : L3) = kA p r s k)) (fun t11 _ => 3 - (intOf t11).toNat)
            case atStart => exact ⟨0, by omega, rfl, x, y, z, P, hE'⟩
            case round =>
              clear P hE hE'
              obtain ⟨k, hk, rfl, x, y, z, P, hE⟩ := hrel
              by_cases hlt3 : k < 3
              · obtain rfl | rfl | rfl : k = 0 ∨ k = 1 ∨ k = 2 := by omega
                · have hel : Hid (x.l = s.a) := hide (by have := congrArg L3.a hE.out; exact this)
                  have hsl : x.l.length ≤ 30000 := by rw [hel.out]; have := hS3.out; unfold Sm3 at this; omega
                  have cK := fun W => rConstant_any p r 0 W
                  have kb := fconst_bd p r 0
                  obtain ⟨kc, hkc⟩ : ∃ kc, kc = fconst p r 0 := ⟨_, rfl⟩
                  rw [← hkc] at cK kb
                  have hkon : Hid (addL p s.a (keepT (0, fred p kc)) = gKon p r 0 s.a) := hide (by rw [hkc]; rfl)
                  replace hkc := hide hkc
                  go_wp2_with fail
                  refine Rel.region_any Try.mixed fun w7 hb7 => ?_
                  replace P := P.below hb7
                  refine Rel.any_held (fun W => W.cell? ⟨q0, 0, none⟩ = some (.slice x.ad x.l.length x.cap)) 13 (P.blk.cell (j := 0) rfl) fun hH0 => ?_
                  refine Rel.heldTake (v := ?_) 0 rfl (by kernel_rfl) (by kernel_rfl) (by kernel_rfl) (fun _ _ _ h => h) (by assumption) (by rfl) ?_ ?_
                  rotate_left
                  · (intro W hSw; (try dsimp only at hSw); go_simp; try with_reducible rfl)
                  try simp only [Act.put, List.setIfInBounds_toArray, List.set_cons_zero, List.set_cons_succ]
                  refine Rel.heldTake (v := ?_) 1 rfl (by kernel_rfl) (by kernel_rfl) (by kernel_rfl) (fun _ _ _ h => h) (by assumption) (by rfl) ?_ ?_
                  rotate_left
                  · (intro W hSw; (try dsimp only at hSw); go_simp; try with_reducible rfl)
                  try simp only [Act.put, List.setIfInBounds_toArray, List.set_cons_zero, List.set_cons_succ]
                  refine Rel.heldTake (v := ?_) 2 rfl (by kernel_rfl) (by kernel_rfl) (by kernel_rfl) (fun _ _ _ h => h) (by assumption) (by rfl) ?_ ?_
                  rotate_left
                  · (intro W hSw; (try dsimp only at hSw); go_simp; try with_reducible rfl)
                  try simp only [Act.put, List.setIfInBounds_toArray, List.set_cons_zero, List.set_cons_succ]
                  refine Rel.heldTake (v := ?_) 3 rfl (by kernel_rfl) (by kernel_rfl) (by kernel_rfl) (fun _ _ _ h => h) (by assumption) (by rfl) ?_ ?_
                  rotate_left
                  · (intro W hSw; (try dsimp only at hSw); go_simp; try with_reducible rfl)
                  try simp only [Act.put, List.setIfInBounds_toArray, List.set_cons_zero, List.set_cons_succ]
                  refine Rel.heldTake (v := ?_) 4 rfl (by kernel_rfl) (by kernel_rfl) (by kernel_rfl) (fun _ _ _ h => h) (by assumption) (by rfl) ?_ ?_
                  rotate_left
                  · (intro W hSw; (try dsimp only at hSw); go_simp; try with_reducible rfl)
                  try simp only [Act.put, List.setIfInBounds_toArray, List.set_cons_zero, List.set_cons_succ]
                  refine Rel.heldTake (v := ?_) 5 rfl (by kernel_rfl) (by kernel_rfl) (by kernel_rfl) (fun _ _ _ h => h) (by assumption) (by rfl) ?_ ?_
                  rotate_left
                  · (intro W hSw; (try dsimp only at hSw); go_simp; try with_reducible rfl)
                  try simp only [Act.put, List.setIfInBounds_toArray, List.set_cons_zero, List.set_cons_succ]
                  refine Rel.heldTake (v := ?_) 6 rfl (by kernel_rfl) (by kernel_rfl) (by kernel_rfl) (fun _ _ _ h => h) (by assumption) (by rfl) ?_ ?_
                  rotate_left
                  · (intro W hSw; (try dsimp only at hSw); go_simp; try with_reducible rfl)
                  try simp only [Act.put, List.setIfInBounds_toArray, List.set_cons_zero, List.set_cons_succ]
                  refine Rel.heldTake (v := ?_) 7 rfl (by kernel_rfl) (by kernel_rfl) (by kernel_rfl) (fun _ _ _ h => h) (by assumption) (by rfl) ?_ ?_
                  rotate_left
                  · (intro W hSw; (try dsimp only at hSw); go_simp; try with_reducible rfl)
                  try simp only [Act.put, List.setIfInBounds_toArray, List.set_cons_zero, List.set_cons_succ]
                  refine Rel.heldTake (v := ?_) 8 rfl (by kernel_rfl) (by kernel_rfl) (by kernel_rfl) (fun _ _ _ h => h) (by assumption) (by rfl) ?_ ?_
                  rotate_left
                  · (intro W hSw; (try dsimp only at hSw); go_simp; try with_reducible rfl)
                  try simp only [Act.put, List.setIfInBounds_toArray, List.set_cons_zero, List.set_cons_succ]
                  refine Rel.heldNext 9 rfl (by kernel_rfl) fun K hK => ?_
                  go_simp
                  refine (cK _).mono ?_
                  rintro e w8 ⟨rfl, hb8⟩
                  replace P := P.below hb8
                  refine hK.out _ _ (P.blk.cell (j := 0) rfl) (fun hH1 => ?_)
                  clear hK K
                  try simp only [Act.put, List.setIfInBounds_toArray, List.set_cons_zero, List.set_cons_succ]
                  refine Rel.heldNext 10 rfl (by kernel_rfl) fun K hK => ?_
                  go_simp
                  refine (rConstant20_any p kc w8 kb).mono ?_
                  rintro e w9 ⟨tk, rfl, ek, lk, hb9⟩
                  replace P := P.below hb9
                  have lk1 : tk.l.length ≤ 1 := by rw [ek.out]; exact keepT_len _
                  refine hK.out _ _ (P.blk.cell (j := 0) rfl) (fun hH2 => ?_)
                  clear hK K
                  try simp only [Act.put, List.setIfInBounds_toArray, List.set_cons_zero, List.set_cons_succ]
                  refine Rel.heldNext 11 rfl (by kernel_rfl) fun K hK => ?_
                  go_simp
                  have cA := rAddS_any p x tk w9 P.lx.ok lk.ok (by omega) (by rw [hel.out]; exact hco.out.1) (by rw [ek.out]; exact (cst_in (hi := 1) hv.out _ (by decide)).1)
                  have eA : addL p x.l tk.l = gKon p r 0 s.a := by rw [← hkon.out, hel.out, ek.out]
                  rw [eA] at cA
                  refine cA.mono ?_
                  rintro e w10 ⟨n, rfl, en, ln, hb10⟩
                  replace P := P.below hb10
                  refine hK.out _ _ (P.blk.cell (j := 0) rfl) (fun hH3 => ?_)
                  clear hK K
                  try simp only [Act.put, List.setIfInBounds_toArray, List.set_cons_zero, List.set_cons_succ]
                  refine Rel.heldTake (v := ?_) 12 rfl (by kernel_rfl) (by kernel_rfl) (by kernel_rfl) (fun _ _ _ h => h) (by assumption) (by rfl) ?_ ?_
                  rotate_left
                  · (intro W hSw; (try dsimp only at hSw); go_simp; try with_reducible rfl)
                  try simp only [Act.put, List.setIfInBounds_toArray, List.set_cons_zero, List.set_cons_succ]
                  have f := P.blk.free 0
                  have cq := P.blk.cell (j := 0) (v := .slice x.ad x.l.length x.cap) rfl
                  refine Rel.heldLast 13 rfl (by kernel_rfl) rfl (by kernel_rfl) fun K hK => ?_
                  go_simp
                  refine hK.out _ _ ?_
                  have PP := P.set hqz hb0 0 n n y z rfl ln P.ly P.lz
                  have hE2 : Hid ((⟨n.l, y.l, z.l⟩ : L3) = kA p r s 1) := hide (by
                    have e1 := congrArg L3.a hE.out
                    have e2 := congrArg L3.b hE.out
                    have e3 := congrArg L3.c hE.out
                    simp only [kA] at e1 e2 e3 ⊢
                    simp [en.out, e2, e3])
                  clear hK K hH0 hH1 hH2 hH3 f cq P hE hel cA eA en lk ek
                  go_wp2
                  go_roundw
                  case rel => exact ⟨1, by omega, rfl, _, _, _, PP, hE2⟩
                  case measure => simp [intOf]
                · have hel : Hid (y.l = s.b) := hide (by have := congrArg L3.b hE.out; exact this)
                  have hsl : y.l.length ≤ 30000 := by rw [hel.out]; have := hS3.out; unfold Sm3 at this; omega
                  have cK := fun W => rConstant_any p r 1 W
                  have kb := fconst_bd p r 1
                  obtain ⟨kc, hkc⟩ : ∃ kc, kc = fconst p r 1 := ⟨_, rfl⟩
                  rw [← hkc] at cK kb
                  have hkon : Hid (addL p s.b (keepT (0, fred p kc)) = gKon p r 1 s.b) := hide (by rw [hkc]; rfl)
                  replace hkc := hide hkc
                  go_wp2_with fail
                  refine Rel.region_any Try.mixed fun w7 hb7 => ?_
                  replace P := P.below hb7
                  refine Rel.any_held (fun W => W.cell? ⟨q0, 1, none⟩ = some (.slice y.ad y.l.length y.cap)) 13 (P.blk.cell (j := 1) rfl) fun hH0 => ?_
                  refine Rel.heldTake (v := ?_) 0 rfl (by kernel_rfl) (by kernel_rfl) (by kernel_rfl) (fun _ _ _ h => h) (by assumption) (by rfl) ?_ ?_
                  rotate_left
                  · (intro W hSw; (try dsimp only at hSw); go_simp; try with_reducible rfl)
                  try simp only [Act.put, List.setIfInBounds_toArray, List.set_cons_zero, List.set_cons_succ]
                  refine Rel.heldTake (v := ?_) 1 rfl (by kernel_rfl) (by kernel_rfl) (by kernel_rfl) (fun _ _ _ h => h) (by assumption) (by rfl) ?_ ?_
                  rotate_left
                  · (intro W hSw; (try dsimp only at hSw); go_simp; try with_reducible rfl)
                  try simp only [Act.put, List.setIfInBounds_toArray, List.set_cons_zero, List.set_cons_succ]
                  refine Rel.heldTake (v := ?_) 2 rfl (by kernel_rfl) (by kernel_rfl) (by kernel_rfl) (fun _ _ _ h => h) (by assumption) (by rfl) ?_ ?_
                  rotate_left
                  · (intro W hSw; (try dsimp only at hSw); go_simp; try with_reducible rfl)
                  try simp only [Act.put, List.setIfInBounds_toArray, List.set_cons_zero, List.set_cons_succ]
                  refine Rel.heldTake (v := ?_) 3 rfl (by kernel_rfl) (by kernel_rfl) (by kernel_rfl) (fun _ _ _ h => h) (by assumption) (by rfl) ?_ ?_
                  rotate_left
                  · (intro W hSw; (try dsimp only at hSw); go_simp; try with_reducible rfl)
                  try simp only [Act.put, List.setIfInBounds_toArray, List.set_cons_zero, List.set_cons_succ]
                  refine Rel.heldTake (v := ?_) 4 rfl (by kernel_rfl) (by kernel_rfl) (by kernel_rfl) (fun _ _ _ h => h) (by assumption) (by rfl) ?_ ?_
                  rotate_left
                  · (intro W hSw; (try dsimp only at hSw); go_simp; try with_reducible rfl)
                  try simp only [Act.put, List.setIfInBounds_toArray, List.set_cons_zero, List.set_cons_succ]
                  refine Rel.heldTake (v := ?_) 5 rfl (by kernel_rfl) (by kernel_rfl) (by kernel_rfl) (fun _ _ _ h => h) (by assumption) (by rfl) ?_ ?_
                  rotate_left
                  · (intro W hSw; (try dsimp only at hSw); go_simp; try with_reducible rfl)
                  try simp only [Act.put, List.setIfInBounds_toArray, List.set_cons_zero, List.set_cons_succ]
                  refine Rel.heldTake (v := ?_) 6 rfl (by kernel_rfl) (by kernel_rfl) (by kernel_rfl) (fun _ _ _ h => h) (by assumption) (by rfl) ?_ ?_
                  rotate_left
                  · (intro W hSw; (try dsimp only at hSw); go_simp; try with_reducible rfl)
                  try simp only [Act.put, List.setIfInBounds_toArray, List.set_cons_zero, List.set_cons_succ]
                  refine Rel.heldTake (v := ?_) 7 rfl (by kernel_rfl) (by kernel_rfl) (by kernel_rfl) (fun _ _ _ h => h) (by assumption) (by rfl) ?_ ?_
                  rotate_left
                  · (intro W hSw; (try dsimp only at hSw); go_simp; try with_reducible rfl)
                  try simp only [Act.put, List.setIfInBounds_toArray, List.set_cons_zero, List.set_cons_succ]
                  refine Rel.heldTake (v := ?_) 8 rfl (by kernel_rfl) (by kernel_rfl) (by kernel_rfl) (fun _ _ _ h => h) (by assumption) (by rfl) ?_ ?_
                  rotate_left
                  · (intro W hSw; (try dsimp only at hSw); go_simp; try with_reducible rfl)
                  try simp only [Act.put, List.setIfInBounds_toArray, List.set_cons_zero, List.set_cons_succ]
                  refine Rel.heldNext 9 rfl (by kernel_rfl) fun K hK => ?_
                  go_simp
                  refine (cK _).mono ?_
                  rintro e w8 ⟨rfl, hb8⟩
                  replace P := P.below hb8
                  refine hK.out _ _ (P.blk.cell (j := 1) rfl) (fun hH1 => ?_)
                  clear hK K
                  try simp only [Act.put, List.setIfInBounds_toArray, List.set_cons_zero, List.set_cons_succ]
                  refine Rel.heldNext 10 rfl (by kernel_rfl) fun K hK => ?_
                  go_simp
                  refine (rConstant20_any p kc w8 kb).mono ?_
                  rintro e w9 ⟨tk, rfl, ek, lk, hb9⟩
                  replace P := P.below hb9
                  have lk1 : tk.l.length ≤ 1 := by rw [ek.out]; exact keepT_len _
                  refine hK.out _ _ (P.blk.cell (j := 1) rfl) (fun hH2 => ?_)
                  clear hK K
                  try simp only [Act.put, List.setIfInBounds_toArray, List.set_cons_zero, List.set_cons_succ]
                  refine Rel.heldNext 11 rfl (by kernel_rfl) fun K hK => ?_
                  go_simp
                  have cA := rAddS_any p y tk w9 P.ly.ok lk.ok (by omega) (by rw [hel.out]; exact hco.out.2.1) (by rw [ek.out]; exact (cst_in (hi := 1) hv.out _ (by decide)).1)
                  have eA : addL p y.l tk.l = gKon p r 1 s.b := by rw [← hkon.out, hel.out, ek.out]
                  rw [eA] at cA
                  refine cA.mono ?_
                  rintro e w10 ⟨n, rfl, en, ln, hb10⟩
                  replace P := P.below hb10
                  refine hK.out _ _ (P.blk.cell (j := 1) rfl) (fun hH3 => ?_)
                  clear hK K
                  try simp only [Act.put, List.setIfInBounds_toArray, List.set_cons_zero, List.set_cons_succ]
                  refine Rel.heldTake (v := ?_) 12 rfl (by kernel_rfl) (by kernel_rfl) (by kernel_rfl) (fun _ _ _ h => h) (by assumption) (by rfl) ?_ ?_
                  rotate_left
                  · (intro W hSw; (try dsimp only at hSw); go_simp; try with_reducible rfl)
                  try simp only [Act.put, List.setIfInBounds_toArray, List.set_cons_zero, List.set_cons_succ]
                  have f := P.blk.free 1
                  have cq := P.blk.cell (j := 1) (v := .slice y.ad y.l.length y.cap) rfl
                  refine Rel.heldLast 13 rfl (by kernel_rfl) rfl (by kernel_rfl) fun K hK => ?_
                  go_simp
                  refine hK.out _ _ ?_
                  have PP := P.set hqz hb0 1 n x n z rfl P.lx ln P.lz
                  have hE2 : Hid ((⟨x.l, n.l, z.l⟩ : L3) = kA p r s 2) := hide (by
                    have e1 := congrArg L3.a hE.out
                    have e2 := congrArg L3.b hE.out
                    have e3 := congrArg L3.c hE.out
                    simp only [kA] at e1 e2 e3 ⊢
                    simp [en.out, e1, e3])
                  clear hK K hH0 hH1 hH2 hH3 f cq P hE hel cA eA en lk ek
                  go_wp2
                  go_roundw
                  case rel => exact ⟨2, by omega, rfl, _, _, _, PP, hE2⟩
                  case measure => simp [intOf]
                · have hel : Hid (z.l = s.c) := hide (by have := congrArg L3.c hE.out; exact this)
                  have hsl : z.l.length ≤ 30000 := by rw [hel.out]; have := hS3.out; unfold Sm3 at this; omega
                  have cK := fun W => rConstant_any p r 2 W
                  have kb := fconst_bd p r 2
                  obtain ⟨kc, hkc⟩ : ∃ kc, kc = fconst p r 2 := ⟨_, rfl⟩
                  rw [← hkc] at cK kb
                  have hkon : Hid (addL p s.c (keepT (0, fred p kc)) = gKon p r 2 s.c) := hide (by rw [hkc]; rfl)
                  replace hkc := hide hkc
                  go_wp2_with fail
                  refine Rel.region_any Try.mixed fun w7 hb7 => ?_
                  replace P := P.below hb7
                  refine Rel.any_held (fun W => W.cell? ⟨q0, 2, none⟩ = some (.slice z.ad z.l.length z.cap)) 13 (P.blk.cell (j := 2) rfl) fun hH0 => ?_
                  refine Rel.heldTake (v := ?_) 0 rfl (by kernel_rfl) (by kernel_rfl) (by kernel_rfl) (fun _ _ _ h => h) (by assumption) (by rfl) ?_ ?_
                  rotate_left
                  · (intro W hSw; (try dsimp only at hSw); go_simp; try with_reducible rfl)
                  try simp only [Act.put, List.setIfInBounds_toArray, List.set_cons_zero, List.set_cons_succ]
                  refine Rel.heldTake (v := ?_) 1 rfl (by kernel_rfl) (by kernel_rfl) (by kernel_rfl) (fun _ _ _ h => h) (by assumption) (by rfl) ?_ ?_
                  rotate_left
                  · (intro W hSw; (try dsimp only at hSw); go_simp; try with_reducible rfl)
                  try simp only [Act.put, List.setIfInBounds_toArray, List.set_cons_zero, List.set_cons_succ]
                  refine Rel.heldTake (v := ?_) 2 rfl (by kernel_rfl) (by kernel_rfl) (by kernel_rfl) (fun _ _ _ h => h) (by assumption) (by rfl) ?_ ?_
                  rotate_left
                  · (intro W hSw; (try dsimp only at hSw); go_simp; try with_reducible rfl)
                  try simp only [Act.put, List.setIfInBounds_toArray, List.set_cons_zero, List.set_cons_succ]
                  refine Rel.heldTake (v := ?_) 3 rfl (by kernel_rfl) (by kernel_rfl) (by kernel_rfl) (fun _ _ _ h => h) (by assumption) (by rfl) ?_ ?_
                  rotate_left
                  · (intro W hSw; (try dsimp only at hSw); go_simp; try with_reducible rfl)
                  try simp only [Act.put, List.setIfInBounds_toArray, List.set_cons_zero, List.set_cons_succ]
                  refine Rel.heldTake (v := ?_) 4 rfl (by kernel_rfl) (by kernel_rfl) (by kernel_rfl) (fun _ _ _ h => h) (by assumption) (by rfl) ?_ ?_
                  rotate_left
                  · (intro W hSw; (try dsimp only at hSw); go_simp; try with_reducible rfl)
                  try simp only [Act.put, List.setIfInBounds_toArray, List.set_cons_zero, List.set_cons_succ]
                  refine Rel.heldTake (v := ?_) 5 rfl (by kernel_rfl) (by kernel_rfl) (by kernel_rfl) (fun _ _ _ h => h) (by assumption) (by rfl) ?_ ?_
                  rotate_left
                  · (intro W hSw; (try dsimp only at hSw); go_simp; try with_reducible rfl)
                  try simp only [Act.put, List.setIfInBounds_toArray, List.set_cons_zero, List.set_cons_succ]
                  refine Rel.heldTake (v := ?_) 6 rfl (by kernel_rfl) (by kernel_rfl) (by kernel_rfl) (fun _ _ _ h => h) (by assumption) (by rfl) ?_ ?_
                  rotate_left
                  · (intro W hSw; (try dsimp only at hSw); go_simp; try with_reducible rfl)
                  try simp only [Act.put, List.setIfInBounds_toArray, List.set_cons_zero, List.set_cons_succ]
                  refine Rel.heldTake (v := ?_) 7 rfl (by kernel_rfl) (by kernel_rfl) (by kernel_rfl) (fun _ _ _ h => h) (by assumption) (by rfl) ?_ ?_
                  rotate_left
                  · (intro W hSw; (try dsimp only at hSw); go_simp; try with_reducible rfl)
                  try simp only [Act.put, List.setIfInBounds_toArray, List.set_cons_zero, List.set_cons_succ]
                  refine Rel.heldTake (v := ?_) 8 rfl (by kernel_rfl) (by kernel_rfl) (by kernel_rfl) (fun _ _ _ h => h) (by assumption) (by rfl) ?_ ?_
                  rotate_left
                  · (intro W hSw; (try dsimp only at hSw); go_simp; try with_reducible rfl)
                  try simp only [Act.put, List.setIfInBounds_toArray, List.set_cons_zero, List.set_cons_succ]
                  refine Rel.heldNext 9 rfl (by kernel_rfl) fun K hK => ?_
                  go_simp
                  refine (cK _).mono ?_
                  rintro e w8 ⟨rfl, hb8⟩
                  replace P := P.below hb8
                  refine hK.out _ _ (P.blk.cell (j := 2) rfl) (fun hH1 => ?_)
                  clear hK K
                  try simp only [Act.put, List.setIfInBounds_toArray, List.set_cons_zero, List.set_cons_succ]
                  refine Rel.heldNext 10 rfl (by kernel_rfl) fun K hK => ?_
                  go_simp
                  refine (rConstant20_any p kc w8 kb).mono ?_
                  rintro e w9 ⟨tk, rfl, ek, lk, hb9⟩
                  replace P := P.below hb9
                  have lk1 : tk.l.length ≤ 1 := by rw [ek.out]; exact keepT_len _
                  refine hK.out _ _ (P.blk.cell (j := 2) rfl) (fun hH2 => ?_)
                  clear hK K
                  try simp only [Act.put, List.setIfInBounds_toArray, List.set_cons_zero, List.set_cons_succ]
                  refine Rel.heldNext 11 rfl (by kernel_rfl) fun K hK => ?_
                  go_simp
                  have cA := rAddS_any p z tk w9 P.lz.ok lk.ok (by omega) (by rw [hel.out]; exact hco.out.2.2) (by rw [ek.out]; exact (cst_in (hi := 1) hv.out _ (by decide)).1)
                  have eA : addL p z.l tk.l = gKon p r 2 s.c := by rw [← hkon.out, hel.out, ek.out]
                  rw [eA] at cA
                  refine cA.mono ?_
                  rintro e w10 ⟨n, rfl, en, ln, hb10⟩
                  replace P := P.below hb10
                  refine hK.out _ _ (P.blk.cell (j := 2) rfl) (fun hH3 => ?_)
                  clear hK K
                  try simp only [Act.put, List.setIfInBounds_toArray, List.set_cons_zero, List.set_cons_succ]
                  refine Rel.heldTake (v := ?_) 12 rfl (by kernel_rfl) (by kernel_rfl) (by kernel_rfl) (fun _ _ _ h => h) (by assumption) (by rfl) ?_ ?_
                  rotate_left
                  · (intro W hSw; (try dsimp only at hSw); go_simp; try with_reducible rfl)
                  try simp only [Act.put, List.setIfInBounds_toArray, List.set_cons_zero, List.set_cons_succ]
                  have f := P.blk.free 2
                  have cq := P.blk.cell (j := 2) (v := .slice z.ad z.l.length z.cap) rfl
                  refine Rel.heldLast 13 rfl (by kernel_rfl) rfl (by kernel_rfl) fun K hK => ?_
                  go_simp
                  refine hK.out _ _ ?_
                  have PP := P.set hqz hb0 2 n x y n rfl P.lx P.ly ln
                  have hE2 : Hid ((⟨x.l, y.l, n.l⟩ : L3) = kA p r s 3) := hide (by
                    have e1 := congrArg L3.a hE.out
                    have e2 := congrArg L3.b hE.out
                    have e3 := congrArg L3.c hE.out
                    simp only [kA] at e1 e2 e3 ⊢
                    simp [en.out, e1, e2])
                  clear hK K hH0 hH1 hH2 hH3 f cq P hE hel cA eA en lk ek
                  go_wp2
                  go_roundw
                  case rel => exact ⟨3, by omega, rfl, _, _, _, PP, hE2⟩
                  case measure => simp [intOf]
              · obtain rfl : k = 3 := by omega
                rw [show ((3 : Nat) : Int) = 3 from rfl]
                have hE3 : Hid ((⟨x.l, y.l, z.l⟩ : L3) = gKon3 p r s) := hE
                obtain ⟨q1, hq1⟩ : ∃ q1 : St × L3, q1 = (S1, gKon3 p r s) := ⟨_, rfl⟩
                have hpB : ∀ k, (pB q1 k).1.p = p := fun k => by rw [pB_p, hq1]; exact hS1.out
                have hbB : ∀ k, Bd (pB q1 k).1 (N + 192 * m + 24 * (r : Int) + 24) := fun k => pB_bd (by rw [hq1]; exact hS2) k
                have hgs : Hid (pB q1 3 = gSub r (S1, s)) := hide (by rw [hq1]; show gPow3 (gPow2 (gPow1 (S1, gKon3 p r s))) = gPow3 (gPow2 (gPow1 (S1, gKon3 S1.p r s))); rw [hS1.out])
                have P0 : HR w wr base b q0 (pB q1 0).1 x y z B (.slice (some ⟨gl, 0, none⟩) Ls.length c) Ls := by rw [hq1]; exact P
                have hE4 : Hid ((⟨x.l, y.l, z.l⟩ : L3) = (pB q1 0).2) := by rw [hq1]; exact hE3
                obtain ⟨wA, hwA⟩ : ∃ wA, wA = wr := ⟨_, rfl⟩
                subst hwA
                replace hq1 := hide hq1
                replace hpB := hide hpB
                replace hbB := hide hbB
                clear P hE hE3
                go_wp2_with fail
                go_loopw [12] (fun t12 wr => ∃ k : Nat, k ≤ 3 ∧ t12 = .int .i64 k ∧ ∃ x y z : Lc, HR w wr base b q0 (pB q1 k).1 x y z B (.slice (some ⟨gl, 0, none⟩) Ls.length c) Ls ∧ Hid ((⟨x.l, y.l, z.l⟩ : L3) = (pB q1 k).2)) (fun t12 _ => 3 - (intOf t12).toNat)
                case atStart => exact ⟨0, by omega, rfl, x, y, z, P0, hE4⟩
                case round =>
                  clear P0 hE4
                  obtain ⟨k, hk, rfl, x, y, z, P, hE⟩ := hrel
                  by_cases hlt3 : k < 3
                  · obtain rfl | rfl | rfl : k = 0 ∨ k = 1 ∨ k = 2 := by omega
                    · have hel : Hid (x.l = (pB q1 0).2.a) := hide (congrArg L3.a hE.out)
                      have km := P.blk.cell (j := 0) (v := .slice x.ad x.l.length x.cap) rfl
                      have cP := rbRaise_any base b (pB q1 0).1 _ x wr P.bld (by rw [hpB.out]; exact hv.out) (hbB.out 0) (by omega) P.lx
                      go_wp2_with fail
                      refine cP.mono ?_
                      rintro e w3 ⟨n, rfl, en, ln, hB3, k3⟩
                      rw [hel.out] at hB3 en
                      have P3 : HR w w3 base b q0 (pB q1 1).1 x y z B (.slice (some ⟨gl, 0, none⟩) Ls.length c) Ls := P.keep k3 hB3
                      have f := P3.blk.free 0
                      have cq := P3.blk.cell (j := 0) (v := .slice x.ad x.l.length x.cap) rfl
                      have PP := P3.set hqz hb0 0 n n y z rfl ln P3.ly P3.lz
                      have hE2 : Hid ((⟨n.l, y.l, z.l⟩ : L3) = (pB q1 1).2) := hide (by
                        have e1 := congrArg L3.a hE.out
                        have e2 := congrArg L3.b hE.out
                        have e3 := congrArg L3.c hE.out
                        simp only at e1 e2 e3
                        simp only [en.out, e2, e3]
                        rfl)
                      clear hE hel km cP P P3 k3 hB3
                      go_wp2
                      go_roundw
                      case rel => exact ⟨1, by omega, rfl, _, _, _, PP, hE2⟩
                      case measure => simp [intOf]
                    · have hel : Hid (y.l = (pB q1 1).2.b) := hide (congrArg L3.b hE.out)
                      have km := P.blk.cell (j := 1) (v := .slice y.ad y.l.length y.cap) rfl
                      have cP := rbRaise_any base b (pB q1 1).1 _ y wr P.bld (by rw [hpB.out]; exact hv.out) (hbB.out 1) (by omega) P.ly
                      go_wp2_with fail
                      refine cP.mono ?_
                      rintro e w3 ⟨n, rfl, en, ln, hB3, k3⟩
                      rw [hel.out] at hB3 en
                      have P3 : HR w w3 base b q0 (pB q1 2).1 x y z B (.slice (some ⟨gl, 0, none⟩) Ls.length c) Ls := P.keep k3 hB3
                      have f := P3.blk.free 1
                      have cq := P3.blk.cell (j := 1) (v := .slice y.ad y.l.length y.cap) rfl
                      have PP := P3.set hqz hb0 1 n x n z rfl P3.lx ln P3.lz
                      have hE2 : Hid ((⟨x.l, n.l, z.l⟩ : L3) = (pB q1 2).2) := hide (by
                        have e1 := congrArg L3.a hE.out
                        have e2 := congrArg L3.b hE.out
                        have e3 := congrArg L3.c hE.out
                        simp only at e1 e2 e3
                        simp only [en.out, e1, e3]
                        rfl)
                      clear hE hel km cP P P3 k3 hB3
                      go_wp2
                      go_roundw
                      case rel => exact ⟨2, by omega, rfl, _, _, _, PP, hE2⟩
                      case measure => simp [intOf]
                    · have hel : Hid (z.l = (pB q1 2).2.c) := hide (congrArg L3.c hE.out)
                      have km := P.blk.cell (j := 2) (v := .slice z.ad z.l.length z.cap) rfl
                      have cP := rbRaise_any base b (pB q1 2).1 _ z wr P.bld (by rw [hpB.out]; exact hv.out) (hbB.out 2) (by omega) P.lz
                      go_wp2_with fail
                      refine cP.mono ?_
                      rintro e w3 ⟨n, rfl, en, ln, hB3, k3⟩
                      rw [hel.out] at hB3 en
                      have P3 : HR w w3 base b q0 (pB q1 3).1 x y z B (.slice (some ⟨gl, 0, none⟩) Ls.length c) Ls := P.keep k3 hB3
                      have f := P3.blk.free 2
                      have cq := P3.blk.cell (j := 2) (v := .slice z.ad z.l.length z.cap) rfl
                      have PP := P3.set hqz hb0 2 n x y n rfl P3.lx P3.ly ln
                      have hE2 : Hid ((⟨x.l, y.l, n.l⟩ : L3) = (pB q1 3).2) := hide (by
                        have e1 := congrArg L3.a hE.out
                        have e2 := congrArg L3.b hE.out
                        have e3 := congrArg L3.c hE.out
                        simp only at e1 e2 e3
                        simp only [en.out, e1, e2]
                        rfl)
                      clear hE hel km cP P P3 k3 hB3
                      go_wp2
                      go_roundw
                      case rel => exact ⟨3, by omega, rfl, _, _, _, PP, hE2⟩
                      case measure => simp [intOf]
                  · obtain rfl : k = 3 := by omega
                    rw [show ((3 : Nat) : Int) = 3 from rfl]
                    rw [hgs.out] at P hE
                    obtain ⟨hTs, hGl⟩ := hTr.out.sub r
                    obtain ⟨⟨S2, s2⟩, hq2⟩ : ∃ q : St × L3, q = gSub r (S1, s) := ⟨_, rfl⟩
                    rw [← hq2] at P hE hTs hGl
                    simp only at P hE hGl
                    have hpp2 : S2.p = p := hTs.pp
                    have hv2 : vld S2.p = true := by rw [hpp2]; exact hv.out
                    have hl2 := hTs.lin
                    simp only at hl2
                    have hco2 : Hid (CoefOk p s2.a ∧ CoefOk p s2.b ∧ CoefOk p s2.c) := hide (by
                      rw [← hpp2]
                      exact ⟨hl2.1.1, hl2.2.1.1, hl2.2.2.1⟩)
                    have hcab : CoefOk p (addL p s2.a s2.b) := by
                      rw [← hpp2]
                      exact (LinIn.add hv2 hl2.1 hl2.2.1).1
                    have hct0 : CoefOk p (gSum3 p s2) := by
                      rw [← hpp2]
                      exact (LinIn.add hv2 (LinIn.add hv2 hl2.1 hl2.2.1) hl2.2.2).1
                    have hQN2 : Hid (QR = (S2, gMix p s2)) := hide (by
                      rw [hnx.out]
                      show ((gSub r (S1, s)).1, gMix (gSub r (S1, s)).1.p (gSub r (S1, s)).2) = _
                      rw [← hq2]
                      show (S2, gMix S2.p s2) = _
                      rw [hpp2])
                    replace hpp2 := hide hpp2
                    replace hv2 := hide hv2
                    replace hq2 := hide hq2
                    replace hct0 := hide hct0
                    replace hcab := hide hcab
                    clear hl2 hTs
                    obtain ⟨wB, hwB⟩ : ∃ wB, wB = wr := ⟨_, rfl⟩
                    subst hwB
                    obtain ⟨gl1, gl2, gl3⟩ := hGl
                    have ea : Hid (x.l = s2.a) := hide (congrArg L3.a hE.out)
                    have eb : Hid (y.l = s2.b) := hide (congrArg L3.b hE.out)
                    have ec : Hid (z.l = s2.c) := hide (congrArg L3.c hE.out)
                    have za : x.l.length ≤ 1 := by rw [ea.out]; exact gl1
                    have zb : y.l.length ≤ 1 := by rw [eb.out]; exact gl2
                    have zc : z.l.length ≤ 1 := by rw [ec.out]; exact gl3
                    go_wp2_with fail
                    refine Rel.region_any Try.mixed fun w7 hb7 => ?_
                    replace P := P.below hb7
                    refine Rel.any_held (fun W => W.cell? ⟨q0, 0, none⟩ = some (.slice x.ad x.l.length x.cap) ∧ W.cell? ⟨q0, 1, none⟩ = some (.slice y.ad y.l.length y.cap) ∧ W.cell? ⟨q0, 2, none⟩ = some (.slice z.ad z.l.length z.cap)) 10 ⟨P.blk.cell (j := 0) rfl, P.blk.cell (j := 1) rfl, P.blk.cell (j := 2) rfl⟩ fun hH0 => ?_
                    refine Rel.heldTake (v := ?_) 0 rfl (by kernel_rfl) (by kernel_rfl) (by kernel_rfl) (fun _ _ _ h => h) (by assumption) (by rfl) ?_ ?_
                    rotate_left
                    · (intro W hSw; (try dsimp only at hSw); go_simp; try with_reducible rfl)
                    try simp only [Act.put, List.setIfInBounds_toArray, List.set_cons_zero, List.set_cons_succ]
                    refine Rel.heldTake (v := ?_) 1 rfl (by kernel_rfl) (by kernel_rfl) (by kernel_rfl) (fun _ _ _ h => h) (by assumption) (by rfl) ?_ ?_
                    rotate_left
                    · (intro W hSw; (try dsimp only at hSw); go_simp; try with_reducible rfl)
                    try simp only [Act.put, List.setIfInBounds_toArray, List.set_cons_zero, List.set_cons_succ]
                    refine Rel.heldTake (v := ?_) 2 rfl (by kernel_rfl) (by kernel_rfl) (by kernel_rfl) (fun _ _ _ h => h) (by assumption) (by rfl) ?_ ?_
                    rotate_left
                    · (intro W hSw; (try dsimp only at hSw); go_simp; try with_reducible rfl)
                    try simp only [Act.put, List.setIfInBounds_toArray, List.set_cons_zero, List.set_cons_succ]
                    refine Rel.heldTake (v := ?_) 3 rfl (by kernel_rfl) (by kernel_rfl) (by kernel_rfl) (fun _ _ _ h => h) (by assumption) (by rfl) ?_ ?_
                    rotate_left
                    · (intro W hSw; (try dsimp only at hSw); go_simp; try with_reducible rfl)
                    try simp only [Act.put, List.setIfInBounds_toArray, List.set_cons_zero, List.set_cons_succ]
                    refine Rel.heldTake (v := ?_) 4 rfl (by kernel_rfl) (by kernel_rfl) (by kernel_rfl) (fun _ _ _ h => h) (by assumption) (by rfl) ?_ ?_
                    rotate_left
                    · (intro W hSw; (try dsimp only at hSw); go_simp; try with_reducible rfl)
                    try simp only [Act.put, List.setIfInBounds_toArray, List.set_cons_zero, List.set_cons_succ]
                    refine Rel.heldTake (v := ?_) 5 rfl (by kernel_rfl) (by kernel_rfl) (by kernel_rfl) (fun _ _ _ h => h) (by assumption) (by rfl) ?_ ?_
                    rotate_left
                    · (intro W hSw; (try dsimp only at hSw); go_simp; try with_reducible rfl)
                    try simp only [Act.put, List.setIfInBounds_toArray, List.set_cons_zero, List.set_cons_succ]
                    refine Rel.heldTake (v := ?_) 7 rfl (by kernel_rfl) (by kernel_rfl) (by kernel_rfl) (fun _ _ _ h => h) (by assumption) (by rfl) ?_ ?_
                    rotate_left
                    · (intro W hSw; (try dsimp only at hSw); go_simp; try with_reducible rfl)
                    try simp only [Act.put, List.setIfInBounds_toArray, List.set_cons_zero, List.set_cons_succ]
                    refine Rel.heldTake (v := ?_) 8 rfl (by kernel_rfl) (by kernel_rfl) (by kernel_rfl) (fun _ _ _ h => h) (by assumption) (by rfl) ?_ ?_
                    rotate_left
                    · (intro W hSw; (try dsimp only at hSw); go_simp; try with_reducible rfl)
                    try simp only [Act.put, List.setIfInBounds_toArray, List.set_cons_zero, List.set_cons_succ]
                    refine Rel.heldNext 6 rfl (by kernel_rfl) fun K hK => ?_
                    go_simp
                    have cA := rAddS_any p x y w7 P.lx.ok P.ly.ok (by omega) (by rw [ea.out]; exact hco2.out.1) (by rw [eb.out]; exact hco2.out.2.1)
                    have eA : addL p x.l y.l = addL p s2.a s2.b := by rw [ea.out, eb.out]
                    have lA := addP_len p x.l y.l 1
                    rw [eA] at cA
                    refine cA.mono ?_
                    rintro e w8 ⟨t8, rfl, et8, lt8, hb8⟩
                    replace P := P.below hb8
                    have zt : t8.l.length ≤ 2 := by rw [et8.out, ← eA]; unfold addL; omega
                    refine hK.out _ _ ⟨P.blk.cell (j := 0) rfl, P.blk.cell (j := 1) rfl, P.blk.cell (j := 2) rfl⟩ (fun hH1 => ?_)
                    clear hK K
                    try simp only [Act.put, List.setIfInBounds_toArray, List.set_cons_zero, List.set_cons_succ]
                    refine Rel.heldNext 9 rfl (by kernel_rfl) fun K hK => ?_
                    go_simp
                    have cA2 := rAddS_any p t8 z w8 lt8.ok P.lz.ok (by omega) (by rw [et8.out]; exact hcab.out) (by rw [ec.out]; exact hco2.out.2.2)
                    have eA2 : addL p t8.l z.l = gSum3 p s2 := by rw [et8.out, ec.out]; rfl
                    have lA2 := addP_len p t8.l z.l 1
                    rw [eA2] at cA2
                    refine cA2.mono ?_
                    rintro e w9 ⟨t, rfl, et, lt, hb9⟩
                    replace P := P.below hb9
                    have htl : Hid (t.l.length ≤ 3) := hide (by rw [et.out, ← eA2]; unfold addL; omega)
                    have hct : Hid (CoefOk p t.l) := hide (by rw [et.out]; exact hct0.out)
                    refine hK.out _ _ ⟨P.blk.cell (j := 0) rfl, P.blk.cell (j := 1) rfl, P.blk.cell (j := 2) rfl⟩ (fun hH2 => ?_)
                    clear hK K
                    try simp only [Act.put, List.setIfInBounds_toArray, List.set_cons_zero, List.set_cons_succ]
                    refine Rel.heldLast 10 rfl (by kernel_rfl) rfl (by kernel_rfl) fun K hK => ?_
                    go_simp
                    refine hK.out _ _ ?_
                    have P0 : HR w w9 base b q0 S2 x y z B (.slice (some ⟨gl, 0, none⟩) Ls.length c) Ls ∧ LinT w9 t := ⟨P, lt⟩
                    have hE5 : Hid ((⟨x.l, y.l, z.l⟩ : L3) = mC p t.l s2 0) := hE
                    clear hK K hH0 hH1 hH2 hE P lt za zb zc zt ea eb ec cA cA2 eA eA2 lA lA2 et8 lt8 hb7 hb8 hb9
                    go_wp2_with fail
                    go_loopw [14] (fun t14 wr => ∃ k : Nat, k ≤ 3 ∧ t14 = .int .i64 k ∧ ∃ x y z : Lc, (HR w wr base b q0 S2 x y z B (.slice (some ⟨gl, 0, none⟩) Ls.length c) Ls ∧ LinT wr t) ∧ Hid ((⟨x.l, y.l, z.l⟩ : L3) = mC p t.l s2 k)) (fun t14 _ => 3 - (intOf t14).toNat)
                    case atStart => exact ⟨0, by omega, rfl, x, y, z, P0, hE5⟩
                    case round =>
                      clear P0 hE5
                      obtain ⟨k, hk, rfl, x, y, z, ⟨P, lt⟩, hE⟩ := hrel
                      by_cases hlt3 : k < 3
                      · obtain rfl | rfl | rfl : k = 0 ∨ k = 1 ∨ k = 2 := by omega
                        · have hel : Hid (x.l = s2.a) := hide (congrArg L3.a hE.out)
                          have hsl : x.l.length ≤ 1 := by rw [hel.out]; exact gl1
                          have km := P.blk.cell (j := 0) (v := .slice x.ad x.l.length x.cap) rfl
                          have cA := rAddS_any p x t wr P.lx.ok lt.ok (by have := htl.out; omega) (by rw [hel.out]; exact hco2.out.1) hct.out
                          have eA : addL p x.l t.l = addL p s2.a t.l := by rw [hel.out]
                          rw [eA] at cA
                          go_wp2_with fail
                          refine cA.mono ?_
                          rintro e w3 ⟨n, rfl, en, ln, hb3⟩
                          have P3 := P.below hb3
                          have f := P3.blk.free 0
                          have cq := P3.blk.cell (j := 0) (v := .slice x.ad x.l.length x.cap) rfl
                          have PP := P3.set hqz hb0 0 n n y z rfl ln P3.ly P3.lz
                          have lt2 : LinT (w3.setCell ⟨q0, 0, none⟩ (lcV n)) t := (lt.mono hb3).setType P3.blk (by decide)
                          have hE2 : Hid ((⟨n.l, y.l, z.l⟩ : L3) = mC p t.l s2 1) := hide (by
                            have e1 := congrArg L3.a hE.out
                            have e2 := congrArg L3.b hE.out
                            have e3 := congrArg L3.c hE.out
                            simp only [mC] at e1 e2 e3 ⊢
                            simp [en.out, e2, e3])
                          clear hE hel km cA eA P P3 lt hb3 en
                          go_wp2
                          go_roundw
                          case rel => exact ⟨1, by omega, rfl, _, _, _, ⟨PP, lt2⟩, hE2⟩
                          case measure => simp [intOf]
                        · have hel : Hid (y.l = s2.b) := hide (congrArg L3.b hE.out)
                          have hsl : y.l.length ≤ 1 := by rw [hel.out]; exact gl2
                          have km := P.blk.cell (j := 1) (v := .slice y.ad y.l.length y.cap) rfl
                          have cA := rAddS_any p y t wr P.ly.ok lt.ok (by have := htl.out; omega) (by rw [hel.out]; exact hco2.out.2.1) hct.out
                          have eA : addL p y.l t.l = addL p s2.b t.l := by rw [hel.out]
                          rw [eA] at cA
                          go_wp2_with fail
                          refine cA.mono ?_
                          rintro e w3 ⟨n, rfl, en, ln, hb3⟩
                          have P3 := P.below hb3
                          have f := P3.blk.free 1
                          have cq := P3.blk.cell (j := 1) (v := .slice y.ad y.l.length y.cap) rfl
                          have PP := P3.set hqz hb0 1 n x n z rfl P3.lx ln P3.lz
                          have lt2 : LinT (w3.setCell ⟨q0, 1, none⟩ (lcV n)) t := (lt.mono hb3).setType P3.blk (by decide)
                          have hE2 : Hid ((⟨x.l, n.l, z.l⟩ : L3) = mC p t.l s2 2) := hide (by
                            have e1 := congrArg L3.a hE.out
                            have e2 := congrArg L3.b hE.out
                            have e3 := congrArg L3.c hE.out
                            simp only [mC] at e1 e2 e3 ⊢
                            simp [en.out, e1, e3])
                          clear hE hel km cA eA P P3 lt hb3 en
                          go_wp2
                          go_roundw
                          case rel => exact ⟨2, by omega, rfl, _, _, _, ⟨PP, lt2⟩, hE2⟩
                          case measure => simp [intOf]
                        · have hel : Hid (z.l = s2.c) := hide (congrArg L3.c hE.out)
                          have hsl : z.l.length ≤ 1 := by rw [hel.out]; exact gl3
                          have km := P.blk.cell (j := 2) (v := .slice z.ad z.l.length z.cap) rfl
                          have cA := rAddS_any p z t wr P.lz.ok lt.ok (by have := htl.out; omega) (by rw [hel.out]; exact hco2.out.2.2) hct.out
                          have eA : addL p z.l t.l = addL p s2.c t.l := by rw [hel.out]
                          rw [eA] at cA
                          go_wp2_with fail
                          refine cA.mono ?_
                          rintro e w3 ⟨n, rfl, en, ln, hb3⟩
                          have P3 := P.below hb3
                          have f := P3.blk.free 2
                          have cq := P3.blk.cell (j := 2) (v := .slice z.ad z.l.length z.cap) rfl
                          have PP := P3.set hqz hb0 2 n x y n rfl P3.lx P3.ly ln
                          have lt2 : LinT (w3.setCell ⟨q0, 2, none⟩ (lcV n)) t := (lt.mono hb3).setType P3.blk (by decide)
                          have hE2 : Hid ((⟨x.l, y.l, n.l⟩ : L3) = mC p t.l s2 3) := hide (by
                            have e1 := congrArg L3.a hE.out
                            have e2 := congrArg L3.b hE.out
                            have e3 := congrArg L3.c hE.out
                            simp only [mC] at e1 e2 e3 ⊢
                            simp [en.out, e1, e2])
                          clear hE hel km cA eA P P3 lt hb3 en
                          go_wp2
                          go_roundw
                          case rel => exact ⟨3, by omega, rfl, _, _, _, ⟨PP, lt2⟩, hE2⟩
                          case measure => simp [intOf]
                      · obtain rfl : k = 3 := by omega
                        have hE6 : Hid ((⟨x.l, y.l, z.l⟩ : L3) = gMix p s2) := hide (by rw [hE.out, et.out]; rfl)
                        have PN : HR w wr base b q0 QR.1 x y z B (.slice (some ⟨gl, 0, none⟩) Ls.length c) Ls := by rw [hQN2.out]; exact P
                        have EN : Hid ((⟨x.l, y.l, z.l⟩ : L3) = QR.2) := by rw [hQN2.out]; exact hE6
                        clear P hE hE6 lt
                        go_wp2
                        go_roundw
                        case rel => exact ⟨r + 1, by omega, by go_num, x, y, z, by rw [← hQR.out]; exact PN, by rw [← hQR.out]; exact EN⟩
                        case measure => simp [intOf]; omega
          · obtain rfl : r = 8 := by omega
            have HN : HR w wr base b q0 (gHashN p VL (m + 1) Q).1 x y z B (.slice (some ⟨gl, 0, none⟩) Ls.length c) Ls := by rw [hQN.out]; exact P
            have EN : Hid ((⟨x.l, y.l, z.l⟩ : L3) = (gHashN p VL (m + 1) Q).2) := by rw [hQN.out]; exact hE
            clear P hE
            go_wp2
            go_roundw
            case rel => exact ⟨m + 1, i + 2, by omega, hide (by have := hi.out; omega), by go_num, x, y, z, HN, EN⟩
            case measure => simp [intOf]; have := hi.out; omega
      · as_aux_lemma =>
        have hi0 : ((i : Int) == 0) = true := by have := hi.out; simp; omega
        have hin0 : i < Ls.length := by have := hi.out; have := hcase.out; omega
        have hin0i : (i : Int) < Ls.length := by omega
        have hin1 : i + 1 < Ls.length := by have := hi.out; omega
        have hin1i : (i : Int) + 1 < Ls.length := by omega
        have hti : ((i : Int) + 1).toNat = i + 1 := by omega
        have hwi : IntKind.i64.wrap ((i : Int) + 1) = (i : Int) + 1 := by rw [IntKind.wrap_i64]; omega
        have hnn : (0 : Int) ≤ (i : Int) + 1 := by omega
        replace hc1 := hide hc1
        replace hc2 := hide hc2
        rcases H.ow.form with ⟨_, h0⟩ | ⟨gl, cap, cur, e4, _⟩
        · exfalso; rw [h0] at hin0; simp at hin0
        obtain rfl : ad = some ⟨gl, 0, none⟩ := by injection e4
        have hin2 : i < Ls.length := by omega
        have he := H.ow.cellE (i := i) (j := 0) default hin2 (by decide) rfl
        rw [show i * lcL.m + 0 = i from by show i * 1 + 0 = i; omega] at he
        have lu := H.ls _ (getD_mem' hin2 default)
        obtain ⟨hul, hu2, hu3⟩ := hVg.out _ hin2
        generalize Ls.getD i default = u at *
        replace hul := hide hul
        have lu2 : u.l.length ≤ 20000 := by rw [hul.out]; exact hu2
        have he' : World.cell? _ ⟨gl, i, none⟩ = some (.slice u.ad u.l.length u.cap) := he
        clear he hu2
        go_wp2_with fail
        refine Rel.region_any Try.mixed fun w7 hb7 => ?_
        have he7 := cell_below hb7 he'
        replace H := H.below hb7
        replace lu := lu.mono hb7
        refine Rel.any_held (fun W => W.cell? ⟨q0, 0, none⟩ = some (.slice x.ad x.l.length x.cap) ∧ W.cell? ⟨gl, i, none⟩ = some (.slice u.ad u.l.length u.cap)) 9 ⟨H.blk.cell (j := 0) rfl, he7⟩ fun hH0 => ?_
        refine Rel.heldTake (v := ?_) 0 rfl (by kernel_rfl) (by kernel_rfl) (by kernel_rfl) (fun _ _ _ h => h) (by assumption) (by rfl) ?_ ?_
        rotate_left
        · (intro W hSw; (try dsimp only at hSw); go_simp; try with_reducible rfl)
        try simp only [Act.put, List.setIfInBounds_toArray, List.set_cons_zero, List.set_cons_succ]
        refine Rel.heldTake (v := ?_) 1 rfl (by kernel_rfl) (by kernel_rfl) (by kernel_rfl) (fun _ _ _ h => h) (by assumption) (by rfl) ?_ ?_
        rotate_left
        · (intro W hSw; (try dsimp only at hSw); go_simp; try with_reducible rfl)
        try simp only [Act.put, List.setIfInBounds_toArray, List.set_cons_zero, List.set_cons_succ]
        refine Rel.heldTake (v := ?_) 2 rfl (by kernel_rfl) (by kernel_rfl) (by kernel_rfl) (fun _ _ _ h => h) (by assumption) (by rfl) ?_ ?_
        rotate_left
        · (intro W hSw; (try dsimp only at hSw); go_simp; try with_reducible rfl)
        try simp only [Act.put, List.setIfInBounds_toArray, List.set_cons_zero, List.set_cons_succ]
        refine Rel.heldTake (v := ?_) 3 rfl (by kernel_rfl) (by kernel_rfl) (by kernel_rfl) (fun _ _ _ h => h) (by assumption) (by rfl) ?_ ?_
        rotate_left
        · (intro W hSw; (try dsimp only at hSw); go_simp; try with_reducible rfl)
        try simp only [Act.put, List.setIfInBounds_toArray, List.set_cons_zero, List.set_cons_succ]
        refine Rel.heldTake (v := ?_) 4 rfl (by kernel_rfl) (by kernel_rfl) (by kernel_rfl) (fun _ _ _ h => h) (by assumption) (by rfl) ?_ ?_
        rotate_left
        · (intro W hSw; (try dsimp only at hSw); go_simp; try with_reducible rfl)
        try simp only [Act.put, List.setIfInBounds_toArray, List.set_cons_zero, List.set_cons_succ]
        refine Rel.heldTake (v := ?_) 5 rfl (by kernel_rfl) (by kernel_rfl) (by kernel_rfl) (fun _ _ _ h => h) (by assumption) (by rfl) ?_ ?_
        rotate_left
        · (intro W hSw; (try dsimp only at hSw); go_simp; try with_reducible rfl)
        try simp only [Act.put, List.setIfInBounds_toArray, List.set_cons_zero, List.set_cons_succ]
        refine Rel.heldTake (v := ?_) 6 rfl (by kernel_rfl) (by kernel_rfl) (by kernel_rfl) (fun _ _ _ h => h) (by assumption) (by rfl) ?_ ?_
        rotate_left
        · (intro W hSw; (try dsimp only at hSw); go_simp; try with_reducible rfl)
        try simp only [Act.put, List.setIfInBounds_toArray, List.set_cons_zero, List.set_cons_succ]
        refine Rel.heldNext 7 rfl (by kernel_rfl) fun K hK => ?_
        go_simp
        have cA := rAddS_any p x u w7 H.lx.ok lu.ok (by omega) (by rw [ea.out]; exact ca) (by rw [hul.out]; exact hu3)
        have eA : addL p x.l u.l = addL p s.a (VL.getD i []) := by rw [ea.out, hul.out]
        rw [eA] at cA
        refine cA.mono ?_
        rintro e w8 ⟨n0, rfl, en, ln, hb8⟩
        have H8 := H.below hb8
        refine hK.out _ _ ⟨H8.blk.cell (j := 0) rfl, cell_below hb8 he7⟩ (fun hH1 => ?_)
        clear hK K
        try simp only [Act.put, List.setIfInBounds_toArray, List.set_cons_zero, List.set_cons_succ]
        refine Rel.heldTake (v := ?_) 8 rfl (by kernel_rfl) (by kernel_rfl) (by kernel_rfl) (fun _ _ _ h => h) (by assumption) (by rfl) ?_ ?_
        rotate_left
        · (intro W hSw; (try dsimp only at hSw); go_simp; try with_reducible rfl)
        try simp only [Act.put, List.setIfInBounds_toArray, List.set_cons_zero, List.set_cons_succ]
        have f := H8.blk.free 0
        have cq := H8.blk.cell (j := 0) (v := .slice x.ad x.l.length x.cap) rfl
        refine Rel.heldLast 9 rfl (by kernel_rfl) rfl (by kernel_rfl) fun K hK => ?_
        go_simp
        refine hK.out _ _ ?_
        have HH := H8.set hqz hb0 0 n0 n0 y z rfl ln H8.ly H8.lz
        have e0 : Hid (n0.l = addL p s.a (VL.getD i [])) := en
        clear hK K hH0 hH1 f cq H H8 cA eA lu hul lu2 hu3 he' he7 en hb7 hb8
        replace H := HH
        clear HH
        have hin2 : (i + 1) < Ls.length := by omega
        have he := H.ow.cellE (i := (i + 1)) (j := 0) default hin2 (by decide) rfl
        rw [show (i + 1) * lcL.m + 0 = (i + 1) from by show (i + 1) * 1 + 0 = (i + 1); omega] at he
        have lu := H.ls _ (getD_mem' hin2 default)
        obtain ⟨hul, hu2, hu3⟩ := hVg.out _ hin2
        generalize Ls.getD (i + 1) default = u at *
        replace hul := hide hul
        have lu2 : u.l.length ≤ 20000 := by rw [hul.out]; exact hu2
        have he' : World.cell? _ ⟨gl, (i + 1), none⟩ = some (.slice u.ad u.l.length u.cap) := he
        clear he hu2
        go_wp2_with fail
        refine Rel.region_any Try.mixed fun w7 hb7 => ?_
        have he7 := cell_below hb7 he'
        replace H := H.below hb7
        replace lu := lu.mono hb7
        refine Rel.any_held (fun W => W.cell? ⟨q0, 1, none⟩ = some (.slice y.ad y.l.length y.cap) ∧ W.cell? ⟨gl, (i + 1), none⟩ = some (.slice u.ad u.l.length u.cap)) 10 ⟨H.blk.cell (j := 1) rfl, he7⟩ fun hH0 => ?_
        refine Rel.heldTake (v := ?_) 0 rfl (by kernel_rfl) (by kernel_rfl) (by kernel_rfl) (fun _ _ _ h => h) (by assumption) (by rfl) ?_ ?_
        rotate_left
        · (intro W hSw; (try dsimp only at hSw); go_simp; try with_reducible rfl)
        try simp only [Act.put, List.setIfInBounds_toArray, List.set_cons_zero, List.set_cons_succ]
        refine Rel.heldTake (v := ?_) 1 rfl (by kernel_rfl) (by kernel_rfl) (by kernel_rfl) (fun _ _ _ h => h) (by assumption) (by rfl) ?_ ?_
        rotate_left
        · (intro W hSw; (try dsimp only at hSw); go_simp; try with_reducible rfl)
        try simp only [Act.put, List.setIfInBounds_toArray, List.set_cons_zero, List.set_cons_succ]
        refine Rel.heldTake (v := ?_) 2 rfl (by kernel_rfl) (by kernel_rfl) (by kernel_rfl) (fun _ _ _ h => h) (by assumption) (by rfl) ?_ ?_
        rotate_left
        · (intro W hSw; (try dsimp only at hSw); go_simp; try with_reducible rfl)
        try simp only [Act.put, List.setIfInBounds_toArray, List.set_cons_zero, List.set_cons_succ]
        refine Rel.heldTake (v := ?_) 3 rfl (by kernel_rfl) (by kernel_rfl) (by kernel_rfl) (fun _ _ _ h => h) (by assumption) (by rfl) ?_ ?_
        rotate_left
        · (intro W hSw; (try dsimp only at hSw); go_simp; try with_reducible rfl)
        try simp only [Act.put, List.setIfInBounds_toArray, List.set_cons_zero, List.set_cons_succ]
        refine Rel.heldTake (v := ?_) 4 rfl (by kernel_rfl) (by kernel_rfl) (by kernel_rfl) (fun _ _ _ h => h) (by assumption) (by rfl) ?_ ?_
        rotate_left
        · (intro W hSw; (try dsimp only at hSw); go_simp; try with_reducible rfl)
        try simp only [Act.put, List.setIfInBounds_toArray, List.set_cons_zero, List.set_cons_succ]
        refine Rel.heldTake (v := ?_) 5 rfl (by kernel_rfl) (by kernel_rfl) (by kernel_rfl) (fun _ _ _ h => h) (by assumption) (by rfl) ?_ ?_
        rotate_left
        · (intro W hSw; (try dsimp only at hSw); go_simp; try with_reducible rfl)
        try simp only [Act.put, List.setIfInBounds_toArray, List.set_cons_zero, List.set_cons_succ]
        refine Rel.heldTake (v := ?_) 6 rfl (by kernel_rfl) (by kernel_rfl) (by kernel_rfl) (fun _ _ _ h => h) (by assumption) (by rfl) ?_ ?_
        rotate_left
        · (intro W hSw; (try dsimp only at hSw); go_simp; try with_reducible rfl)
        try simp only [Act.put, List.setIfInBounds_toArray, List.set_cons_zero, List.set_cons_succ]
        refine Rel.heldTake (v := ?_) 7 rfl (by kernel_rfl) (by kernel_rfl) (by kernel_rfl) (fun _ _ _ h => h) (by assumption) (by rfl) ?_ ?_
        rotate_left
        · (intro W hSw; (try dsimp only at hSw); go_simp; try with_reducible rfl)
        try simp only [Act.put, List.setIfInBounds_toArray, List.set_cons_zero, List.set_cons_succ]
        refine Rel.heldNext 8 rfl (by kernel_rfl) fun K hK => ?_
        go_simp
        have cA := rAddS_any p y u w7 H.ly.ok lu.ok (by omega) (by rw [eb.out]; exact cb) (by rw [hul.out]; exact hu3)
        have eA : addL p y.l u.l = addL p s.b (VL.getD (i + 1) []) := by rw [eb.out, hul.out]
        rw [eA] at cA
        refine cA.mono ?_
        rintro e w8 ⟨n1, rfl, en, ln, hb8⟩
        have H8 := H.below hb8
        refine hK.out _ _ ⟨H8.blk.cell (j := 1) rfl, cell_below hb8 he7⟩ (fun hH1 => ?_)
        clear hK K
        try simp only [Act.put, List.setIfInBounds_toArray, List.set_cons_zero, List.set_cons_succ]
        refine Rel.heldTake (v := ?_) 9 rfl (by kernel_rfl) (by kernel_rfl) (by kernel_rfl) (fun _ _ _ h => h) (by assumption) (by rfl) ?_ ?_
        rotate_left
        · (intro W hSw; (try dsimp only at hSw); go_simp; try with_reducible rfl)
        try simp only [Act.put, List.setIfInBounds_toArray, List.set_cons_zero, List.set_cons_succ]
        have f := H8.blk.free 1
        have cq := H8.blk.cell (j := 1) (v := .slice y.ad y.l.length y.cap) rfl
        refine Rel.heldLast 10 rfl (by kernel_rfl) rfl (by kernel_rfl) fun K hK => ?_
        go_simp
        refine hK.out _ _ ?_
        have HH := H8.set hqz hb0 1 n1 n0 n1 z rfl H8.lx ln H8.lz
        have e1 : Hid (n1.l = addL p s.b (VL.getD (i + 1) [])) := en
        clear hK K hH0 hH1 f cq H H8 cA eA lu hul lu2 hu3 he' he7 en hb7 hb8
        replace H := HH
        clear HH
        clear hti hwi hnn
        have E1 : Hid ((⟨n0.l, n1.l, z.l⟩ : L3) = (TT p VL Q m 0).2) := hide (by
          rw [hQ0.out]
          show _ = gAbs p VL i 2 s
          have hvl := hVl.out
          have hi9 := hi.out
          unfold gAbs
          rw [if_pos ⟨by decide, by omega⟩, if_pos ⟨by decide, by omega⟩, e0.out, e1.out, show z.l = s.c from congrArg L3.c hE.out])
        have eT0 : (TT p VL Q m 0).1 = S1 := by rw [hQ0.out]
        have H1 := H
        rw [← eT0] at H1
        replace eT0 := hide eT0
        clear H hE ea eb ca cb lx0 ly0 hpp hq e0 e1
        replace hv := hide hv
        go_wp2_with fail
        obtain ⟨wO, hwO⟩ : ∃ wO, wO = wr := ⟨_, rfl⟩
        subst hwO
        go_loopw [10] (fun t10 wr => ∃ r : Nat, r ≤ 8 ∧ t10 = .int .i64 r ∧ ∃ x y z : Lc, HR w wr base b q0 (TT p VL Q m r).1 x y z B (.slice (some ⟨gl, 0, none⟩) Ls.length c) Ls ∧ Hid ((⟨x.l, y.l, z.l⟩ : L3) = (TT p VL Q m r).2)) (fun t10 _ => 8 - (intOf t10).toNat)
        case atStart => exact ⟨0, by omega, rfl, n0, n1, z, H1, E1⟩
        case round =>
          clear H1 E1
          obtain ⟨r, hr, rfl, x, y, z, P, hE⟩ := hrel
          by_cases hlt8 : r < 8
          · have hlt8' : (r : Int) < 8 := by omega
            have hTr := hTm.out r
            have hnx : Hid (TT p VL Q m (r + 1) = gRound r (TT p VL Q m r)) := hide rfl
            obtain ⟨QR, hQR⟩ : ∃ QR, QR = TT p VL Q m (r + 1) := ⟨_, rfl⟩
            rw [← hQR] at hnx
            replace hQR := hide hQR
            obtain ⟨⟨S1, s⟩, hq⟩ : ∃ q : St × L3, q = TT p VL Q m r := ⟨_, rfl⟩
            rw [← hq] at hTr hnx P hE
            simp only at P hE
            have hS1 : Hid (S1.p = p) := hide hTr.pp
            have hS2 : Bd S1 (N + 192 * m + 24 * r) := hTr.bd
            have hS3 : Hid (Sm3 30000 s) := hide hTr.sm
            have hco : Hid (CoefOk p s.a ∧ CoefOk p s.b ∧ CoefOk p s.c) := hide (by
              have h1 := hTr.lin
              have h2 : S1.p = p := hTr.pp
              rw [← h2]
              exact ⟨h1.1.1, h1.2.1.1, h1.2.2.1⟩)
            replace hTr := hide hTr
            replace hq := hide hq
            have hE' : Hid ((⟨x.l, y.l, z.l⟩ : L3) = kA p r s 0) := hE
            go_wp2_with fail
            obtain ⟨wP, hwP⟩ : ∃ wP, wP = wr := ⟨_, rfl⟩
            subst hwP
            go_loopw [11] (fun t11 wr => ∃ k : Nat, k ≤ 3 ∧ t11 = .int .i64 k ∧ ∃ x y z : Lc, HR w wr base b q0 S1 x y z B (.slice (some ⟨gl, 0, none⟩) Ls.length c) Ls ∧ Hid ((⟨x.l, y.l, z.l⟩ : L3) = kA p r s k)) (fun t11 _ => 3 - (intOf t11).toNat)
            case atStart => exact ⟨0, by omega, rfl, x, y, z, P, hE'⟩
            case round =>
              clear P hE hE'
              obtain ⟨k, hk, rfl, x, y, z, P, hE⟩ := hrel
              by_cases hlt3 : k < 3
              · obtain rfl | rfl | rfl : k = 0 ∨ k = 1 ∨ k = 2 := by omega
                · have hel : Hid (x.l = s.a) := hide (by have := congrArg L3.a hE.out; exact this)
                  have hsl : x.l.length ≤ 30000 := by rw [hel.out]; have := hS3.out; unfold Sm3 at this; omega
                  have cK := fun W => rConstant_any p r 0 W
                  have kb := fconst_bd p r 0
                  obtain ⟨kc, hkc⟩ : ∃ kc, kc = fconst p r 0 := ⟨_, rfl⟩
                  rw [← hkc] at cK kb
                  have hkon : Hid (addL p s.a (keepT (0, fred p kc)) = gKon p r 0 s.a) := hide (by rw [hkc]; rfl)
                  replace hkc := hide hkc
                  go_wp2_with fail
                  refine Rel.region_any Try.mixed fun w7 hb7 => ?_
                  replace P := P.below hb7
                  refine Rel.any_held (fun W => W.cell? ⟨q0, 0, none⟩ = some (.slice x.ad x.l.length x.cap)) 13 (P.blk.cell (j := 0) rfl) fun hH0 => ?_
                  refine Rel.heldTake (v := ?_) 0 rfl (by kernel_rfl) (by kernel_rfl) (by kernel_rfl) (fun _ _ _ h => h) (by assumption) (by rfl) ?_ ?_
                  rotate_left
                  · (intro W hSw; (try dsimp only at hSw); go_simp; try with_reducible rfl)
                  try simp only [Act.put, List.setIfInBounds_toArray, List.set_cons_zero, List.set_cons_succ]
                  refine Rel.heldTake (v := ?_) 1 rfl (by kernel_rfl) (by kernel_rfl) (by kernel_rfl) (fun _ _ _ h => h) (by assumption) (by rfl) ?_ ?_
                  rotate_left
                  · (intro W hSw; (try dsimp only at hSw); go_simp; try with_reducible rfl)
                  try simp only [Act.put, List.setIfInBounds_toArray, List.set_cons_zero, List.set_cons_succ]
                  refine Rel.heldTake (v := ?_) 2 rfl (by kernel_rfl) (by kernel_rfl) (by kernel_rfl) (fun _ _ _ h => h) (by assumption) (by rfl) ?_ ?_
                  rotate_left
                  · (intro W hSw; (try dsimp only at hSw); go_simp; try with_reducible rfl)
                  try simp only [Act.put, List.setIfInBounds_toArray, List.set_cons_zero, List.set_cons_succ]
                  refine Rel.heldTake (v := ?_) 3 rfl (by kernel_rfl) (by kernel_rfl) (by kernel_rfl) (fun _ _ _ h => h) (by assumption) (by rfl) ?_ ?_
                  rotate_left
                  · (intro W hSw; (try dsimp only at hSw); go_simp; try with_reducible rfl)
                  try simp only [Act.put, List.setIfInBounds_toArray, List.set_cons_zero, List.set_cons_succ]
                  refine Rel.heldTake (v := ?_) 4 rfl (by kernel_rfl) (by kernel_rfl) (by kernel_rfl) (fun _ _ _ h => h) (by assumption) (by rfl) ?_ ?_
                  rotate_left
                  · (intro W hSw; (try dsimp only at hSw); go_simp; try with_reducible rfl)
                  try simp only [Act.put, List.setIfInBounds_toArray, List.set_cons_zero, List.set_cons_succ]
                  refine Rel.heldTake (v := ?_) 5 rfl (by kernel_rfl) (by kernel_rfl) (by kernel_rfl) (fun _ _ _ h => h) (by assumption) (by rfl) ?_ ?_
                  rotate_left
                  · (intro W hSw; (try dsimp only at hSw); go_simp; try with_reducible rfl)
                  try simp only [Act.put, List.setIfInBounds_toArray, List.set_cons_zero, List.set_cons_succ]
                  refine Rel.heldTake (v := ?_) 6 rfl (by kernel_rfl) (by kernel_rfl) (by kernel_rfl) (fun _ _ _ h => h) (by assumption) (by rfl) ?_ ?_
                  rotate_left
                  · (intro W hSw; (try dsimp only at hSw); go_simp; try with_reducible rfl)
                  try simp only [Act.put, List.setIfInBounds_toArray, List.set_cons_zero, List.set_cons_succ]
                  refine Rel.heldTake (v := ?_) 7 rfl (by kernel_rfl) (by kernel_rfl) (by kernel_rfl) (fun _ _ _ h => h) (by assumption) (by rfl) ?_ ?_
                  rotate_left
                  · (intro W hSw; (try dsimp only at hSw); go_simp; try with_reducible rfl)
                  try simp only [Act.put, List.setIfInBounds_toArray, List.set_cons_zero, List.set_cons_succ]
                  refine Rel.heldTake (v := ?_) 8 rfl (by kernel_rfl) (by kernel_rfl) (by kernel_rfl) (fun _ _ _ h => h) (by assumption) (by rfl) ?_ ?_
                  rotate_left
                  · (intro W hSw; (try dsimp only at hSw); go_simp; try with_reducible rfl)
                  try simp only [Act.put, List.setIfInBounds_toArray, List.set_cons_zero, List.set_cons_succ]
                  refine Rel.heldNext 9 rfl (by kernel_rfl) fun K hK => ?_
                  go_simp
                  refine (cK _).mono ?_
                  rintro e w8 ⟨rfl, hb8⟩
                  replace P := P.below hb8
                  refine hK.out _ _ (P.blk.cell (j := 0) rfl) (fun hH1 => ?_)
                  clear hK K
                  try simp only [Act.put, List.setIfInBounds_toArray, List.set_cons_zero, List.set_cons_succ]
                  refine Rel.heldNext 10 rfl (by kernel_rfl) fun K hK => ?_
                  go_simp
                  refine (rConstant20_any p kc w8 kb).mono ?_
                  rintro e w9 ⟨tk, rfl, ek, lk, hb9⟩
                  replace P := P.below hb9
                  have lk1 : tk.l.length ≤ 1 := by rw [ek.out]; exact keepT_len _
                  refine hK.out _ _ (P.blk.cell (j := 0) rfl) (fun hH2 => ?_)
                  clear hK K
                  try simp only [Act.put, List.setIfInBounds_toArray, List.set_cons_zero, List.set_cons_succ]
                  refine Rel.heldNext 11 rfl (by kernel_rfl) fun K hK => ?_
                  go_simp
                  have cA := rAddS_any p x tk w9 P.lx.ok lk.ok (by omega) (by rw [hel.out]; exact hco.out.1) (by rw [ek.out]; exact (cst_in (hi := 1) hv.out _ (by decide)).1)
                  have eA : addL p x.l tk.l = gKon p r 0 s.a := by rw [← hkon.out, hel.out, ek.out]
                  rw [eA] at cA
                  refine cA.mono ?_
                  rintro e w10 ⟨n, rfl, en, ln, hb10⟩
                  replace P := P.below hb10
                  refine hK.out _ _ (P.blk.cell (j := 0) rfl) (fun hH3 => ?_)
                  clear hK K
                  try simp only [Act.put, List.setIfInBounds_toArray, List.set_cons_zero, List.set_cons_succ]
                  refine Rel.heldTake (v := ?_) 12 rfl (by kernel_rfl) (by kernel_rfl) (by kernel_rfl) (fun _ _ _ h => h) (by assumption) (by rfl) ?_ ?_
                  rotate_left
                  · (intro W hSw; (try dsimp only at hSw); go_simp; try with_reducible rfl)
                  try simp only [Act.put, List.setIfInBounds_toArray, List.set_cons_zero, List.set_cons_succ]
                  have f := P.blk.free 0
                  have cq := P.blk.cell (j := 0) (v := .slice x.ad x.l.length x.cap) rfl
                  refine Rel.heldLast 13 rfl (by kernel_rfl) rfl (by kernel_rfl) fun K hK => ?_
                  go_simp
                  refine hK.out _ _ ?_
                  have PP := P.set hqz hb0 0 n n y z rfl ln P.ly P.lz
                  have hE2 : Hid ((⟨n.l, y.l, z.l⟩ : L3) = kA p r s 1) := hide (by
                    have e1 := congrArg L3.a hE.out
                    have e2 := congrArg L3.b hE.out
                    have e3 := congrArg L3.c hE.out
                    simp only [kA] at e1 e2 e3 ⊢
                    simp [en.out, e2, e3])
                  clear hK K hH0 hH1 hH2 hH3 f cq P hE hel cA eA en lk ek
                  go_wp2
                  go_roundw
                  case rel => exact ⟨1, by omega, rfl, _, _, _, PP, hE2⟩
                  case measure => simp [intOf]
                · have hel : Hid (y.l = s.b) := hide (by have := congrArg L3.b hE.out; exact this)
                  have hsl : y.l.length ≤ 30000 := by rw [hel.out]; have := hS3.out; unfold Sm3 at this; omega
                  have cK := fun W => rConstant_any p r 1 W
                  have kb := fconst_bd p r 1
                  obtain ⟨kc, hkc⟩ : ∃ kc, kc = fconst p r 1 := ⟨_, rfl⟩
                  rw [← hkc] at cK kb
                  have hkon : Hid (addL p s.b (keepT (0, fred p kc)) = gKon p r 1 s.b) := hide (by rw [hkc]; rfl)
                  replace hkc := hide hkc
                  go_wp2_with fail
                  refine Rel.region_any Try.mixed fun w7 hb7 => ?_
                  replace P := P.below hb7
                  refine Rel.any_held (fun W => W.cell? ⟨q0, 1, none⟩ = some (.slice y.ad y.l.length y.cap)) 13 (P.blk.cell (j := 1) rfl) fun hH0 => ?_
                  refine Rel.heldTake (v := ?_) 0 rfl (by kernel_rfl) (by kernel_rfl) (by kernel_rfl) (fun _ _ _ h => h) (by assumption) (by rfl) ?_ ?_
                  rotate_left
                  · (intro W hSw; (try dsimp only at hSw); go_simp; try with_reducible rfl)
                  try simp only [Act.put, List.setIfInBounds_toArray, List.set_cons_zero, List.set_cons_succ]
                  refine Rel.heldTake (v := ?_) 1 rfl (by kernel_rfl) (by kernel_rfl) (by kernel_rfl) (fun _ _ _ h => h) (by assumption) (by rfl) ?_ ?_
                  rotate_left
                  · (intro W hSw; (try dsimp only at hSw); go_simp; try with_reducible rfl)
                  try simp only [Act.put, List.setIfInBounds_toArray, List.set_cons_zero, List.set_cons_succ]
                  refine Rel.heldTake (v := ?_) 2 rfl (by kernel_rfl) (by kernel_rfl) (by kernel_rfl) (fun _ _ _ h => h) (by assumption) (by rfl) ?_ ?_
                  rotate_left
                  · (intro W hSw; (try dsimp only at hSw); go_simp; try with_reducible rfl)
                  try simp only [Act.put, List.setIfInBounds_toArray, List.set_cons_zero, List.set_cons_succ]
                  refine Rel.heldTake (v := ?_) 3 rfl (by kernel_rfl) (by kernel_rfl) (by kernel_rfl) (fun _ _ _ h => h) (by assumption) (by rfl) ?_ ?_
                  rotate_left
                  · (intro W hSw; (try dsimp only at hSw); go_simp; try with_reducible rfl)
                  try simp only [Act.put, List.setIfInBounds_toArray, List.set_cons_zero, List.set_cons_succ]
                  refine Rel.heldTake (v := ?_) 4 rfl (by kernel_rfl) (by kernel_rfl) (by kernel_rfl) (fun _ _ _ h => h) (by assumption) (by rfl) ?_ ?_
                  rotate_left
                  · (intro W hSw; (try dsimp only at hSw); go_simp; try with_reducible rfl)
                  try simp only [Act.put, List.setIfInBounds_toArray, List.set_cons_zero, List.set_cons_succ]
                  refine Rel.heldTake (v := ?_) 5 rfl (by kernel_rfl) (by kernel_rfl) (by kernel_rfl) (fun _ _ _ h => h) (by assumption) (by rfl) ?_ ?_
                  rotate_left
                  · (intro W hSw; (try dsimp only at hSw); go_simp; try with_reducible rfl)
                  try simp only [Act.put, List.setIfInBounds_toArray, List.set_cons_zero, List.set_cons_succ]
                  refine Rel.heldTake (v := ?_) 6 rfl (by kernel_rfl) (by kernel_rfl) (by kernel_rfl) (fun _ _ _ h => h) (by assumption) (by rfl) ?_ ?_
                  rotate_left
                  · (intro W hSw; (try dsimp only at hSw); go_simp; try with_reducible rfl)
                  try simp only [Act.put, List.setIfInBounds_toArray, List.set_cons_zero, List.set_cons_succ]
                  refine Rel.heldTake (v := ?_) 7 rfl (by kernel_rfl) (by kernel_rfl) (by kernel_rfl) (fun _ _ _ h => h) (by assumption) (by rfl) ?_ ?_
                  rotate_left
                  · (intro W hSw; (try dsimp only at hSw); go_simp; try with_reducible rfl)
                  try simp only [Act.put, List.setIfInBounds_toArray, List.set_cons_zero, List.set_cons_succ]
                  refine Rel.heldTake (v := ?_) 8 rfl (by kernel_rfl) (by kernel_rfl) (by kernel_rfl) (fun _ _ _ h => h) (by assumption) (by rfl) ?_ ?_
                  rotate_left
                  · (intro W hSw; (try dsimp only at hSw); go_simp; try with_reducible rfl)
                  try simp only [Act.put, List.setIfInBounds_toArray, List.set_cons_zero, List.set_cons_succ]
                  refine Rel.heldNext 9 rfl (by kernel_rfl) fun K hK => ?_
                  go_simp
                  refine (cK _).mono ?_
                  rintro e w8 ⟨rfl, hb8⟩
                  replace P := P.below hb8
                  refine hK.out _ _ (P.blk.cell (j := 1) rfl) (fun hH1 => ?_)
                  clear hK K
                  try simp only [Act.put, List.setIfInBounds_toArray, List.set_cons_zero, List.set_cons_succ]
                  refine Rel.heldNext 10 rfl (by kernel_rfl) fun K hK => ?_
                  go_simp
                  refine (rConstant20_any p kc w8 kb).mono ?_
                  rintro e w9 ⟨tk, rfl, ek, lk, hb9⟩
                  replace P := P.below hb9
                  have lk1 : tk.l.length ≤ 1 := by rw [ek.out]; exact keepT_len _
                  refine hK.out _ _ (P.blk.cell (j := 1) rfl) (fun hH2 => ?_)
                  clear hK K
                  try simp only [Act.put, List.setIfInBounds_toArray, List.set_cons_zero, List.set_cons_succ]
                  refine Rel.heldNext 11 rfl (by kernel_rfl) fun K hK => ?_
                  go_simp
                  have cA := rAddS_any p y tk w9 P.ly.ok lk.ok (by omega) (by rw [hel.out]; exact hco.out.2.1) (by rw [ek.out]; exact (cst_in (hi := 1) hv.out _ (by decide)).1)
                  have eA : addL p y.l tk.l = gKon p r 1 s.b := by rw [← hkon.out, hel.out, ek.out]
                  rw [eA] at cA
                  refine cA.mono ?_
                  rintro e w10 ⟨n, rfl, en, ln, hb10⟩
                  replace P := P.below hb10
                  refine hK.out _ _ (P.blk.cell (j := 1) rfl) (fun hH3 => ?_)
                  clear hK K
                  try simp only [Act.put, List.setIfInBounds_toArray, List.set_cons_zero, List.set_cons_succ]
                  refine Rel.heldTake (v := ?_) 12 rfl (by kernel_rfl) (by kernel_rfl) (by kernel_rfl) (fun _ _ _ h => h) (by assumption) (by rfl) ?_ ?_
                  rotate_left
                  · (intro W hSw; (try dsimp only at hSw); go_simp; try with_reducible rfl)
                  try simp only [Act.put, List.setIfInBounds_toArray, List.set_cons_zero, List.set_cons_succ]
                  have f := P.blk.free 1
                  have cq := P.blk.cell (j := 1) (v := .slice y.ad y.l.length y.cap) rfl
                  refine Rel.heldLast 13 rfl (by kernel_rfl) rfl (by kernel_rfl) fun K hK => ?_
                  go_simp
                  refine hK.out _ _ ?_
                  have PP := P.set hqz hb0 1 n x n z rfl P.lx ln P.lz
                  have hE2 : Hid ((⟨x.l, n.l, z.l⟩ : L3) = kA p r s 2) := hide (by
                    have e1 := congrArg L3.a hE.out
                    have e2 := congrArg L3.b hE.out
                    have e3 := congrArg L3.c hE.out
                    simp only [kA] at e1 e2 e3 ⊢
                    simp [en.out, e1, e3])
                  clear hK K hH0 hH1 hH2 hH3 f cq P hE hel cA eA en lk ek
                  go_wp2
                  go_roundw
                  case rel => exact ⟨2, by omega, rfl, _, _, _, PP, hE2⟩
                  case measure => simp [intOf]
                · have hel : Hid (z.l = s.c) := hide (by have := congrArg L3.c hE.out; exact this)
                  have hsl : z.l.length ≤ 30000 := by rw [hel.out]; have := hS3.out; unfold Sm3 at this; omega
                  have cK := fun W => rConstant_any p r 2 W
                  have kb := fconst_bd p r 2
                  obtain ⟨kc, hkc⟩ : ∃ kc, kc = fconst p r 2 := ⟨_, rfl⟩
                  rw [← hkc] at cK kb
                  have hkon : Hid (addL p s.c (keepT (0, fred p kc)) = gKon p r 2 s.c) := hide (by rw [hkc]; rfl)
                  replace hkc := hide hkc
                  go_wp2_with fail
                  refine Rel.region_any Try.mixed fun w7 hb7 => ?_
                  replace P := P.below hb7
                  refine Rel.any_held (fun W => W.cell? ⟨q0, 2, none⟩ = some (.slice z.ad z.l.length z.cap)) 13 (P.blk.cell (j := 2) rfl) fun hH0 => ?_
                  refine Rel.heldTake (v := ?_) 0 rfl (by kernel_rfl) (by kernel_rfl) (by kernel_rfl) (fun _ _ _ h => h) (by assumption) (by rfl) ?_ ?_
                  rotate_left
                  · (intro W hSw; (try dsimp only at hSw); go_simp; try with_reducible rfl)
                  try simp only [Act.put, List.setIfInBounds_toArray, List.set_cons_zero, List.set_cons_succ]
                  refine Rel.heldTake (v := ?_) 1 rfl (by kernel_rfl) (by kernel_rfl) (by kernel_rfl) (fun _ _ _ h => h) (by assumption) (by rfl) ?_ ?_
                  rotate_left
                  · (intro W hSw; (try dsimp only at hSw); go_simp; try with_reducible rfl)
                  try simp only [Act.put, List.setIfInBounds_toArray, List.set_cons_zero, List.set_cons_succ]
                  refine Rel.heldTake (v := ?_) 2 rfl (by kernel_rfl) (by kernel_rfl) (by kernel_rfl) (fun _ _ _ h => h) (by assumption) (by rfl) ?_ ?_
                  rotate_left
                  · (intro W hSw; (try dsimp only at hSw); go_simp; try with_reducible rfl)
                  try simp only [Act.put, List.setIfInBounds_toArray, List.set_cons_zero, List.set_cons_succ]
                  refine Rel.heldTake (v := ?_) 3 rfl (by kernel_rfl) (by kernel_rfl) (by kernel_rfl) (fun _ _ _ h => h) (by assumption) (by rfl) ?_ ?_
                  rotate_left
                  · (intro W hSw; (try dsimp only at hSw); go_simp; try with_reducible rfl)
                  try simp only [Act.put, List.setIfInBounds_toArray, List.set_cons_zero, List.set_cons_succ]
                  refine Rel.heldTake (v := ?_) 4 rfl (by kernel_rfl) (by kernel_rfl) (by kernel_rfl) (fun _ _ _ h => h) (by assumption) (by rfl) ?_ ?_
                  rotate_left
                  · (intro W hSw; (try dsimp only at hSw); go_simp; try with_reducible rfl)
                  try simp only [Act.put, List.setIfInBounds_toArray, List.set_cons_zero, List.set_cons_succ]
                  refine Rel.heldTake (v := ?_) 5 rfl (by kernel_rfl) (by kernel_rfl) (by kernel_rfl) (fun _ _ _ h => h) (by assumption) (by rfl) ?_ ?_
                  rotate_left
                  · (intro W hSw; (try dsimp only at hSw); go_simp; try with_reducible rfl)
                  try simp only [Act.put, List.setIfInBounds_toArray, List.set_cons_zero, List.set_cons_succ]
                  refine Rel.heldTake (v := ?_) 6 rfl (by kernel_rfl) (by kernel_rfl) (by kernel_rfl) (fun _ _ _ h => h) (by assumption) (by rfl) ?_ ?_
                  rotate_left
                  · (intro W hSw; (try dsimp only at hSw); go_simp; try with_reducible rfl)
                  try simp only [Act.put, List.setIfInBounds_toArray, List.set_cons_zero, List.set_cons_succ]
                  refine Rel.heldTake (v := ?_) 7 rfl (by kernel_rfl) (by kernel_rfl) (by kernel_rfl) (fun _ _ _ h => h) (by assumption) (by rfl) ?_ ?_
                  rotate_left
                  · (intro W hSw; (try dsimp only at hSw); go_simp; try with_reducible rfl)
                  try simp only [Act.put, List.setIfInBounds_toArray, List.set_cons_zero, List.set_cons_succ]
                  refine Rel.heldTake (v := ?_) 8 rfl (by kernel_rfl) (by kernel_rfl) (by kernel_rfl) (fun _ _ _ h => h) (by assumption) (by rfl) ?_ ?_
                  rotate_left
                  · (intro W hSw; (try dsimp only at hSw); go_simp; try with_reducible rfl)
                  try simp only [Act.put, List.setIfInBounds_toArray, List.set_cons_zero, List.set_cons_succ]
                  refine Rel.heldNext 9 rfl (by kernel_rfl) fun K hK => ?_
                  go_simp
                  refine (cK _).mono ?_
                  rintro e w8 ⟨rfl, hb8⟩
                  replace P := P.below hb8
                  refine hK.out _ _ (P.blk.cell (j := 2) rfl) (fun hH1 => ?_)
                  clear hK K
                  try simp only [Act.put, List.setIfInBounds_toArray, List.set_cons_zero, List.set_cons_succ]
                  refine Rel.heldNext 10 rfl (by kernel_rfl) fun K hK => ?_
                  go_simp
                  refine (rConstant20_any p kc w8 kb).mono ?_
                  rintro e w9 ⟨tk, rfl, ek, lk, hb9⟩
                  replace P := P.below hb9
                  have lk1 : tk.l.length ≤ 1 := by rw [ek.out]; exact keepT_len _
                  refine hK.out _ _ (P.blk.cell (j := 2) rfl) (fun hH2 => ?_)
                  clear hK K
                  try simp only [Act.put, List.setIfInBounds_toArray, List.set_cons_zero, List.set_cons_succ]
                  refine Rel.heldNext 11 rfl (by kernel_rfl) fun K hK => ?_
                  go_simp
                  have cA := rAddS_any p z tk w9 P.lz.ok lk.ok (by omega) (by rw [hel.out]; exact hco.out.2.2) (by rw [ek.out]; exact (cst_in (hi := 1) hv.out _ (by decide)).1)
                  have eA : addL p z.l tk.l = gKon p r 2 s.c := by rw [← hkon.out, hel.out, ek.out]
                  rw [eA] at cA
                  refine cA.mono ?_
                  rintro e w10 ⟨n, rfl, en, ln, hb10⟩
                  replace P := P.below hb10
                  refine hK.out _ _ (P.blk.cell (j := 2) rfl) (fun hH3 => ?_)
                  clear hK K
                  try simp only [Act.put, List.setIfInBounds_toArray, List.set_cons_zero, List.set_cons_succ]
                  refine Rel.heldTake (v := ?_) 12 rfl (by kernel_rfl) (by kernel_rfl) (by kernel_rfl) (fun _ _ _ h => h) (by assumption) (by rfl) ?_ ?_
                  rotate_left
                  · (intro W hSw; (try dsimp only at hSw); go_simp; try with_reducible rfl)
                  try simp only [Act.put, List.setIfInBounds_toArray, List.set_cons_zero, List.set_cons_succ]
                  have f := P.blk.free 2
                  have cq := P.blk.cell (j := 2) (v := .slice z.ad z.l.length z.cap) rfl
                  refine Rel.heldLast 13 rfl (by kernel_rfl) rfl (by kernel_rfl) fun K hK => ?_
                  go_simp
                  refine hK.out _ _ ?_
                  have PP := P.set hqz hb0 2 n x y n rfl P.lx P.ly ln
                  have hE2 : Hid ((⟨x.l, y.l, n.l⟩ : L3) = kA p r s 3) := hide (by
                    have e1 := congrArg L3.a hE.out
                    have e2 := congrArg L3.b hE.out
                    have e3 := congrArg L3.c hE.out
                    simp only [kA] at e1 e2 e3 ⊢
                    simp [en.out, e1, e2])
                  clear hK K hH0 hH1 hH2 hH3 f cq P hE hel cA eA en lk ek
                  go_wp2
                  go_roundw
                  case rel => exact ⟨3, by omega, rfl, _, _, _, PP, hE2⟩
                  case measure => simp [intOf]
              · obtain rfl : k = 3 := by omega
                rw [show ((3 : Nat) : Int) = 3 from rfl]
                have hE3 : Hid ((⟨x.l, y.l, z.l⟩ : L3) = gKon3 p r s) := hE
                obtain ⟨q1, hq1⟩ : ∃ q1 : St × L3, q1 = (S1, gKon3 p r s) := ⟨_, rfl⟩
                have hpB : ∀ k, (pB q1 k).1.p = p := fun k => by rw [pB_p, hq1]; exact hS1.out
                have hbB : ∀ k, Bd (pB q1 k).1 (N + 192 * m + 24 * (r : Int) + 24) := fun k => pB_bd (by rw [hq1]; exact hS2) k
                have hgs : Hid (pB q1 3 = gSub r (S1, s)) := hide (by rw [hq1]; show gPow3 (gPow2 (gPow1 (S1, gKon3 p r s))) = gPow3 (gPow2 (gPow1 (S1, gKon3 S1.p r s))); rw [hS1.out])
                have P0 : HR w wr base b q0 (pB q1 0).1 x y z B (.slice (some ⟨gl, 0, none⟩) Ls.length c) Ls := by rw [hq1]; exact P
                have hE4 : Hid ((⟨x.l, y.l, z.l⟩ : L3) = (pB q1 0).2) := by rw [hq1]; exact hE3
                obtain ⟨wA, hwA⟩ : ∃ wA, wA = wr := ⟨_, rfl⟩
                subst hwA
                replace hq1 := hide hq1
                replace hpB := hide hpB
                replace hbB := hide hbB
                clear P hE hE3
                go_wp2_with fail
                go_loopw [12] (fun t12 wr => ∃ k : Nat, k ≤ 3 ∧ t12 = .int .i64 k ∧ ∃ x y z : Lc, HR w wr base b q0 (pB q1 k).1 x y z B (.slice (some ⟨gl, 0, none⟩) Ls.length c) Ls ∧ Hid ((⟨x.l, y.l, z.l⟩ : L3) = (pB q1 k).2)) (fun t12 _ => 3 - (intOf t12).toNat)
                case atStart => exact ⟨0, by omega, rfl, x, y, z, P0, hE4⟩
                case round =>
                  clear P0 hE4
                  obtain ⟨k, hk, rfl, x, y, z, P, hE⟩ := hrel
                  by_cases hlt3 : k < 3
                  · obtain rfl | rfl | rfl : k = 0 ∨ k = 1 ∨ k = 2 := by omega
                    · have hel : Hid (x.l = (pB q1 0).2.a) := hide (congrArg L3.a hE.out)
                      have km := P.blk.cell (j := 0) (v := .slice x.ad x.l.length x.cap) rfl
                      have cP := rbRaise_any base b (pB q1 0).1 _ x wr P.bld (by rw [hpB.out]; exact hv.out) (hbB.out 0) (by omega) P.lx
                      go_wp2_with fail
                      refine cP.mono ?_
                      rintro e w3 ⟨n, rfl, en, ln, hB3, k3⟩
                      rw [hel.out] at hB3 en
                      have P3 : HR w w3 base b q0 (pB q1 1).1 x y z B (.slice (some ⟨gl, 0, none⟩) Ls.length c) Ls := P.keep k3 hB3
                      have f := P3.blk.free 0
                      have cq := P3.blk.cell (j := 0) (v := .slice x.ad x.l.length x.cap) rfl
                      have PP := P3.set hqz hb0 0 n n y z rfl ln P3.ly P3.lz
                      have hE2 : Hid ((⟨n.l, y.l, z.l⟩ : L3) = (pB q1 1).2) := hide (by
                        have e1 := congrArg L3.a hE.out
                        have e2 := congrArg L3.b hE.out
                        have e3 := congrArg L3.c hE.out
                        simp only at e1 e2 e3
                        simp only [en.out, e2, e3]
                        rfl)
                      clear hE hel km cP P P3 k3 hB3
                      go_wp2
                      go_roundw
                      case rel => exact ⟨1, by omega, rfl, _, _, _, PP, hE2⟩
                      case measure => simp [intOf]
                    · have hel : Hid (y.l = (pB q1 1).2.b) := hide (congrArg L3.b hE.out)
                      have km := P.blk.cell (j := 1) (v := .slice y.ad y.l.length y.cap) rfl
                      have cP := rbRaise_any base b (pB q1 1).1 _ y wr P.bld (by rw [hpB.out]; exact hv.out) (hbB.out 1) (by omega) P.ly
                      go_wp2_with fail
                      refine cP.mono ?_
                      rintro e w3 ⟨n, rfl, en, ln, hB3, k3⟩
                      rw [hel.out] at hB3 en
                      have P3 : HR w w3 base b q0 (pB q1 2).1 x y z B (.slice (some ⟨gl, 0, none⟩) Ls.length c) Ls := P.keep k3 hB3
                      have f := P3.blk.free 1
                      have cq := P3.blk.cell (j := 1) (v := .slice y.ad y.l.length y.cap) rfl
                      have PP := P3.set hqz hb0 1 n x n z rfl P3.lx ln P3.lz
                      have hE2 : Hid ((⟨x.l, n.l, z.l⟩ : L3) = (pB q1 2).2) := hide (by
                        have e1 := congrArg L3.a hE.out
                        have e2 := congrArg L3.b hE.out
                        have e3 := congrArg L3.c hE.out
                        simp only at e1 e2 e3
                        simp only [en.out, e1, e3]
                        rfl)
                      clear hE hel km cP P P3 k3 hB3
                      go_wp2
                      go_roundw
                      case rel => exact ⟨2, by omega, rfl, _, _, _, PP, hE2⟩
                      case measure => simp [intOf]
                    · have hel : Hid (z.l = (pB q1 2).2.c) := hide (congrArg L3.c hE.out)
                      have km := P.blk.cell (j := 2) (v := .slice z.ad z.l.length z.cap) rfl
                      have cP := rbRaise_any base b (pB q1 2).1 _ z wr P.bld (by rw [hpB.out]; exact hv.out) (hbB.out 2) (by omega) P.lz
                      go_wp2_with fail
                      refine cP.mono ?_
                      rintro e w3 ⟨n, rfl, en, ln, hB3, k3⟩
                      rw [hel.out] at hB3 en
                      have P3 : HR w w3 base b q0 (pB q1 3).1 x y z B (.slice (some ⟨gl, 0, none⟩) Ls.length c) Ls := P.keep k3 hB3
                      have f := P3.blk.free 2
                      have cq := P3.blk.cell (j := 2) (v := .slice z.ad z.l.length z.cap) rfl
                      have PP := P3.set hqz hb0 2 n x y n rfl P3.lx P3.ly ln
                      have hE2 : Hid ((⟨x.l, y.l, n.l⟩ : L3) = (pB q1 3).2) := hide (by
                        have e1 := congrArg L3.a hE.out
                        have e2 := congrArg L3.b hE.out
                        have e3 := congrArg L3.c hE.out
                        simp only at e1 e2 e3
                        simp only [en.out, e1, e2]
                        rfl)
                      clear hE hel km cP P P3 k3 hB3
                      go_wp2
                      go_roundw
                      case rel => exact ⟨3, by omega, rfl, _, _, _, PP, hE2⟩
                      case measure => simp [intOf]
                  · obtain rfl : k = 3 := by omega
                    rw [show ((3 : Nat) : Int) = 3 from rfl]
                    rw [hgs.out] at P hE
                    obtain ⟨hTs, hGl⟩ := hTr.out.sub r
                    obtain ⟨⟨S2, s2⟩, hq2⟩ : ∃ q : St × L3, q = gSub r (S1, s) := ⟨_, rfl⟩
                    rw [← hq2] at P hE hTs hGl
                    simp only at P hE hGl
                    have hpp2 : S2.p = p := hTs.pp
                    have hv2 : vld S2.p = true := by rw [hpp2]; exact hv.out
                    have hl2 := hTs.lin
                    simp only at hl2
                    have hco2 : Hid (CoefOk p s2.a ∧ CoefOk p s2.b ∧ CoefOk p s2.c) := hide (by
                      rw [← hpp2]
                      exact ⟨hl2.1.1, hl2.2.1.1, hl2.2.2.1⟩)
                    have hcab : CoefOk p (addL p s2.a s2.b) := by
                      rw [← hpp2]
                      exact (LinIn.add hv2 hl2.1 hl2.2.1).1
                    have hct0 : CoefOk p (gSum3 p s2) := by
                      rw [← hpp2]
                      exact (LinIn.add hv2 (LinIn.add hv2 hl2.1 hl2.2.1) hl2.2.2).1
                    have hQN2 : Hid (QR = (S2, gMix p s2)) := hide (by
                      rw [hnx.out]
                      show ((gSub r (S1, s)).1, gMix (gSub r (S1, s)).1.p (gSub r (S1, s)).2) = _
                      rw [← hq2]
                      show (S2, gMix S2.p s2) = _
                      rw [hpp2])
                    replace hpp2 := hide hpp2
                    replace hv2 := hide hv2
                    replace hq2 := hide hq2
                    replace hct0 := hide hct0
                    replace hcab := hide hcab
                    clear hl2 hTs
                    obtain ⟨wB, hwB⟩ : ∃ wB, wB = wr := ⟨_, rfl⟩
                    subst hwB
                    obtain ⟨gl1, gl2, gl3⟩ := hGl
                    have ea : Hid (x.l = s2.a) := hide (congrArg L3.a hE.out)
                    have eb : Hid (y.l = s2.b) := hide (congrArg L3.b hE.out)
                    have ec : Hid (z.l = s2.c) := hide (congrArg L3.c hE.out)
                    have za : x.l.length ≤ 1 := by rw [ea.out]; exact gl1
                    have zb : y.l.length ≤ 1 := by rw [eb.out]; exact gl2
                    have zc : z.l.length ≤ 1 := by rw [ec.out]; exact gl3
                    go_wp2_with fail
                    refine Rel.region_any Try.mixed fun w7 hb7 => ?_
                    replace P := P.below hb7
                    refine Rel.any_held (fun W => W.cell? ⟨q0, 0, none⟩ = some (.slice x.ad x.l.length x.cap) ∧ W.cell? ⟨q0, 1, none⟩ = some (.slice y.ad y.l.length y.cap) ∧ W.cell? ⟨q0, 2, none⟩ = some (.slice z.ad z.l.length z.cap)) 10 ⟨P.blk.cell (j := 0) rfl, P.blk.cell (j := 1) rfl, P.blk.cell (j := 2) rfl⟩ fun hH0 => ?_
                    refine Rel.heldTake (v := ?_) 0 rfl (by kernel_rfl) (by kernel_rfl) (by kernel_rfl) (fun _ _ _ h => h) (by assumption) (by rfl) ?_ ?_
                    rotate_left
                    · (intro W hSw; (try dsimp only at hSw); go_simp; try with_reducible rfl)
                    try simp only [Act.put, List.setIfInBounds_toArray, List.set_cons_zero, List.set_cons_succ]
                    refine Rel.heldTake (v := ?_) 1 rfl (by kernel_rfl) (by kernel_rfl) (by kernel_rfl) (fun _ _ _ h => h) (by assumption) (by rfl) ?_ ?_
                    rotate_left
                    · (intro W hSw; (try dsimp only at hSw); go_simp; try with_reducible rfl)
                    try simp only [Act.put, List.setIfInBounds_toArray, List.set_cons_zero, List.set_cons_succ]
                    refine Rel.heldTake (v := ?_) 2 rfl (by kernel_rfl) (by kernel_rfl) (by kernel_rfl) (fun _ _ _ h => h) (by assumption) (by rfl) ?_ ?_
                    rotate_left
                    · (intro W hSw; (try dsimp only at hSw); go_simp; try with_reducible rfl)
                    try simp only [Act.put, List.setIfInBounds_toArray, List.set_cons_zero, List.set_cons_succ]
                    refine Rel.heldTake (v := ?_) 3 rfl (by kernel_rfl) (by kernel_rfl) (by kernel_rfl) (fun _ _ _ h => h) (by assumption) (by rfl) ?_ ?_
                    rotate_left
                    · (intro W hSw; (try dsimp only at hSw); go_simp; try with_reducible rfl)
                    try simp only [Act.put, List.setIfInBounds_toArray, List.set_cons_zero, List.set_cons_succ]
                    refine Rel.heldTake (v := ?_) 4 rfl (by kernel_rfl) (by kernel_rfl) (by kernel_rfl) (fun _ _ _ h => h) (by assumption) (by rfl) ?_ ?_
                    rotate_left
                    · (intro W hSw; (try dsimp only at hSw); go_simp; try with_reducible rfl)
                    try simp only [Act.put, List.setIfInBounds_toArray, List.set_cons_zero, List.set_cons_succ]
                    refine Rel.heldTake (v := ?_) 5 rfl (by kernel_rfl) (by kernel_rfl) (by kernel_rfl) (fun _ _ _ h => h) (by assumption) (by rfl) ?_ ?_
                    rotate_left
                    · (intro W hSw; (try dsimp only at hSw); go_simp; try with_reducible rfl)
                    try simp only [Act.put, List.setIfInBounds_toArray, List.set_cons_zero, List.set_cons_succ]
                    refine Rel.heldTake (v := ?_) 7 rfl (by kernel_rfl) (by kernel_rfl) (by kernel_rfl) (fun _ _ _ h => h) (by assumption) (by rfl) ?_ ?_
                    rotate_left
                    · (intro W hSw; (try dsimp only at hSw); go_simp; try with_reducible rfl)
                    try simp only [Act.put, List.setIfInBounds_toArray, List.set_cons_zero, List.set_cons_succ]
                    refine Rel.heldTake (v := ?_) 8 rfl (by kernel_rfl) (by kernel_rfl) (by kernel_rfl) (fun _ _ _ h => h) (by assumption) (by rfl) ?_ ?_
                    rotate_left
                    · (intro W hSw; (try dsimp only at hSw); go_simp; try with_reducible rfl)
                    try simp only [Act.put, List.setIfInBounds_toArray, List.set_cons_zero, List.set_cons_succ]
                    refine Rel.heldNext 6 rfl (by kernel_rfl) fun K hK => ?_
                    go_simp
                    have cA := rAddS_any p x y w7 P.lx.ok P.ly.ok (by omega) (by rw [ea.out]; exact hco2.out.1) (by rw [eb.out]; exact hco2.out.2.1)
                    have eA : addL p x.l y.l = addL p s2.a s2.b := by rw [ea.out, eb.out]
                    have lA := addP_len p x.l y.l 1
                    rw [eA] at cA
                    refine cA.mono ?_
                    rintro e w8 ⟨t8, rfl, et8, lt8, hb8⟩
                    replace P := P.below hb8
                    have zt : t8.l.length ≤ 2 := by rw [et8.out, ← eA]; unfold addL; omega
                    refine hK.out _ _ ⟨P.blk.cell (j := 0) rfl, P.blk.cell (j := 1) rfl, P.blk.cell (j := 2) rfl⟩ (fun hH1 => ?_)
                    clear hK K
                    try simp only [Act.put, List.setIfInBounds_toArray, List.set_cons_zero, List.set_cons_succ]
                    refine Rel.heldNext 9 rfl (by kernel_rfl) fun K hK => ?_
                    go_simp
                    have cA2 := rAddS_any p t8 z w8 lt8.ok P.lz.ok (by omega) (by rw [et8.out]; exact hcab.out) (by rw [ec.out]; exact hco2.out.2.2)
                    have eA2 : addL p t8.l z.l = gSum3 p s2 := by rw [et8.out, ec.out]; rfl
                    have lA2 := addP_len p t8.l z.l 1
                    rw [eA2] at cA2
                    refine cA2.mono ?_
                    rintro e w9 ⟨t, rfl, et, lt, hb9⟩
                    replace P := P.below hb9
                    have htl : Hid (t.l.length ≤ 3) := hide (by rw [et.out, ← eA2]; unfold addL; omega)
                    have hct : Hid (CoefOk p t.l) := hide (by rw [et.out]; exact hct0.out)
                    refine hK.out _ _ ⟨P.blk.cell (j := 0) rfl, P.blk.cell (j := 1) rfl, P.blk.cell (j := 2) rfl⟩ (fun hH2 => ?_)
                    clear hK K
                    try simp only [Act.put, List.setIfInBounds_toArray, List.set_cons_zero, List.set_cons_succ]
                    refine Rel.heldLast 10 rfl (by kernel_rfl) rfl (by kernel_rfl) fun K hK => ?_
                    go_simp
                    refine hK.out _ _ ?_
                    have P0 : HR w w9 base b q0 S2 x y z B (.slice (some ⟨gl, 0, none⟩) Ls.length c) Ls ∧ LinT w9 t := ⟨P, lt⟩
                    have hE5 : Hid ((⟨x.l, y.l, z.l⟩ : L3) = mC p t.l s2 0) := hE
                    clear hK K hH0 hH1 hH2 hE P lt za zb zc zt ea eb ec cA cA2 eA eA2 lA lA2 et8 lt8 hb7 hb8 hb9
                    go_wp2_with fail
                    go_loopw [14] (fun t14 wr => ∃ k : Nat, k ≤ 3 ∧ t14 = .int .i64 k ∧ ∃ x y z : Lc, (HR w wr base b q0 S2 x y z B (.slice (some ⟨gl, 0, none⟩) Ls.length c) Ls ∧ LinT wr t) ∧ Hid ((⟨x.l, y.l, z.l⟩ : L3) = mC p t.l s2 k)) (fun t14 _ => 3 - (intOf t14).toNat)
                    case atStart => exact ⟨0, by omega, rfl, x, y, z, P0, hE5⟩
                    case round =>
                      clear P0 hE5
                      obtain ⟨k, hk, rfl, x, y, z, ⟨P, lt⟩, hE⟩ := hrel
                      by_cases hlt3 : k < 3
                      · obtain rfl | rfl | rfl : k = 0 ∨ k = 1 ∨ k = 2 := by omega
                        · have hel : Hid (x.l = s2.a) := hide (congrArg L3.a hE.out)
                          have hsl : x.l.length ≤ 1 := by rw [hel.out]; exact gl1
                          have km := P.blk.cell (j := 0) (v := .slice x.ad x.l.length x.cap) rfl
                          have cA := rAddS_any p x t wr P.lx.ok lt.ok (by have := htl.out; omega) (by rw [hel.out]; exact hco2.out.1) hct.out
                          have eA : addL p x.l t.l = addL p s2.a t.l := by rw [hel.out]
                          rw [eA] at cA
                          go_wp2_with fail
                          refine cA.mono ?_
                          rintro e w3 ⟨n, rfl, en, ln, hb3⟩
                          have P3 := P.below hb3
                          have f := P3.blk.free 0
                          have cq := P3.blk.cell (j := 0) (v := .slice x.ad x.l.length x.cap) rfl
                          have PP := P3.set hqz hb0 0 n n y z rfl ln P3.ly P3.lz
                          have lt2 : LinT (w3.setCell ⟨q0, 0, none⟩ (lcV n)) t := (lt.mono hb3).setType P3.blk (by decide)
                          have hE2 : Hid ((⟨n.l, y.l, z.l⟩ : L3) = mC p t.l s2 1) := hide (by
                            have e1 := congrArg L3.a hE.out
                            have e2 := congrArg L3.b hE.out
                            have e3 := congrArg L3.c hE.out
                            simp only [mC] at e1 e2 e3 ⊢
                            simp [en.out, e2, e3])
                          clear hE hel km cA eA P P3 lt hb3 en
                          go_wp2
                          go_roundw
                          case rel => exact ⟨1, by omega, rfl, _, _, _, ⟨PP, lt2⟩, hE2⟩
                          case measure => simp [intOf]
                        · have hel : Hid (y.l = s2.b) := hide (congrArg L3.b hE.out)
                          have hsl : y.l.length ≤ 1 := by rw [hel.out]; exact gl2
                          have km := P.blk.cell (j := 1) (v := .slice y.ad y.l.length y.cap) rfl
                          have cA := rAddS_any p y t wr P.ly.ok lt.ok (by have := htl.out; omega) (by rw [hel.out]; exact hco2.out.2.1) hct.out
                          have eA : addL p y.l t.l = addL p s2.b t.l := by rw [hel.out]
                          rw [eA] at cA
                          go_wp2_with fail
                          refine cA.mono ?_
                          rintro e w3 ⟨n, rfl, en, ln, hb3⟩
                          have P3 := P.below hb3
                          have f := P3.blk.free 1
                          have cq := P3.blk.cell (j := 1) (v := .slice y.ad y.l.length y.cap) rfl
                          have PP := P3.set hqz hb0 1 n x n z rfl P3.lx ln P3.lz
                          have lt2 : LinT (w3.setCell ⟨q0, 1, none⟩ (lcV n)) t := (lt.mono hb3).setType P3.blk (by decide)
                          have hE2 : Hid ((⟨x.l, n.l, z.l⟩ : L3) = mC p t.l s2 2) := hide (by
                            have e1 := congrArg L3.a hE.out
                            have e2 := congrArg L3.b hE.out
                            have e3 := congrArg L3.c hE.out
                            simp only [mC] at e1 e2 e3 ⊢
                            simp [en.out, e1, e3])
                          clear hE hel km cA eA P P3 lt hb3 en
                          go_wp2
                          go_roundw
                          case rel => exact ⟨2, by omega, rfl, _, _, _, ⟨PP, lt2⟩, hE2⟩
                          case measure => simp [intOf]
                        · have hel : Hid (z.l = s2.c) := hide (congrArg L3.c hE.out)
                          have hsl : z.l.length ≤ 1 := by rw [hel.out]; exact gl3
                          have km := P.blk.cell (j := 2) (v := .slice z.ad z.l.length z.cap) rfl
                          have cA := rAddS_any p z t wr P.lz.ok lt.ok (by have := htl.out; omega) (by rw [hel.out]; exact hco2.out.2.2) hct.out
                          have eA : addL p z.l t.l = addL p s2.c t.l := by rw [hel.out]
                          rw [eA] at cA
                          go_wp2_with fail
                          refine cA.mono ?_
                          rintro e w3 ⟨n, rfl, en, ln, hb3⟩
                          have P3 := P.below hb3
                          have f := P3.blk.free 2
                          have cq := P3.blk.cell (j := 2) (v := .slice z.ad z.l.length z.cap) rfl
                          have PP := P3.set hqz hb0 2 n x y n rfl P3.lx P3.ly ln
                          have lt2 : LinT (w3.setCell ⟨q0, 2, none⟩ (lcV n)) t := (lt.mono hb3).setType P3.blk (by decide)
                          have hE2 : Hid ((⟨x.l, y.l, n.l⟩ : L3) = mC p t.l s2 3) := hide (by
                            have e1 := congrArg L3.a hE.out
                            have e2 := congrArg L3.b hE.out
                            have e3 := congrArg L3.c hE.out
                            simp only [mC] at e1 e2 e3 ⊢
                            simp [en.out, e1, e2])
                          clear hE hel km cA eA P P3 lt hb3 en
                          go_wp2
                          go_roundw
                          case rel => exact ⟨3, by omega, rfl, _, _, _, ⟨PP, lt2⟩, hE2⟩
                          case measure => simp [intOf]
                      · obtain rfl : k = 3 := by omega
                        have hE6 : Hid ((⟨x.l, y.l, z.l⟩ : L3) = gMix p s2) := hide (by rw [hE.out, et.out]; rfl)
                        have PN : HR w wr base b q0 QR.1 x y z B (.slice (some ⟨gl, 0, none⟩) Ls.length c) Ls := by rw [hQN2.out]; exact P
                        have EN : Hid ((⟨x.l, y.l, z.l⟩ : L3) = QR.2) := by rw [hQN2.out]; exact hE6
                        clear P hE hE6 lt
                        go_wp2
                        go_roundw
                        case rel => exact ⟨r + 1, by omega, by go_num, x, y, z, by rw [← hQR.out]; exact PN, by rw [← hQR.out]; exact EN⟩
                        case measure => simp [intOf]; omega
          · obtain rfl : r = 8 := by omega
            have HN : HR w wr base b q0 (gHashN p VL (m + 1) Q).1 x y z B (.slice (some ⟨gl, 0, none⟩) Ls.length c) Ls := by rw [hQN.out]; exact P
            have EN : Hid ((⟨x.l, y.l, z.l⟩ : L3) = (gHashN p VL (m + 1) Q).2) := by rw [hQN.out]; exact hE
            clear P hE
            go_wp2
            go_roundw
            case rel => exact ⟨m + 1, i + 2, by omega, hide (by have := hi.out; omega), by go_num, x, y, z, HN, EN⟩
            case measure => simp [intOf]; have := hi.out; omega
      · as_aux_lemma =>
        have hi0 : ((i : Int) == 0) = false := by have := hi.out; simp; omega
        have hin0 : i < Ls.length := by have := hi.out; have := hcase.out; omega
        have hin0i : (i : Int) < Ls.length := by omega
        have hin1i : (Ls.length : Int) ≤ (i : Int) + 1 := by have := hi.out; omega
        replace hc1 := hide hc1
        replace hc2 := hide hc2
        rcases H.ow.form with ⟨_, h0⟩ | ⟨gl, cap, cur, e4, _⟩
        · exfalso; rw [h0] at hin0; simp at hin0
        obtain rfl : ad = some ⟨gl, 0, none⟩ := by injection e4
        have hin2 : i < Ls.length := by omega
        have he := H.ow.cellE (i := i) (j := 0) default hin2 (by decide) rfl
        rw [show i * lcL.m + 0 = i from by show i * 1 + 0 = i; omega] at he
        have lu := H.ls _ (getD_mem' hin2 default)
        obtain ⟨hul, hu2, hu3⟩ := hVg.out _ hin2
        generalize Ls.getD i default = u at *
        replace hul := hide hul
        have lu2 : u.l.length ≤ 20000 := by rw [hul.out]; exact hu2
        have he' : World.cell? _ ⟨gl, i, none⟩ = some (.slice u.ad u.l.length u.cap) := he
        clear he hu2
        go_wp2_with fail
        refine Rel.region_any Try.mixed fun w7 hb7 => ?_
        have he7 := cell_below hb7 he'
        replace H := H.below hb7
        replace lu := lu.mono hb7
        refine Rel.any_held (fun W => W.cell? ⟨q0, 0, none⟩ = some (.slice x.ad x.l.length x.cap) ∧ W.cell? ⟨gl, i, none⟩ = some (.slice u.ad u.l.length u.cap)) 9 ⟨H.blk.cell (j := 0) rfl, he7⟩ fun hH0 => ?_
        refine Rel.heldTake (v := ?_) 0 rfl (by kernel_rfl) (by kernel_rfl) (by kernel_rfl) (fun _ _ _ h => h) (by assumption) (by rfl) ?_ ?_
        rotate_left
        · (intro W hSw; (try dsimp only at hSw); go_simp; try with_reducible rfl)
        try simp only [Act.put, List.setIfInBounds_toArray, List.set_cons_zero, List.set_cons_succ]
        refine Rel.heldTake (v := ?_) 1 rfl (by kernel_rfl) (by kernel_rfl) (by kernel_rfl) (fun _ _ _ h => h) (by assumption) (by rfl) ?_ ?_
        rotate_left
        · (intro W hSw; (try dsimp only at hSw); go_simp; try with_reducible rfl)
        try simp only [Act.put, List.setIfInBounds_toArray, List.set_cons_zero, List.set_cons_succ]
        refine Rel.heldTake (v := ?_) 2 rfl (by kernel_rfl) (by kernel_rfl) (by kernel_rfl) (fun _ _ _ h => h) (by assumption) (by rfl) ?_ ?_
        rotate_left
        · (intro W hSw; (try dsimp only at hSw); go_simp; try with_reducible rfl)
        try simp only [Act.put, List.setIfInBounds_toArray, List.set_cons_zero, List.set_cons_succ]
        refine Rel.heldTake (v := ?_) 3 rfl (by kernel_rfl) (by kernel_rfl) (by kernel_rfl) (fun _ _ _ h => h) (by assumption) (by rfl) ?_ ?_
        rotate_left
        · (intro W hSw; (try dsimp only at hSw); go_simp; try with_reducible rfl)
        try simp only [Act.put, List.setIfInBounds_toArray, List.set_cons_zero, List.set_cons_succ]
        refine Rel.heldTake (v := ?_) 4 rfl (by kernel_rfl) (by kernel_rfl) (by kernel_rfl) (fun _ _ _ h => h) (by assumption) (by rfl) ?_ ?_
        rotate_left
        · (intro W hSw; (try dsimp only at hSw); go_simp; try with_reducible rfl)
        try simp only [Act.put, List.setIfInBounds_toArray, List.set_cons_zero, List.set_cons_succ]
        refine Rel.heldTake (v := ?_) 5 rfl (by kernel_rfl) (by kernel_rfl) (by kernel_rfl) (fun _ _ _ h => h) (by assumption) (by rfl) ?_ ?_
        rotate_left
        · (intro W hSw; (try dsimp only at hSw); go_simp; try with_reducible rfl)
        try simp only [Act.put, List.setIfInBounds_toArray, List.set_cons_zero, List.set_cons_succ]
        refine Rel.heldTake (v := ?_) 6 rfl (by kernel_rfl) (by kernel_rfl) (by kernel_rfl) (fun _ _ _ h => h) (by assumption) (by rfl) ?_ ?_
        rotate_left
        · (intro W hSw; (try dsimp only at hSw); go_simp; try with_reducible rfl)
        try simp only [Act.put, List.setIfInBounds_toArray, List.set_cons_zero, List.set_cons_succ]
        refine Rel.heldNext 7 rfl (by kernel_rfl) fun K hK => ?_
        go_simp
        have cA := rAddS_any p x u w7 H.lx.ok lu.ok (by omega) (by rw [ea.out]; exact ca) (by rw [hul.out]; exact hu3)
        have eA : addL p x.l u.l = addL p s.a (VL.getD i []) := by rw [ea.out, hul.out]
        rw [eA] at cA
        refine cA.mono ?_
        rintro e w8 ⟨n0, rfl, en, ln, hb8⟩
        have H8 := H.below hb8
        refine hK.out _ _ ⟨H8.blk.cell (j := 0) rfl, cell_below hb8 he7⟩ (fun hH1 => ?_)
        clear hK K
        try simp only [Act.put, List.setIfInBounds_toArray, List.set_cons_zero, List.set_cons_succ]
        refine Rel.heldTake (v := ?_) 8 rfl (by kernel_rfl) (by kernel_rfl) (by kernel_rfl) (fun _ _ _ h => h) (by assumption) (by rfl) ?_ ?_
        rotate_left
        · (intro W hSw; (try dsimp only at hSw); go_simp; try with_reducible rfl)
        try simp only [Act.put, List.setIfInBounds_toArray, List.set_cons_zero, List.set_cons_succ]
        have f := H8.blk.free 0
        have cq := H8.blk.cell (j := 0) (v := .slice x.ad x.l.length x.cap) rfl
        refine Rel.heldLast 9 rfl (by kernel_rfl) rfl (by kernel_rfl) fun K hK => ?_
        go_simp
        refine hK.out _ _ ?_
        have HH := H8.set hqz hb0 0 n0 n0 y z rfl ln H8.ly H8.lz
        have e0 : Hid (n0.l = addL p s.a (VL.getD i [])) := en
        clear hK K hH0 hH1 f cq H H8 cA eA lu hul lu2 hu3 he' he7 en hb7 hb8
        replace H := HH
        clear HH
        have E1 : Hid ((⟨n0.l, y.l, z.l⟩ : L3) = (TT p VL Q m 0).2) := hide (by
          rw [hQ0.out]
          show _ = gAbs p VL i 2 s
          have hvl := hVl.out
          have hi9 := hi.out
          unfold gAbs
          rw [if_pos ⟨by decide, by omega⟩, if_neg (by omega), e0.out, eb.out, show z.l = s.c from congrArg L3.c hE.out])
        have eT0 : (TT p VL Q m 0).1 = S1 := by rw [hQ0.out]
        have H1 := H
        rw [← eT0] at H1
        replace eT0 := hide eT0
        clear H hE ea eb ca cb lx0 ly0 hpp hq e0
        replace hv := hide hv
        go_wp2_with fail
        obtain ⟨wO, hwO⟩ : ∃ wO, wO = wr := ⟨_, rfl⟩
        subst hwO
        go_loopw [10] (fun t10 wr => ∃ r : Nat, r ≤ 8 ∧ t10 = .int .i64 r ∧ ∃ x y z : Lc, HR w wr base b q0 (TT p VL Q m r).1 x y z B (.slice (some ⟨gl, 0, none⟩) Ls.length c) Ls ∧ Hid ((⟨x.l, y.l, z.l⟩ : L3) = (TT p VL Q m r).2)) (fun t10 _ => 8 - (intOf t10).toNat)
        case atStart => exact ⟨0, by omega, rfl, n0, y, z, H1, E1⟩
        case round =>
          clear H1 E1
          obtain ⟨r, hr, rfl, x, y, z, P, hE⟩ := hrel
          by_cases hlt8 : r < 8
          · have hlt8' : (r : Int) < 8 := by omega
            have hTr := hTm.out r
            have hnx : Hid (TT p VL Q m (r + 1) = gRound r (TT p VL Q m r)) := hide rfl
            obtain ⟨QR, hQR⟩ : ∃ QR, QR = TT p VL Q m (r + 1) := ⟨_, rfl⟩
            rw [← hQR] at hnx
            replace hQR := hide hQR
            obtain ⟨⟨S1, s⟩, hq⟩ : ∃ q : St × L3, q = TT p VL Q m r := ⟨_, rfl⟩
            rw [← hq] at hTr hnx P hE
            simp only at P hE
            have hS1 : Hid (S1.p = p) := hide hTr.pp
            have hS2 : Bd S1 (N + 192 * m + 24 * r) := hTr.bd
            have hS3 : Hid (Sm3 30000 s) := hide hTr.sm
            have hco : Hid (CoefOk p s.a ∧ CoefOk p s.b ∧ CoefOk p s.c) := hide (by
              have h1 := hTr.lin
              have h2 : S1.p = p := hTr.pp
              rw [← h2]
              exact ⟨h1.1.1, h1.2.1.1, h1.2.2.1⟩)
            replace hTr := hide hTr
            replace hq := hide hq
            have hE' : Hid ((⟨x.l, y.l, z.l⟩ : L3) = kA p r s 0) := hE
            go_wp2_with fail
            obtain ⟨wP, hwP⟩ : ∃ wP, wP = wr := ⟨_, rfl⟩
            subst hwP
            go_loopw [11] (fun t11 wr => ∃ k : Nat, k ≤ 3 ∧ t11 = .int .i64 k ∧ ∃ x y z : Lc, HR w wr base b q0 S1 x y z B (.slice (some ⟨gl, 0, none⟩) Ls.length c) Ls ∧ Hid ((⟨x.l, y.l, z.l⟩ : L3) = kA p r s k)) (fun t11 _ => 3 - (intOf t11).toNat)
            case atStart => exact ⟨0, by omega, rfl, x, y, z, P, hE'⟩
            case round =>
              clear P hE hE'
              obtain ⟨k, hk, rfl, x, y, z, P, hE⟩ := hrel
              by_cases hlt3 : k < 3
              · obtain rfl | rfl | rfl : k = 0 ∨ k = 1 ∨ k = 2 := by omega
                · have hel : Hid (x.l = s.a) := hide (by have := congrArg L3.a hE.out; exact this)
                  have hsl : x.l.length ≤ 30000 := by rw [hel.out]; have := hS3.out; unfold Sm3 at this; omega
                  have cK := fun W => rConstant_any p r 0 W
                  have kb := fconst_bd p r 0
                  obtain ⟨kc, hkc⟩ : ∃ kc, kc = fconst p r 0 := ⟨_, rfl⟩
                  rw [← hkc] at cK kb
                  have hkon : Hid (addL p s.a (keepT (0, fred p kc)) = gKon p r 0 s.a) := hide (by rw [hkc]; rfl)
                  replace hkc := hide hkc
                  go_wp2_with fail
                  refine Rel.region_any Try.mixed fun w7 hb7 => ?_
                  replace P := P.below hb7
                  refine Rel.any_held (fun W => W.cell? ⟨q0, 0, none⟩ = some (.slice x.ad x.l.length x.cap)) 13 (P.blk.cell (j := 0) rfl) fun hH0 => ?_
                  refine Rel.heldTake (v := ?_) 0 rfl (by kernel_rfl) (by kernel_rfl) (by kernel_rfl) (fun _ _ _ h => h) (by assumption) (by rfl) ?_ ?_
                  rotate_left
                  · (intro W hSw; (try dsimp only at hSw); go_simp; try with_reducible rfl)
                  try simp only [Act.put, List.setIfInBounds_toArray, List.set_cons_zero, List.set_cons_succ]
                  refine Rel.heldTake (v := ?_) 1 rfl (by kernel_rfl) (by kernel_rfl) (by kernel_rfl) (fun _ _ _ h => h) (by assumption) (by rfl) ?_ ?_
                  rotate_left
                  · (intro W hSw; (try dsimp only at hSw); go_simp; try with_reducible rfl)
                  try simp only [Act.put, List.setIfInBounds_toArray, List.set_cons_zero, List.set_cons_succ]
                  refine Rel.heldTake (v := ?_) 2 rfl (by kernel_rfl) (by kernel_rfl) (by kernel_rfl) (fun _ _ _ h => h) (by assumption) (by rfl) ?_ ?_
                  rotate_left
                  · (intro W hSw; (try dsimp only at hSw); go_simp; try with_reducible rfl)
                  try simp only [Act.put, List.setIfInBounds_toArray, List.set_cons_zero, List.set_cons_succ]
                  refine Rel.heldTake (v := ?_) 3 rfl (by kernel_rfl) (by kernel_rfl) (by kernel_rfl) (fun _ _ _ h => h) (by assumption) (by rfl) ?_ ?_
                  rotate_left
                  · (intro W hSw; (try dsimp only at hSw); go_simp; try with_reducible rfl)
                  try simp only [Act.put, List.setIfInBounds_toArray, List.set_cons_zero, List.set_cons_succ]
                  refine Rel.heldTake (v := ?_) 4 rfl (by kernel_rfl) (by kernel_rfl) (by kernel_rfl) (fun _ _ _ h => h) (by assumption) (by rfl) ?_ ?_
                  rotate_left
                  · (intro W hSw; (try dsimp only at hSw); go_simp; try with_reducible rfl)
                  try simp only [Act.put, List.setIfInBounds_toArray, List.set_cons_zero, List.set_cons_succ]
                  refine Rel.heldTake (v := ?_) 5 rfl (by kernel_rfl) (by kernel_rfl) (by kernel_rfl) (fun _ _ _ h => h) (by assumption) (by rfl) ?_ ?_
                  rotate_left
                  · (intro W hSw; (try dsimp only at hSw); go_simp; try with_reducible rfl)
                  try simp only [Act.put, List.setIfInBounds_toArray, List.set_cons_zero, List.set_cons_succ]
                  refine Rel.heldTake (v := ?_) 6 rfl (by kernel_rfl) (by kernel_rfl) (by kernel_rfl) (fun _ _ _ h => h) (by assumption) (by rfl) ?_ ?_
                  rotate_left
                  · (intro W hSw; (try dsimp only at hSw); go_simp; try with_reducible rfl)
                  try simp only [Act.put, List.setIfInBounds_toArray, List.set_cons_zero, List.set_cons_succ]
                  refine Rel.heldTake (v := ?_) 7 rfl (by kernel_rfl) (by kernel_rfl) (by kernel_rfl) (fun _ _ _ h => h) (by assumption) (by rfl) ?_ ?_
                  rotate_left
                  · (intro W hSw; (try dsimp only at hSw); go_simp; try with_reducible rfl)
                  try simp only [Act.put, List.setIfInBounds_toArray, List.set_cons_zero, List.set_cons_succ]
                  refine Rel.heldTake (v := ?_) 8 rfl (by kernel_rfl) (by kernel_rfl) (by kernel_rfl) (fun _ _ _ h => h) (by assumption) (by rfl) ?_ ?_
                  rotate_left
                  · (intro W hSw; (try dsimp only at hSw); go_simp; try with_reducible rfl)
                  try simp only [Act.put, List.setIfInBounds_toArray, List.set_cons_zero, List.set_cons_succ]
                  refine Rel.heldNext 9 rfl (by kernel_rfl) fun K hK => ?_
                  go_simp
                  refine (cK _).mono ?_
                  rintro e w8 ⟨rfl, hb8⟩
                  replace P := P.below hb8
                  refine hK.out _ _ (P.blk.cell (j := 0) rfl) (fun hH1 => ?_)
                  clear hK K
                  try simp only [Act.put, List.setIfInBounds_toArray, List.set_cons_zero, List.set_cons_succ]
                  refine Rel.heldNext 10 rfl (by kernel_rfl) fun K hK => ?_
                  go_simp
                  refine (rConstant20_any p kc w8 kb).mono ?_
                  rintro e w9 ⟨tk, rfl, ek, lk, hb9⟩
                  replace P := P.below hb9
                  have lk1 : tk.l.length ≤ 1 := by rw [ek.out]; exact keepT_len _
                  refine hK.out _ _ (P.blk.cell (j := 0) rfl) (fun hH2 => ?_)
                  clear hK K
                  try simp only [Act.put, List.setIfInBounds_toArray, List.set_cons_zero, List.set_cons_succ]
                  refine Rel.heldNext 11 rfl (by kernel_rfl) fun K hK => ?_
                  go_simp
                  have cA := rAddS_any p x tk w9 P.lx.ok lk.ok (by omega) (by rw [hel.out]; exact hco.out.1) (by rw [ek.out]; exact (cst_in (hi := 1) hv.out _ (by decide)).1)
                  have eA : addL p x.l tk.l = gKon p r 0 s.a := by rw [← hkon.out, hel.out, ek.out]
                  rw [eA] at cA
                  refine cA.mono ?_
                  rintro e w10 ⟨n, rfl, en, ln, hb10⟩
                  replace P := P.below hb10
                  refine hK.out _ _ (P.blk.cell (j := 0) rfl) (fun hH3 => ?_)
                  clear hK K
                  try simp only [Act.put, List.setIfInBounds_toArray, List.set_cons_zero, List.set_cons_succ]
                  refine Rel.heldTake (v := ?_) 12 rfl (by kernel_rfl) (by kernel_rfl) (by kernel_rfl) (fun _ _ _ h => h) (by assumption) (by rfl) ?_ ?_
                  rotate_left
                  · (intro W hSw; (try dsimp only at hSw); go_simp; try with_reducible rfl)
                  try simp only [Act.put, List.setIfInBounds_toArray, List.set_cons_zero, List.set_cons_succ]
                  have f := P.blk.free 0
                  have cq := P.blk.cell (j := 0) (v := .slice x.ad x.l.length x.cap) rfl
                  refine Rel.heldLast 13 rfl (by kernel_rfl) rfl (by kernel_rfl) fun K hK => ?_
                  go_simp
                  refine hK.out _ _ ?_
                  have PP := P.set hqz hb0 0 n n y z rfl ln P.ly P.lz
                  have hE2 : Hid ((⟨n.l, y.l, z.l⟩ : L3) = kA p r s 1) := hide (by
                    have e1 := congrArg L3.a hE.out
                    have e2 := congrArg L3.b hE.out
                    have e3 := congrArg L3.c hE.out
                    simp only [kA] at e1 e2 e3 ⊢
                    simp [en.out, e2, e3])
                  clear hK K hH0 hH1 hH2 hH3 f cq P hE hel cA eA en lk ek
                  go_wp2
                  go_roundw
                  case rel => exact ⟨1, by omega, rfl, _, _, _, PP, hE2⟩
                  case measure => simp [intOf]
                · have hel : Hid (y.l = s.b) := hide (by have := congrArg L3.b hE.out; exact this)
                  have hsl : y.l.length ≤ 30000 := by rw [hel.out]; have := hS3.out; unfold Sm3 at this; omega
                  have cK := fun W => rConstant_any p r 1 W
                  have kb := fconst_bd p r 1
                  obtain ⟨kc, hkc⟩ : ∃ kc, kc = fconst p r 1 := ⟨_, rfl⟩
                  rw [← hkc] at cK kb
                  have hkon : Hid (addL p s.b (keepT (0, fred p kc)) = gKon p r 1 s.b) := hide (by rw [hkc]; rfl)
                  replace hkc := hide hkc
                  go_wp2_with fail
                  refine Rel.region_any Try.mixed fun w7 hb7 => ?_
                  replace P := P.below hb7
                  refine Rel.any_held (fun W => W.cell? ⟨q0, 1, none⟩ = some (.slice y.ad y.l.length y.cap)) 13 (P.blk.cell (j := 1) rfl) fun hH0 => ?_
                  refine Rel.heldTake (v := ?_) 0 rfl (by kernel_rfl) (by kernel_rfl) (by kernel_rfl) (fun _ _ _ h => h) (by assumption) (by rfl) ?_ ?_
                  rotate_left
                  · (intro W hSw; (try dsimp only at hSw); go_simp; try with_reducible rfl)
                  try simp only [Act.put, List.setIfInBounds_toArray, List.set_cons_zero, List.set_cons_succ]
                  refine Rel.heldTake (v := ?_) 1 rfl (by kernel_rfl) (by kernel_rfl) (by kernel_rfl) (fun _ _ _ h => h) (by assumption) (by rfl) ?_ ?_
                  rotate_left
                  · (intro W hSw; (try dsimp only at hSw); go_simp; try with_reducible rfl)
                  try simp only [Act.put, List.setIfInBounds_toArray, List.set_cons_zero, List.set_cons_succ]
                  refine Rel.heldTake (v := ?_) 2 rfl (by kernel_rfl) (by kernel_rfl) (by kernel_rfl) (fun _ _ _ h => h) (by assumption) (by rfl) ?_ ?_
                  rotate_left
                  · (intro W hSw; (try dsimp only at hSw); go_simp; try with_reducible rfl)
                  try simp only [Act.put, List.setIfInBounds_toArray, List.set_cons_zero, List.set_cons_succ]
                  refine Rel.heldTake (v := ?_) 3 rfl (by kernel_rfl) (by kernel_rfl) (by kernel_rfl) (fun _ _ _ h => h) (by assumption) (by rfl) ?_ ?_
                  rotate_left
                  · (intro W hSw; (try dsimp only at hSw); go_simp; try with_reducible rfl)
                  try simp only [Act.put, List.setIfInBounds_toArray, List.set_cons_zero, List.set_cons_succ]
                  refine Rel.heldTake (v := ?_) 4 rfl (by kernel_rfl) (by kernel_rfl) (by kernel_rfl) (fun _ _ _ h => h) (by assumption) (by rfl) ?_ ?_
                  rotate_left
                  · (intro W hSw; (try dsimp only at hSw); go_simp; try with_reducible rfl)
                  try simp only [Act.put, List.setIfInBounds_toArray, List.set_cons_zero, List.set_cons_succ]
                  refine Rel.heldTake (v := ?_) 5 rfl (by kernel_rfl) (by kernel_rfl) (by kernel_rfl) (fun _ _ _ h => h) (by assumption) (by rfl) ?_ ?_
                  rotate_left
                  · (intro W hSw; (try dsimp only at hSw); go_simp; try with_reducible rfl)
                  try simp only [Act.put, List.setIfInBounds_toArray, List.set_cons_zero, List.set_cons_succ]
                  refine Rel.heldTake (v := ?_) 6 rfl (by kernel_rfl) (by kernel_rfl) (by kernel_rfl) (fun _ _ _ h => h) (by assumption) (by rfl) ?_ ?_
                  rotate_left
                  · (intro W hSw; (try dsimp only at hSw); go_simp; try with_reducible rfl)
                  try simp only [Act.put, List.setIfInBounds_toArray, List.set_cons_zero, List.set_cons_succ]
                  refine Rel.heldTake (v := ?_) 7 rfl (by kernel_rfl) (by kernel_rfl) (by kernel_rfl) (fun _ _ _ h => h) (by assumption) (by rfl) ?_ ?_
                  rotate_left
                  · (intro W hSw; (try dsimp only at hSw); go_simp; try with_reducible rfl)
                  try simp only [Act.put, List.setIfInBounds_toArray, List.set_cons_zero, List.set_cons_succ]
                  refine Rel.heldTake (v := ?_) 8 rfl (by kernel_rfl) (by kernel_rfl) (by kernel_rfl) (fun _ _ _ h => h) (by assumption) (by rfl) ?_ ?_
                  rotate_left
                  · (intro W hSw; (try dsimp only at hSw); go_simp; try with_reducible rfl)
                  try simp only [Act.put, List.setIfInBounds_toArray, List.set_cons_zero, List.set_cons_succ]
                  refine Rel.heldNext 9 rfl (by kernel_rfl) fun K hK => ?_
                  go_simp
                  refine (cK _).mono ?_
                  rintro e w8 ⟨rfl, hb8⟩
                  replace P := P.below hb8
                  refine hK.out _ _ (P.blk.cell (j := 1) rfl) (fun hH1 => ?_)
                  clear hK K
                  try simp only [Act.put, List.setIfInBounds_toArray, List.set_cons_zero, List.set_cons_succ]
                  refine Rel.heldNext 10 rfl (by kernel_rfl) fun K hK => ?_
                  go_simp
                  refine (rConstant20_any p kc w8 kb).mono ?_
                  rintro e w9 ⟨tk, rfl, ek, lk, hb9⟩
                  replace P := P.below hb9
                  have lk1 : tk.l.length ≤ 1 := by rw [ek.out]; exact keepT_len _
                  refine hK.out _ _ (P.blk.cell (j := 1) rfl) (fun hH2 => ?_)
                  clear hK K
                  try simp only [Act.put, List.setIfInBounds_toArray, List.set_cons_zero, List.set_cons_succ]
                  refine Rel.heldNext 11 rfl (by kernel_rfl) fun K hK => ?_
                  go_simp
                  have cA := rAddS_any p y tk w9 P.ly.ok lk.ok (by omega) (by rw [hel.out]; exact hco.out.2.1) (by rw [ek.out]; exact (cst_in (hi := 1) hv.out _ (by decide)).1)
                  have eA : addL p y.l tk.l = gKon p r 1 s.b := by rw [← hkon.out, hel.out, ek.out]
                  rw [eA] at cA
                  refine cA.mono ?_
                  rintro e w10 ⟨n, rfl, en, ln, hb10⟩
                  replace P := P.below hb10
                  refine hK.out _ _ (P.blk.cell (j := 1) rfl) (fun hH3 => ?_)
                  clear hK K
                  try simp only [Act.put, List.setIfInBounds_toArray, List.set_cons_zero, List.set_cons_succ]
                  refine Rel.heldTake (v := ?_) 12 rfl (by kernel_rfl) (by kernel_rfl) (by kernel_rfl) (fun _ _ _ h => h) (by assumption) (by rfl) ?_ ?_
                  rotate_left
                  · (intro W hSw; (try dsimp only at hSw); go_simp; try with_reducible rfl)
                  try simp only [Act.put, List.setIfInBounds_toArray, List.set_cons_zero, List.set_cons_succ]
                  have f := P.blk.free 1
                  have cq := P.blk.cell (j := 1) (v := .slice y.ad y.l.length y.cap) rfl
                  refine Rel.heldLast 13 rfl (by kernel_rfl) rfl (by kernel_rfl) fun K hK => ?_
                  go_simp
                  refine hK.out _ _ ?_
                  have PP := P.set hqz hb0 1 n x n z rfl P.lx ln P.lz
                  have hE2 : Hid ((⟨x.l, n.l, z.l⟩ : L3) = kA p r s 2) := hide (by
                    have e1 := congrArg L3.a hE.out
                    have e2 := congrArg L3.b hE.out
                    have e3 := congrArg L3.c hE.out
                    simp only [kA] at e1 e2 e3 ⊢
                    simp [en.out, e1, e3])
                  clear hK K hH0 hH1 hH2 hH3 f cq P hE hel cA eA en lk ek
                  go_wp2
                  go_roundw
                  case rel => exact ⟨2, by omega, rfl, _, _, _, PP, hE2⟩
                  case measure => simp [intOf]
                · have hel : Hid (z.l = s.c) := hide (by have := congrArg L3.c hE.out; exact this)
                  have hsl : z.l.length ≤ 30000 := by rw [hel.out]; have := hS3.out; unfold Sm3 at this; omega
                  have cK := fun W => rConstant_any p r 2 W
                  have kb := fconst_bd p r 2
                  obtain ⟨kc, hkc⟩ : ∃ kc, kc = fconst p r 2 := ⟨_, rfl⟩
                  rw [← hkc] at cK kb
                  have hkon : Hid (addL p s.c (keepT (0, fred p kc)) = gKon p r 2 s.c) := hide (by rw [hkc]; rfl)
                  replace hkc := hide hkc
                  go_wp2_with fail
                  refine Rel.region_any Try.mixed fun w7 hb7 => ?_
                  replace P := P.below hb7
                  refine Rel.any_held (fun W => W.cell? ⟨q0, 2, none⟩ = some (.slice z.ad z.l.length z.cap)) 13 (P.blk.cell (j := 2) rfl) fun hH0 => ?_
                  refine Rel.heldTake (v := ?_) 0 rfl (by kernel_rfl) (by kernel_rfl) (by kernel_rfl) (fun _ _ _ h => h) (by assumption) (by rfl) ?_ ?_
                  rotate_left
                  · (intro W hSw; (try dsimp only at hSw); go_simp; try with_reducible rfl)
                  try simp only [Act.put, List.setIfInBounds_toArray, List.set_cons_zero, List.set_cons_succ]
                  refine Rel.heldTake (v := ?_) 1 rfl (by kernel_rfl) (by kernel_rfl) (by kernel_rfl) (fun _ _ _ h => h) (by assumption) (by rfl) ?_ ?_
                  rotate_left
                  · (intro W hSw; (try dsimp only at hSw); go_simp; try with_reducible rfl)
                  try simp only [Act.put, List.setIfInBounds_toArray, List.set_cons_zero, List.set_cons_succ]
                  refine Rel.heldTake (v := ?_) 2 rfl (by kernel_rfl) (by kernel_rfl) (by kernel_rfl) (fun _ _ _ h => h) (by assumption) (by rfl) ?_ ?_
                  rotate_left
                  · (intro W hSw; (try dsimp only at hSw); go_simp; try with_reducible rfl)
                  try simp only [Act.put, List.setIfInBounds_toArray, List.set_cons_zero, List.set_cons_succ]
                  refine Rel.heldTake (v := ?_) 3 rfl (by kernel_rfl) (by kernel_rfl) (by kernel_rfl) (fun _ _ _ h => h) (by assumption) (by rfl) ?_ ?_
                  rotate_left
                  · (intro W hSw; (try dsimp only at hSw); go_simp; try with_reducible rfl)
                  try simp only [Act.put, List.setIfInBounds_toArray, List.set_cons_zero, List.set_cons_succ]
                  refine Rel.heldTake (v := ?_) 4 rfl (by kernel_rfl) (by kernel_rfl) (by kernel_rfl) (fun _ _ _ h => h) (by assumption) (by rfl) ?_ ?_
                  rotate_left
                  · (intro W hSw; (try dsimp only at hSw); go_simp; try with_reducible rfl)
                  try simp only [Act.put, List.setIfInBounds_toArray, List.set_cons_zero, List.set_cons_succ]
                  refine Rel.heldTake (v := ?_) 5 rfl (by kernel_rfl) (by kernel_rfl) (by kernel_rfl) (fun _ _ _ h => h) (by assumption) (by rfl) ?_ ?_
                  rotate_left
                  · (intro W hSw; (try dsimp only at hSw); go_simp; try with_reducible rfl)
                  try simp only [Act.put, List.setIfInBounds_toArray, List.set_cons_zero, List.set_cons_succ]
                  refine Rel.heldTake (v := ?_) 6 rfl (by kernel_rfl) (by kernel_rfl) (by kernel_rfl) (fun _ _ _ h => h) (by assumption) (by rfl) ?_ ?_
                  rotate_left
                  · (intro W hSw; (try dsimp only at hSw); go_simp; try with_reducible rfl)
                  try simp only [Act.put, List.setIfInBounds_toArray, List.set_cons_zero, List.set_cons_succ]
                  refine Rel.heldTake (v := ?_) 7 rfl (by kernel_rfl) (by kernel_rfl) (by kernel_rfl) (fun _ _ _ h => h) (by assumption) (by rfl) ?_ ?_
                  rotate_left
                  · (intro W hSw; (try dsimp only at hSw); go_simp; try with_reducible rfl)
                  try simp only [Act.put, List.setIfInBounds_toArray, List.set_cons_zero, List.set_cons_succ]
                  refine Rel.heldTake (v := ?_) 8 rfl (by kernel_rfl) (by kernel_rfl) (by kernel_rfl) (fun _ _ _ h => h) (by assumption) (by rfl) ?_ ?_
                  rotate_left
                  · (intro W hSw; (try dsimp only at hSw); go_simp; try with_reducible rfl)
                  try simp only [Act.put, List.setIfInBounds_toArray, List.set_cons_zero, List.set_cons_succ]
                  refine Rel.heldNext 9 rfl (by kernel_rfl) fun K hK => ?_
                  go_simp
                  refine (cK _).mono ?_
                  rintro e w8 ⟨rfl, hb8⟩
                  replace P := P.below hb8
                  refine hK.out _ _ (P.blk.cell (j := 2) rfl) (fun hH1 => ?_)
                  clear hK K
                  try simp only [Act.put, List.setIfInBounds_toArray, List.set_cons_zero, List.set_cons_succ]
                  refine Rel.heldNext 10 rfl (by kernel_rfl) fun K hK => ?_
                  go_simp
                  refine (rConstant20_any p kc w8 kb).mono ?_
                  rintro e w9 ⟨tk, rfl, ek, lk, hb9⟩
                  replace P := P.below hb9
                  have lk1 : tk.l.length ≤ 1 := by rw [ek.out]; exact keepT_len _
                  refine hK.out _ _ (P.blk.cell (j := 2) rfl) (fun hH2 => ?_)
                  clear hK K
                  try simp only [Act.put, List.setIfInBounds_toArray, List.set_cons_zero, List.set_cons_succ]
                  refine Rel.heldNext 11 rfl (by kernel_rfl) fun K hK => ?_
                  go_simp
                  have cA := rAddS_any p z tk w9 P.lz.ok lk.ok (by omega) (by rw [hel.out]; exact hco.out.2.2) (by rw [ek.out]; exact (cst_in (hi := 1) hv.out _ (by decide)).1)
                  have eA : addL p z.l tk.l = gKon p r 2 s.c := by rw [← hkon.out, hel.out, ek.out]
                  rw [eA] at cA
                  refine cA.mono ?_
                  rintro e w10 ⟨n, rfl, en, ln, hb10⟩
                  replace P := P.below hb10
                  refine hK.out _ _ (P.blk.cell (j := 2) rfl) (fun hH3 => ?_)
                  clear hK K
                  try simp only [Act.put, List.setIfInBounds_toArray, List.set_cons_zero, List.set_cons_succ]
                  refine Rel.heldTake (v := ?_) 12 rfl (by kernel_rfl) (by kernel_rfl) (by kernel_rfl) (fun _ _ _ h => h) (by assumption) (by rfl) ?_ ?_
                  rotate_left
                  · (intro W hSw; (try dsimp only at hSw); go_simp; try with_reducible rfl)
                  try simp only [Act.put, List.setIfInBounds_toArray, List.set_cons_zero, List.set_cons_succ]
                  have f := P.blk.free 2
                  have cq := P.blk.cell (j := 2) (v := .slice z.ad z.l.length z.cap) rfl
                  refine Rel.heldLast 13 rfl (by kernel_rfl) rfl (by kernel_rfl) fun K hK => ?_
                  go_simp
                  refine hK.out _ _ ?_
                  have PP := P.set hqz hb0 2 n x y n rfl P.lx P.ly ln
                  have hE2 : Hid ((⟨x.l, y.l, n.l⟩ : L3) = kA p r s 3) := hide (by
                    have e1 := congrArg L3.a hE.out
                    have e2 := congrArg L3.b hE.out
                    have e3 := congrArg L3.c hE.out
                    simp only [kA] at e1 e2 e3 ⊢
                    simp [en.out, e1, e2])
                  clear hK K hH0 hH1 hH2 hH3 f cq P hE hel cA eA en lk ek
                  go_wp2
                  go_roundw
                  case rel => exact ⟨3, by omega, rfl, _, _, _, PP, hE2⟩
                  case measure => simp [intOf]
              · obtain rfl : k = 3 := by omega
                rw [show ((3 : Nat) : Int) = 3 from rfl]
                have hE3 : Hid ((⟨x.l, y.l, z.l⟩ : L3) = gKon3 p r s) := hE
                obtain ⟨q1, hq1⟩ : ∃ q1 : St × L3, q1 = (S1, gKon3 p r s) := ⟨_, rfl⟩
                have hpB : ∀ k, (pB q1 k).1.p = p := fun k => by rw [pB_p, hq1]; exact hS1.out
                have hbB : ∀ k, Bd (pB q1 k).1 (N + 192 * m + 24 * (r : Int) + 24) := fun k => pB_bd (by rw [hq1]; exact hS2) k
                have hgs : Hid (pB q1 3 = gSub r (S1, s)) := hide (by rw [hq1]; show gPow3 (gPow2 (gPow1 (S1, gKon3 p r s))) = gPow3 (gPow2 (gPow1 (S1, gKon3 S1.p r s))); rw [hS1.out])
                have P0 : HR w wr base b q0 (pB q1 0).1 x y z B (.slice (some ⟨gl, 0, none⟩) Ls.length c) Ls := by rw [hq1]; exact P
                have hE4 : Hid ((⟨x.l, y.l, z.l⟩ : L3) = (pB q1 0).2) := by rw [hq1]; exact hE3
                obtain ⟨wA, hwA⟩ : ∃ wA, wA = wr := ⟨_, rfl⟩
                subst hwA
                replace hq1 := hide hq1
                replace hpB := hide hpB
                replace hbB := hide hbB
                clear P hE hE3
                go_wp2_with fail
                go_loopw [12] (fun t12 wr => ∃ k : Nat, k ≤ 3 ∧ t12 = .int .i64 k ∧ ∃ x y z : Lc, HR w wr base b q0 (pB q1 k).1 x y z B (.slice (some ⟨gl, 0, none⟩) Ls.length c) Ls ∧ Hid ((⟨x.l, y.l, z.l⟩ : L3) = (pB q1 k).2)) (fun t12 _ => 3 - (intOf t12).toNat)
                case atStart => exact ⟨0, by omega, rfl, x, y, z, P0, hE4⟩
                case round =>
                  clear P0 hE4
                  obtain ⟨k, hk, rfl, x, y, z, P, hE⟩ := hrel
                  by_cases hlt3 : k < 3
                  · obtain rfl | rfl | rfl : k = 0 ∨ k = 1 ∨ k = 2 := by omega
                    · have hel : Hid (x.l = (pB q1 0).2.a) := hide (congrArg L3.a hE.out)
                      have km := P.blk.cell (j := 0) (v := .slice x.ad x.l.length x.cap) rfl
                      have cP := rbRaise_any base b (pB q1 0).1 _ x wr P.bld (by rw [hpB.out]; exact hv.out) (hbB.out 0) (by omega) P.lx
                      go_wp2_with fail
                      refine cP.mono ?_
                      rintro e w3 ⟨n, rfl, en, ln, hB3, k3⟩
                      rw [hel.out] at hB3 en
                      have P3 : HR w w3 base b q0 (pB q1 1).1 x y z B (.slice (some ⟨gl, 0, none⟩) Ls.length c) Ls := P.keep k3 hB3
                      have f := P3.blk.free 0
                      have cq := P3.blk.cell (j := 0) (v := .slice x.ad x.l.length x.cap) rfl
                      have PP := P3.set hqz hb0 0 n n y z rfl ln P3.ly P3.lz
                      have hE2 : Hid ((⟨n.l, y.l, z.l⟩ : L3) = (pB q1 1).2) := hide (by
                        have e1 := congrArg L3.a hE.out
                        have e2 := congrArg L3.b hE.out
                        have e3 := congrArg L3.c hE.out
                        simp only at e1 e2 e3
                        simp only [en.out, e2, e3]
                        rfl)
                      clear hE hel km cP P P3 k3 hB3
                      go_wp2
                      go_roundw
                      case rel => exact ⟨1, by omega, rfl, _, _, _, PP, hE2⟩
                      case measure => simp [intOf]
                    · have hel : Hid (y.l = (pB q1 1).2.b) := hide (congrArg L3.b hE.out)
                      have km := P.blk.cell (j := 1) (v := .slice y.ad y.l.length y.cap) rfl
                      have cP := rbRaise_any base b (pB q1 1).1 _ y wr P.bld (by rw [hpB.out]; exact hv.out) (hbB.out 1) (by omega) P.ly
                      go_wp2_with fail
                      refine cP.mono ?_
                      rintro e w3 ⟨n, rfl, en, ln, hB3, k3⟩
                      rw [hel.out] at hB3 en
                      have P3 : HR w w3 base b q0 (pB q1 2).1 x y z B (.slice (some ⟨gl, 0, none⟩) Ls.length c) Ls := P.keep k3 hB3
                      have f := P3.blk.free 1
                      have cq := P3.blk.cell (j := 1) (v := .slice y.ad y.l.length y.cap) rfl
                      have PP := P3.set hqz hb0 1 n x n z rfl P3.lx ln P3.lz
                      have hE2 : Hid ((⟨x.l, n.l, z.l⟩ : L3) = (pB q1 2).2) := hide (by
                        have e1 := congrArg L3.a hE.out
                        have e2 := congrArg L3.b hE.out
                        have e3 := congrArg L3.c hE.out
                        simp only at e1 e2 e3
                        simp only [en.out, e1, e3]
                        rfl)
                      clear hE hel km cP P P3 k3 hB3
                      go_wp2
                      go_roundw
                      case rel => exact ⟨2, by omega, rfl, _, _, _, PP, hE2⟩
                      case measure => simp [intOf]
                    · have hel : Hid (z.l = (pB q1 2).2.c) := hide (congrArg L3.c hE.out)
                      have km := P.blk.cell (j := 2) (v := .slice z.ad z.l.length z.cap) rfl
                      have cP := rbRaise_any base b (pB q1 2).1 _ z wr P.bld (by rw [hpB.out]; exact hv.out) (hbB.out 2) (by omega) P.lz
                      go_wp2_with fail
                      refine cP.mono ?_
                      rintro e w3 ⟨n, rfl, en, ln, hB3, k3⟩
                      rw [hel.out] at hB3 en
                      have P3 : HR w w3 base b q0 (pB q1 3).1 x y z B (.slice (some ⟨gl, 0, none⟩) Ls.length c) Ls := P.keep k3 hB3
                      have f := P3.blk.free 2
                      have cq := P3.blk.cell (j := 2) (v := .slice z.ad z.l.length z.cap) rfl
                      have PP := P3.set hqz hb0 2 n x y n rfl P3.lx P3.ly ln
                      have hE2 : Hid ((⟨x.l, y.l, n.l⟩ : L3) = (pB q1 3).2) := hide (by
                        have e1 := congrArg L3.a hE.out
                        have e2 := congrArg L3.b hE.out
                        have e3 := congrArg L3.c hE.out
                        simp only at e1 e2 e3
                        simp only [en.out, e1, e2]
                        rfl)
                      clear hE hel km cP P P3 k3 hB3
                      go_wp2
                      go_roundw
                      case rel => exact ⟨3, by omega, rfl, _, _, _, PP, hE2⟩
                      case measure => simp [intOf]
                  · obtain rfl : k = 3 := by omega
                    rw [show ((3 : Nat) : Int) = 3 from rfl]
                    rw [hgs.out] at P hE
                    obtain ⟨hTs, hGl⟩ := hTr.out.sub r
                    obtain ⟨⟨S2, s2⟩, hq2⟩ : ∃ q : St × L3, q = gSub r (S1, s) := ⟨_, rfl⟩
                    rw [← hq2] at P hE hTs hGl
                    simp only at P hE hGl
                    have hpp2 : S2.p = p := hTs.pp
                    have hv2 : vld S2.p = true := by rw [hpp2]; exact hv.out
                    have hl2 := hTs.lin
                    simp only at hl2
                    have hco2 : Hid (CoefOk p s2.a ∧ CoefOk p s2.b ∧ CoefOk p s2.c) := hide (by
                      rw [← hpp2]
                      exact ⟨hl2.1.1, hl2.2.1.1, hl2.2.2.1⟩)
                    have hcab : CoefOk p (addL p s2.a s2.b) := by
                      rw [← hpp2]
                      exact (LinIn.add hv2 hl2.1 hl2.2.1).1
                    have hct0 : CoefOk p (gSum3 p s2) := by
                      rw [← hpp2]
                      exact (LinIn.add hv2 (LinIn.add hv2 hl2.1 hl2.2.1) hl2.2.2).1
                    have hQN2 : Hid (QR = (S2, gMix p s2)) := hide (by
                      rw [hnx.out]
                      show ((gSub r (S1, s)).1, gMix (gSub r (S1, s)).1.p (gSub r (S1, s)).2) = _
                      rw [← hq2]
                      show (S2, gMix S2.p s2) = _
                      rw [hpp2])
                    replace hpp2 := hide hpp2
                    replace hv2 := hide hv2
                    replace hq2 := hide hq2
                    replace hct0 := hide hct0
                    replace hcab := hide hcab
                    clear hl2 hTs
                    obtain ⟨wB, hwB⟩ : ∃ wB, wB = wr := ⟨_, rfl⟩
                    subst hwB
                    obtain ⟨gl1, gl2, gl3⟩ := hGl
                    have ea : Hid (x.l = s2.a) := hide (congrArg L3.a hE.out)
                    have eb : Hid (y.l = s2.b) := hide (congrArg L3.b hE.out)
                    have ec : Hid (z.l = s2.c) := hide (congrArg L3.c hE.out)
                    have za : x.l.length ≤ 1 := by rw [ea.out]; exact gl1
                    have zb : y.l.length ≤ 1 := by rw [eb.out]; exact gl2
                    have zc : z.l.length ≤ 1 := by rw [ec.out]; exact gl3
                    go_wp2_with fail
                    refine Rel.region_any Try.mixed fun w7 hb7 => ?_
                    replace P := P.below hb7
                    refine Rel.any_held (fun W => W.cell? ⟨q0, 0, none⟩ = some (.slice x.ad x.l.length x.cap) ∧ W.cell? ⟨q0, 1, none⟩ = some (.slice y.ad y.l.length y.cap) ∧ W.cell? ⟨q0, 2, none⟩ = some (.slice z.ad z.l.length z.cap)) 10 ⟨P.blk.cell (j := 0) rfl, P.blk.cell (j := 1) rfl, P.blk.cell (j := 2) rfl⟩ fun hH0 => ?_
                    refine Rel.heldTake (v := ?_) 0 rfl (by kernel_rfl) (by kernel_rfl) (by kernel_rfl) (fun _ _ _ h => h) (by assumption) (by rfl) ?_ ?_
                    rotate_left
                    · (intro W hSw; (try dsimp only at hSw); go_simp; try with_reducible rfl)
                    try simp only [Act.put, List.setIfInBounds_toArray, List.set_cons_zero, List.set_cons_succ]
                    refine Rel.heldTake (v := ?_) 1 rfl (by kernel_rfl) (by kernel_rfl) (by kernel_rfl) (fun _ _ _ h => h) (by assumption) (by rfl) ?_ ?_
                    rotate_left
                    · (intro W hSw; (try dsimp only at hSw); go_simp; try with_reducible rfl)
                    try simp only [Act.put, List.setIfInBounds_toArray, List.set_cons_zero, List.set_cons_succ]
                    refine Rel.heldTake (v := ?_) 2 rfl (by kernel_rfl) (by kernel_rfl) (by kernel_rfl) (fun _ _ _ h => h) (by assumption) (by rfl) ?_ ?_
                    rotate_left
                    · (intro W hSw; (try dsimp only at hSw); go_simp; try with_reducible rfl)
                    try simp only [Act.put, List.setIfInBounds_toArray, List.set_cons_zero, List.set_cons_succ]
                    refine Rel.heldTake (v := ?_) 3 rfl (by kernel_rfl) (by kernel_rfl) (by kernel_rfl) (fun _ _ _ h => h) (by assumption) (by rfl) ?_ ?_
                    rotate_left
                    · (intro W hSw; (try dsimp only at hSw); go_simp; try with_reducible rfl)
                    try simp only [Act.put, List.setIfInBounds_toArray, List.set_cons_zero, List.set_cons_succ]
                    refine Rel.heldTake (v := ?_) 4 rfl (by kernel_rfl) (by kernel_rfl) (by kernel_rfl) (fun _ _ _ h => h) (by assumption) (by rfl) ?_ ?_
                    rotate_left
                    · (intro W hSw; (try dsimp only at hSw); go_simp; try with_reducible rfl)
                    try simp only [Act.put, List.setIfInBounds_toArray, List.set_cons_zero, List.set_cons_succ]
                    refine Rel.heldTake (v := ?_) 5 rfl (by kernel_rfl) (by kernel_rfl) (by kernel_rfl) (fun _ _ _ h => h) (by assumption) (by rfl) ?_ ?_
                    rotate_left
                    · (intro W hSw; (try dsimp only at hSw); go_simp; try with_reducible rfl)
                    try simp only [Act.put, List.setIfInBounds_toArray, List.set_cons_zero, List.set_cons_succ]
                    refine Rel.heldTake (v := ?_) 7 rfl (by kernel_rfl) (by kernel_rfl) (by kernel_rfl) (fun _ _ _ h => h) (by assumption) (by rfl) ?_ ?_
                    rotate_left
                    · (intro W hSw; (try dsimp only at hSw); go_simp; try with_reducible rfl)
                    try simp only [Act.put, List.setIfInBounds_toArray, List.set_cons_zero, List.set_cons_succ]
                    refine Rel.heldTake (v := ?_) 8 rfl (by kernel_rfl) (by kernel_rfl) (by kernel_rfl) (fun _ _ _ h => h) (by assumption) (by rfl) ?_ ?_
                    rotate_left
                    · (intro W hSw; (try dsimp only at hSw); go_simp; try with_reducible rfl)
                    try simp only [Act.put, List.setIfInBounds_toArray, List.set_cons_zero, List.set_cons_succ]
                    refine Rel.heldNext 6 rfl (by kernel_rfl) fun K hK => ?_
                    go_simp
                    have cA := rAddS_any p x y w7 P.lx.ok P.ly.ok (by omega) (by rw [ea.out]; exact hco2.out.1) (by rw [eb.out]; exact hco2.out.2.1)
                    have eA : addL p x.l y.l = addL p s2.a s2.b := by rw [ea.out, eb.out]
                    have lA := addP_len p x.l y.l 1
                    rw [eA] at cA
                    refine cA.mono ?_
                    rintro e w8 ⟨t8, rfl, et8, lt8, hb8⟩
                    replace P := P.below hb8
                    have zt : t8.l.length ≤ 2 := by rw [et8.out, ← eA]; unfold addL; omega
                    refine hK.out _ _ ⟨P.blk.cell (j := 0) rfl, P.blk.cell (j := 1) rfl, P.blk.cell (j := 2) rfl⟩ (fun hH1 => ?_)
                    clear hK K
                    try simp only [Act.put, List.setIfInBounds_toArray, List.set_cons_zero, List.set_cons_succ]
                    refine Rel.heldNext 9 rfl (by kernel_rfl) fun K hK => ?_
                    go_simp
                    have cA2 := rAddS_any p t8 z w8 lt8.ok P.lz.ok (by omega) (by rw [et8.out]; exact hcab.out) (by rw [ec.out]; exact hco2.out.2.2)
                    have eA2 : addL p t8.l z.l = gSum3 p s2 := by rw [et8.out, ec.out]; rfl
                    have lA2 := addP_len p t8.l z.l 1
                    rw [eA2] at cA2
                    refine cA2.mono ?_
                    rintro e w9 ⟨t, rfl, et, lt, hb9⟩
                    replace P := P.below hb9
                    have htl : Hid (t.l.length ≤ 3) := hide (by rw [et.out, ← eA2]; unfold addL; omega)
                    have hct : Hid (CoefOk p t.l) := hide (by rw [et.out]; exact hct0.out)
                    refine hK.out _ _ ⟨P.blk.cell (j := 0) rfl, P.blk.cell (j := 1) rfl, P.blk.cell (j := 2) rfl⟩ (fun hH2 => ?_)
                    clear hK K
                    try simp only [Act.put, List.setIfInBounds_toArray, List.set_cons_zero, List.set_cons_succ]
                    refine Rel.heldLast 10 rfl (by kernel_rfl) rfl (by kernel_rfl) fun K hK => ?_
                    go_simp
                    refine hK.out _ _ ?_
                    have P0 : HR w w9 base b q0 S2 x y z B (.slice (some ⟨gl, 0, none⟩) Ls.length c) Ls ∧ LinT w9 t := ⟨P, lt⟩
                    have hE5 : Hid ((⟨x.l, y.l, z.l⟩ : L3) = mC p t.l s2 0) := hE
                    clear hK K hH0 hH1 hH2 hE P lt za zb zc zt ea eb ec cA cA2 eA eA2 lA lA2 et8 lt8 hb7 hb8 hb9
                    go_wp2_with fail
                    go_loopw [14] (fun t14 wr => ∃ k : Nat, k ≤ 3 ∧ t14 = .int .i64 k ∧ ∃ x y z : Lc, (HR w wr base b q0 S2 x y z B (.slice (some ⟨gl, 0, none⟩) Ls.length c) Ls ∧ LinT wr t) ∧ Hid ((⟨x.l, y.l, z.l⟩ : L3) = mC p t.l s2 k)) (fun t14 _ => 3 - (intOf t14).toNat)
                    case atStart => exact ⟨0, by omega, rfl, x, y, z, P0, hE5⟩
                    case round =>
                      clear P0 hE5
                      obtain ⟨k, hk, rfl, x, y, z, ⟨P, lt⟩, hE⟩ := hrel
                      by_cases hlt3 : k < 3
                      · obtain rfl | rfl | rfl : k = 0 ∨ k = 1 ∨ k = 2 := by omega
                        · have hel : Hid (x.l = s2.a) := hide (congrArg L3.a hE.out)
                          have hsl : x.l.length ≤ 1 := by rw [hel.out]; exact gl1
                          have km := P.blk.cell (j := 0) (v := .slice x.ad x.l.length x.cap) rfl
                          have cA := rAddS_any p x t wr P.lx.ok lt.ok (by have := htl.out; omega) (by rw [hel.out]; exact hco2.out.1) hct.out
                          have eA : addL p x.l t.l = addL p s2.a t.l := by rw [hel.out]
                          rw [eA] at cA
                          go_wp2_with fail
                          refine cA.mono ?_
                          rintro e w3 ⟨n, rfl, en, ln, hb3⟩
                          have P3 := P.below hb3
                          have f := P3.blk.free 0
                          have cq := P3.blk.cell (j := 0) (v := .slice x.ad x.l.length x.cap) rfl
                          have PP := P3.set hqz hb0 0 n n y z rfl ln P3.ly P3.lz
                          have lt2 : LinT (w3.setCell ⟨q0, 0, none⟩ (lcV n)) t := (lt.mono hb3).setType P3.blk (by decide)
                          have hE2 : Hid ((⟨n.l, y.l, z.l⟩ : L3) = mC p t.l s2 1) := hide (by
                            have e1 := congrArg L3.a hE.out
                            have e2 := congrArg L3.b hE.out
                            have e3 := congrArg L3.c hE.out
                            simp only [mC] at e1 e2 e3 ⊢
                            simp [en.out, e2, e3])
                          clear hE hel km cA eA P P3 lt hb3 en
                          go_wp2
                          go_roundw
                          case rel => exact ⟨1, by omega, rfl, _, _, _, ⟨PP, lt2⟩, hE2⟩
                          case measure => simp [intOf]
                        · have hel : Hid (y.l = s2.b) := hide (congrArg L3.b hE.out)
                          have hsl : y.l.length ≤ 1 := by rw [hel.out]; exact gl2
                          have km := P.blk.cell (j := 1) (v := .slice y.ad y.l.length y.cap) rfl
                          have cA := rAddS_any p y t wr P.ly.ok lt.ok (by have := htl.out; omega) (by rw [hel.out]; exact hco2.out.2.1) hct.out
                          have eA : addL p y.l t.l = addL p s2.b t.l := by rw [hel.out]
                          rw [eA] at cA
                          go_wp2_with fail
                          refine cA.mono ?_
                          rintro e w3 ⟨n, rfl, en, ln, hb3⟩
                          have P3 := P.below hb3
                          have f := P3.blk.free 1
                          have cq := P3.blk.cell (j := 1) (v := .slice y.ad y.l.length y.cap) rfl
                          have PP := P3.set hqz hb0 1 n x n z rfl P3.lx ln P3.lz
                          have lt2 : LinT (w3.setCell ⟨q0, 1, none⟩ (lcV n)) t := (lt.mono hb3).setType P3.blk (by decide)
                          have hE2 : Hid ((⟨x.l, n.l, z.l⟩ : L3) = mC p t.l s2 2) := hide (by
                            have e1 := congrArg L3.a hE.out
                            have e2 := congrArg L3.b hE.out
                            have e3 := congrArg L3.c hE.out
                            simp only [mC] at e1 e2 e3 ⊢
                            simp [en.out, e1, e3])
                          clear hE hel km cA eA P P3 lt hb3 en
                          go_wp2
                          go_roundw
                          case rel => exact ⟨2, by omega, rfl, _, _, _, ⟨PP, lt2⟩, hE2⟩
                          case measure => simp [intOf]
                        · have hel : Hid (z.l = s2.c) := hide (congrArg L3.c hE.out)
                          have hsl : z.l.length ≤ 1 := by rw [hel.out]; exact gl3
                          have km := P.blk.cell (j := 2) (v := .slice z.ad z.l.length z.cap) rfl
                          have cA := rAddS_any p z t wr P.lz.ok lt.ok (by have := htl.out; omega) (by rw [hel.out]; exact hco2.out.2.2) hct.out
                          have eA : addL p z.l t.l = addL p s2.c t.l := by rw [hel.out]
                          rw [eA] at cA
                          go_wp2_with fail
                          refine cA.mono ?_
                          rintro e w3 ⟨n, rfl, en, ln, hb3⟩
                          have P3 := P.below hb3
                          have f := P3.blk.free 2
                          have cq := P3.blk.cell (j := 2) (v := .slice z.ad z.l.length z.cap) rfl
                          have PP := P3.set hqz hb0 2 n x y n rfl P3.lx P3.ly ln
                          have lt2 : LinT (w3.setCell ⟨q0, 2, none⟩ (lcV n)) t := (lt.mono hb3).setType P3.blk (by decide)
                          have hE2 : Hid ((⟨x.l, y.l, n.l⟩ : L3) = mC p t.l s2 3) := hide (by
                            have e1 := congrArg L3.a hE.out
                            have e2 := congrArg L3.b hE.out
                            have e3 := congrArg L3.c hE.out
                            simp only [mC] at e1 e2 e3 ⊢
                            simp [en.out, e1, e2])
                          clear hE hel km cA eA P P3 lt hb3 en
                          go_wp2
                          go_roundw
                          case rel => exact ⟨3, by omega, rfl, _, _, _, ⟨PP, lt2⟩, hE2⟩
                          case measure => simp [intOf]
                      · obtain rfl : k = 3 := by omega
                        have hE6 : Hid ((⟨x.l, y.l, z.l⟩ : L3) = gMix p s2) := hide (by rw [hE.out, et.out]; rfl)
                        have PN : HR w wr base b q0 QR.1 x y z B (.slice (some ⟨gl, 0, none⟩) Ls.length c) Ls := by rw [hQN2.out]; exact P
                        have EN : Hid ((⟨x.l, y.l, z.l⟩ : L3) = QR.2) := by rw [hQN2.out]; exact hE6
                        clear P hE hE6 lt
                        go_wp2
                        go_roundw
                        case rel => exact ⟨r + 1, by omega, by go_num, x, y, z, by rw [← hQR.out]; exact PN, by rw [← hQR.out]; exact EN⟩
                        case measure => simp [intOf]; omega
          · obtain rfl : r = 8 := by omega
            have HN : HR w wr base b q0 (gHashN p VL (m + 1) Q).1 x y z B (.slice (some ⟨gl, 0, none⟩) Ls.length c) Ls := by rw [hQN.out]; exact P
            have EN : Hid ((⟨x.l, y.l, z.l⟩ : L3) = (gHashN p VL (m + 1) Q).2) := by rw [hQN.out]; exact hE
            clear P hE
            go_wp2
            go_roundw
            case rel => exact ⟨m + 1, i + 2, by omega, hide (by have := hi.out; omega), by go_num, x, y, z, HN, EN⟩
            case measure => simp [intOf]; have := hi.out; omega
      · as_aux_lemma =>
        have hi0 : ((i : Int) == 0) = false := by have := hi.out; simp; omega
        have hin0 : i < Ls.length := by have := hi.out; have := hcase.out; omega
        have hin0i : (i : Int) < Ls.length := by omega
        have hin1 : i + 1 < Ls.length := by have := hi.out; omega
        have hin1i : (i : Int) + 1 < Ls.length := by omega
        have hti : ((i : Int) + 1).toNat = i + 1 := by omega
        have hwi : IntKind.i64.wrap ((i : Int) + 1) = (i : Int) + 1 := by rw [IntKind.wrap_i64]; omega
        have hnn : (0 : Int) ≤ (i : Int) + 1 := by omega
        replace hc1 := hide hc1
        replace hc2 := hide hc2
        rcases H.ow.form with ⟨_, h0⟩ | ⟨gl, cap, cur, e4, _⟩
        · exfalso; rw [h0] at hin0; simp at hin0
        obtain rfl : ad = some ⟨gl, 0, none⟩ := by injection e4
        have hin2 : i < Ls.length := by omega
        have he := H.ow.cellE (i := i) (j := 0) default hin2 (by decide) rfl
        rw [show i * lcL.m + 0 = i from by show i * 1 + 0 = i; omega] at he
        have lu := H.ls _ (getD_mem' hin2 default)
        obtain ⟨hul, hu2, hu3⟩ := hVg.out _ hin2
        generalize Ls.getD i default = u at *
        replace hul := hide hul
        have lu2 : u.l.length ≤ 20000 := by rw [hul.out]; exact hu2
        have he' : World.cell? _ ⟨gl, i, none⟩ = some (.slice u.ad u.l.length u.cap) := he
        clear he hu2
        go_wp2_with fail
        refine Rel.region_any Try.mixed fun w7 hb7 => ?_
        have he7 := cell_below hb7 he'
        replace H := H.below hb7
        replace lu := lu.mono hb7
        refine Rel.any_held (fun W => W.cell? ⟨q0, 0, none⟩ = some (.slice x.ad x.l.length x.cap) ∧ W.cell? ⟨gl, i, none⟩ = some (.slice u.ad u.l.length u.cap)) 9 ⟨H.blk.cell (j := 0) rfl, he7⟩ fun hH0 => ?_
        refine Rel.heldTake (v := ?_) 0 rfl (by kernel_rfl) (by kernel_rfl) (by kernel_rfl) (fun _ _ _ h => h) (by assumption) (by rfl) ?_ ?_
        rotate_left
        · (intro W hSw; (try dsimp only at hSw); go_simp; try with_reducible rfl)
        try simp only [Act.put, List.setIfInBounds_toArray, List.set_cons_zero, List.set_cons_succ]
        refine Rel.heldTake (v := ?_) 1 rfl (by kernel_rfl) (by kernel_rfl) (by kernel_rfl) (fun _ _ _ h => h) (by assumption) (by rfl) ?_ ?_
        rotate_left
        · (intro W hSw; (try dsimp only at hSw); go_simp; try with_reducible rfl)
        try simp only [Act.put, List.setIfInBounds_toArray, List.set_cons_zero, List.set_cons_succ]
        refine Rel.heldTake (v := ?_) 2 rfl (by kernel_rfl) (by kernel_rfl) (by kernel_rfl) (fun _ _ _ h => h) (by assumption) (by rfl) ?_ ?_
        rotate_left
        · (intro W hSw; (try dsimp only at hSw); go_simp; try with_reducible rfl)
        try simp only [Act.put, List.setIfInBounds_toArray, List.set_cons_zero, List.set_cons_succ]
        refine Rel.heldTake (v := ?_) 3 rfl (by kernel_rfl) (by kernel_rfl) (by kernel_rfl) (fun _ _ _ h => h) (by assumption) (by rfl) ?_ ?_
        rotate_left
        · (intro W hSw; (try dsimp only at hSw); go_simp; try with_reducible rfl)
        try simp only [Act.put, List.setIfInBounds_toArray, List.set_cons_zero, List.set_cons_succ]
        refine Rel.heldTake (v := ?_) 4 rfl (by kernel_rfl) (by kernel_rfl) (by kernel_rfl) (fun _ _ _ h => h) (by assumption) (by rfl) ?_ ?_
        rotate_left
        · (intro W hSw; (try dsimp only at hSw); go_simp; try with_reducible rfl)
        try simp only [Act.put, List.setIfInBounds_toArray, List.set_cons_zero, List.set_cons_succ]
        refine Rel.heldTake (v := ?_) 5 rfl (by kernel_rfl) (by kernel_rfl) (by kernel_rfl) (fun _ _ _ h => h) (by assumption) (by rfl) ?_ ?_
        rotate_left
        · (intro W hSw; (try dsimp only at hSw); go_simp; try with_reducible rfl)
        try simp only [Act.put, List.setIfInBounds_toArray, List.set_cons_zero, List.set_cons_succ]
        refine Rel.heldTake (v := ?_) 6 rfl (by kernel_rfl) (by kernel_rfl) (by kernel_rfl) (fun _ _ _ h => h) (by assumption) (by rfl) ?_ ?_
        rotate_left
        · (intro W hSw; (try dsimp only at hSw); go_simp; try with_reducible rfl)
        try simp only [Act.put, List.setIfInBounds_toArray, List.set_cons_zero, List.set_cons_succ]
        refine Rel.heldNext 7 rfl (by kernel_rfl) fun K hK => ?_
        go_simp
        have cA := rAddS_any p x u w7 H.lx.ok lu.ok (by omega) (by rw [ea.out]; exact ca) (by rw [hul.out]; exact hu3)
        have eA : addL p x.l u.l = addL p s.a (VL.getD i []) := by rw [ea.out, hul.out]
        rw [eA] at cA
        refine cA.mono ?_
        rintro e w8 ⟨n0, rfl, en, ln, hb8⟩
        have H8 := H.below hb8
        refine hK.out _ _ ⟨H8.blk.cell (j := 0) rfl, cell_below hb8 he7⟩ (fun hH1 => ?_)
        clear hK K
        try simp only [Act.put, List.setIfInBounds_toArray, List.set_cons_zero, List.set_cons_succ]
        refine Rel.heldTake (v := ?_) 8 rfl (by kernel_rfl) (by kernel_rfl) (by kernel_rfl) (fun _ _ _ h => h) (by assumption) (by rfl) ?_ ?_
        rotate_left
        · (intro W hSw; (try dsimp only at hSw); go_simp; try with_reducible rfl)
        try simp only [Act.put, List.setIfInBounds_toArray, List.set_cons_zero, List.set_cons_succ]
        have f := H8.blk.free 0
        have cq := H8.blk.cell (j := 0) (v := .slice x.ad x.l.length x.cap) rfl
        refine Rel.heldLast 9 rfl (by kernel_rfl) rfl (by kernel_rfl) fun K hK => ?_
        go_simp
        refine hK.out _ _ ?_
        have HH := H8.set hqz hb0 0 n0 n0 y z rfl ln H8.ly H8.lz
        have e0 : Hid (n0.l = addL p s.a (VL.getD i [])) := en
        clear hK K hH0 hH1 f cq H H8 cA eA lu hul lu2 hu3 he' he7 en hb7 hb8
        replace H := HH
        clear HH
        have hin2 : (i + 1) < Ls.length := by omega
        have he := H.ow.cellE (i := (i + 1)) (j := 0) default hin2 (by decide) rfl
        rw [show (i + 1) * lcL.m + 0 = (i + 1) from by show (i + 1) * 1 + 0 = (i + 1); omega] at he
        have lu := H.ls _ (getD_mem' hin2 default)
        obtain ⟨hul, hu2, hu3⟩ := hVg.out _ hin2
        generalize Ls.getD (i + 1) default = u at *
        replace hul := hide hul
        have lu2 : u.l.length ≤ 20000 := by rw [hul.out]; exact hu2
        have he' : World.cell? _ ⟨gl, (i + 1), none⟩ = some (.slice u.ad u.l.length u.cap) := he
        clear he hu2
        go_wp2_with fail
        refine Rel.region_any Try.mixed fun w7 hb7 => ?_
        have he7 := cell_below hb7 he'
        replace H := H.below hb7
        replace lu := lu.mono hb7
        refine Rel.any_held (fun W => W.cell? ⟨q0, 1, none⟩ = some (.slice y.ad y.l.length y.cap) ∧ W.cell? ⟨gl, (i + 1), none⟩ = some (.slice u.ad u.l.length u.cap)) 10 ⟨H.blk.cell (j := 1) rfl, he7⟩ fun hH0 => ?_
        refine Rel.heldTake (v := ?_) 0 rfl (by kernel_rfl) (by kernel_rfl) (by kernel_rfl) (fun _ _ _ h => h) (by assumption) (by rfl) ?_ ?_
        rotate_left
        · (intro W hSw; (try dsimp only at hSw); go_simp; try with_reducible rfl)
        try simp only [Act.put, List.setIfInBounds_toArray, List.set_cons_zero, List.set_cons_succ]
        refine Rel.heldTake (v := ?_) 1 rfl (by kernel_rfl) (by kernel_rfl) (by kernel_rfl) (fun _ _ _ h => h) (by assumption) (by rfl) ?_ ?_
        rotate_left
        · (intro W hSw; (try dsimp only at hSw); go_simp; try with_reducible rfl)
        try simp only [Act.put, List.setIfInBounds_toArray, List.set_cons_zero, List.set_cons_succ]
        refine Rel.heldTake (v := ?_) 2 rfl (by kernel_rfl) (by kernel_rfl) (by kernel_rfl) (fun _ _ _ h => h) (by assumption) (by rfl) ?_ ?_
        rotate_left
        · (intro W hSw; (try dsimp only at hSw); go_simp; try with_reducible rfl)
        try simp only [Act.put, List.setIfInBounds_toArray, List.set_cons_zero, List.set_cons_succ]
        refine Rel.heldTake (v := ?_) 3 rfl (by kernel_rfl) (by kernel_rfl) (by kernel_rfl) (fun _ _ _ h => h) (by assumption) (by rfl) ?_ ?_
        rotate_left
        · (intro W hSw; (try dsimp only at hSw); go_simp; try with_reducible rfl)
        try simp only [Act.put, List.setIfInBounds_toArray, List.set_cons_zero, List.set_cons_succ]
        refine Rel.heldTake (v := ?_) 4 rfl (by kernel_rfl) (by kernel_rfl) (by kernel_rfl) (fun _ _ _ h => h) (by assumption) (by rfl) ?_ ?_
        rotate_left
        · (intro W hSw; (try dsimp only at hSw); go_simp; try with_reducible rfl)
        try simp only [Act.put, List.setIfInBounds_toArray, List.set_cons_zero, List.set_cons_succ]
        refine Rel.heldTake (v := ?_) 5 rfl (by kernel_rfl) (by kernel_rfl) (by kernel_rfl) (fun _ _ _ h => h) (by assumption) (by rfl) ?_ ?_
        rotate_left
        · (intro W hSw; (try dsimp only at hSw); go_simp; try with_reducible rfl)
        try simp only [Act.put, List.setIfInBounds_toArray, List.set_cons_zero, List.set_cons_succ]
        refine Rel.heldTake (v := ?_) 6 rfl (by kernel_rfl) (by kernel_rfl) (by kernel_rfl) (fun _ _ _ h => h) (by assumption) (by rfl) ?_ ?_
        rotate_left
        · (intro W hSw; (try dsimp only at hSw); go_simp; try with_reducible rfl)
        try simp only [Act.put, List.setIfInBounds_toArray, List.set_cons_zero, List.set_cons_succ]
        refine Rel.heldTake (v := ?_) 7 rfl (by kernel_rfl) (by kernel_rfl) (by kernel_rfl) (fun _ _ _ h => h) (by assumption) (by rfl) ?_ ?_
        rotate_left
        · (intro W hSw; (try dsimp only at hSw); go_simp; try with_reducible rfl)
        try simp only [Act.put, List.setIfInBounds_toArray, List.set_cons_zero, List.set_cons_succ]
        refine Rel.heldNext 8 rfl (by kernel_rfl) fun K hK => ?_
        go_simp
        have cA := rAddS_any p y u w7 H.ly.ok lu.ok (by omega) (by rw [eb.out]; exact cb) (by rw [hul.out]; exact hu3)
        have eA : addL p y.l u.l = addL p s.b (VL.getD (i + 1) []) := by rw [eb.out, hul.out]
        rw [eA] at cA
        refine cA.mono ?_
        rintro e w8 ⟨n1, rfl, en, ln, hb8⟩
        have H8 := H.below hb8
        refine hK.out _ _ ⟨H8.blk.cell (j := 1) rfl, cell_below hb8 he7⟩ (fun hH1 => ?_)
        clear hK K
        try simp only [Act.put, List.setIfInBounds_toArray, List.set_cons_zero, List.set_cons_succ]
        refine Rel.heldTake (v := ?_) 9 rfl (by kernel_rfl) (by kernel_rfl) (by kernel_rfl) (fun _ _ _ h => h) (by assumption) (by rfl) ?_ ?_
        rotate_left
        · (intro W hSw; (try dsimp only at hSw); go_simp; try with_reducible rfl)
        try simp only [Act.put, List.setIfInBounds_toArray, List.set_cons_zero, List.set_cons_succ]
        have f := H8.blk.free 1
        have cq := H8.blk.cell (j := 1) (v := .slice y.ad y.l.length y.cap) rfl
        refine Rel.heldLast 10 rfl (by kernel_rfl) rfl (by kernel_rfl) fun K hK => ?_
        go_simp
        refine hK.out _ _ ?_
        have HH := H8.set hqz hb0 1 n1 n0 n1 z rfl H8.lx ln H8.lz
        have e1 : Hid (n1.l = addL p s.b (VL.getD (i + 1) [])) := en
        clear hK K hH0 hH1 f cq H H8 cA eA lu hul lu2 hu3 he' he7 en hb7 hb8
        replace H := HH
        clear HH
        clear hti hwi hnn
        have E1 : Hid ((⟨n0.l, n1.l, z.l⟩ : L3) = (TT p VL Q m 0).2) := hide (by
          rw [hQ0.out]
          show _ = gAbs p VL i 2 s
          have hvl := hVl.out
          have hi9 := hi.out
          unfold gAbs
          rw [if_pos ⟨by decide, by omega⟩, if_pos ⟨by decide, by omega⟩, e0.out, e1.out, show z.l = s.c from congrArg L3.c hE.out])
        have eT0 : (TT p VL Q m 0).1 = S1 := by rw [hQ0.out]
        have H1 := H
        rw [← eT0] at H1
        replace eT0 := hide eT0
        clear H hE ea eb ca cb lx0 ly0 hpp hq e0 e1
        replace hv := hide hv
        go_wp2_with fail
        obtain ⟨wO, hwO⟩ : ∃ wO, wO = wr := ⟨_, rfl⟩
        subst hwO
        go_loopw [10] (fun t10 wr => ∃ r : Nat, r ≤ 8 ∧ t10 = .int .i64 r ∧ ∃ x y z : Lc, HR w wr base b q0 (TT p VL Q m r).1 x y z B (.slice (some ⟨gl, 0, none⟩) Ls.length c) Ls ∧ Hid ((⟨x.l, y.l, z.l⟩ : L3) = (TT p VL Q m r).2)) (fun t10 _ => 8 - (intOf t10).toNat)
        case atStart => exact ⟨0, by omega, rfl, n0, n1, z, H1, E1⟩
        case round =>
          clear H1 E1
          obtain ⟨r, hr, rfl, x, y, z, P, hE⟩ := hrel
          by_cases hlt8 : r < 8
          · have hlt8' : (r : Int) < 8 := by omega
            have hTr := hTm.out r
            have hnx : Hid (TT p VL Q m (r + 1) = gRound r (TT p VL Q m r)) := hide rfl
            obtain ⟨QR, hQR⟩ : ∃ QR, QR = TT p VL Q m (r + 1) := ⟨_, rfl⟩
            rw [← hQR] at hnx
            replace hQR := hide hQR
            obtain ⟨⟨S1, s⟩, hq⟩ : ∃ q : St × L3, q = TT p VL Q m r := ⟨_, rfl⟩
            rw [← hq] at hTr hnx P hE
            simp only at P hE
            have hS1 : Hid (S1.p = p) := hide hTr.pp
            have hS2 : Bd S1 (N + 192 * m + 24 * r) := hTr.bd
            have hS3 : Hid (Sm3 30000 s) := hide hTr.sm
            have hco : Hid (CoefOk p s.a ∧ CoefOk p s.b ∧ CoefOk p s.c) := hide (by
              have h1 := hTr.lin
              have h2 : S1.p = p := hTr.pp
              rw [← h2]
              exact ⟨h1.1.1, h1.2.1.1, h1.2.2.1⟩)
            replace hTr := hide hTr
            replace hq := hide hq
            have hE' : Hid ((⟨x.l, y.l, z.l⟩ : L3) = kA p r s 0) := hE
            go_wp2_with fail
            obtain ⟨wP, hwP⟩ : ∃ wP, wP = wr := ⟨_, rfl⟩
            subst hwP
            go_loopw [11] (fun t11 wr => ∃ k : Nat, k ≤ 3 ∧ t11 = .int .i64 k ∧ ∃ x y z : Lc, HR w wr base b q0 S1 x y z B (.slice (some ⟨gl, 0, none⟩) Ls.length c) Ls ∧ Hid ((⟨x.l, y.l, z.l⟩ : L3) = kA p r s k)) (fun t11 _ => 3 - (intOf t11).toNat)
            case atStart => exact ⟨0, by omega, rfl, x, y, z, P, hE'⟩
            case round =>
              clear P hE hE'
              obtain ⟨k, hk, rfl, x, y, z, P, hE⟩ := hrel
              by_cases hlt3 : k < 3
              · obtain rfl | rfl | rfl : k = 0 ∨ k = 1 ∨ k = 2 := by omega
                · have hel : Hid (x.l = s.a) := hide (by have := congrArg L3.a hE.out; exact this)
                  have hsl : x.l.length ≤ 30000 := by rw [hel.out]; have := hS3.out; unfold Sm3 at this; omega
                  have cK := fun W => rConstant_any p r 0 W
                  have kb := fconst_bd p r 0
                  obtain ⟨kc, hkc⟩ : ∃ kc, kc = fconst p r 0 := ⟨_, rfl⟩
                  rw [← hkc] at cK kb
                  have hkon : Hid (addL p s.a (keepT (0, fred p kc)) = gKon p r 0 s.a) := hide (by rw [hkc]; rfl)
                  replace hkc := hide hkc
                  go_wp2_with fail
                  refine Rel.region_any Try.mixed fun w7 hb7 => ?_
                  replace P := P.below hb7
                  refine Rel.any_held (fun W => W.cell? ⟨q0, 0, none⟩ = some (.slice x.ad x.l.length x.cap)) 13 (P.blk.cell (j := 0) rfl) fun hH0 => ?_
                  refine Rel.heldTake (v := ?_) 0 rfl (by kernel_rfl) (by kernel_rfl) (by kernel_rfl) (fun _ _ _ h => h) (by assumption) (by rfl) ?_ ?_
                  rotate_left
                  · (intro W hSw; (try dsimp only at hSw); go_simp; try with_reducible rfl)
                  try simp only [Act.put, List.setIfInBounds_toArray, List.set_cons_zero, List.set_cons_succ]
                  refine Rel.heldTake (v := ?_) 1 rfl (by kernel_rfl) (by kernel_rfl) (by kernel_rfl) (fun _ _ _ h => h) (by assumption) (by rfl) ?_ ?_
                  rotate_left
                  · (intro W hSw; (try dsimp only at hSw); go_simp; try with_reducible rfl)
                  try simp only [Act.put, List.setIfInBounds_toArray, List.set_cons_zero, List.set_cons_succ]
                  refine Rel.heldTake (v := ?_) 2 rfl (by kernel_rfl) (by kernel_rfl) (by kernel_rfl) (fun _ _ _ h => h) (by assumption) (by rfl) ?_ ?_
                  rotate_left
                  · (intro W hSw; (try dsimp only at hSw); go_simp; try with_reducible rfl)
                  try simp only [Act.put, List.setIfInBounds_toArray, List.set_cons_zero, List.set_cons_succ]
                  refine Rel.heldTake (v := ?_) 3 rfl (by kernel_rfl) (by kernel_rfl) (by kernel_rfl) (fun _ _ _ h => h) (by assumption) (by rfl) ?_ ?_
                  rotate_left
                  · (intro W hSw; (try dsimp only at hSw); go_simp; try with_reducible rfl)
                  try simp only [Act.put, List.setIfInBounds_toArray, List.set_cons_zero, List.set_cons_succ]
                  refine Rel.heldTake (v := ?_) 4 rfl (by kernel_rfl) (by kernel_rfl) (by kernel_rfl) (fun _ _ _ h => h) (by assumption) (by rfl) ?_ ?_
                  rotate_left
                  · (intro W hSw; (try dsimp only at hSw); go_simp; try with_reducible rfl)
                  try simp only [Act.put, List.setIfInBounds_toArray, List.set_cons_zero, List.set_cons_succ]
                  refine Rel.heldTake (v := ?_) 5 rfl (by kernel_rfl) (by kernel_rfl) (by kernel_rfl) (fun _ _ _ h => h) (by assumption) (by rfl) ?_ ?_
                  rotate_left
                  · (intro W hSw; (try dsimp only at hSw); go_simp; try with_reducible rfl)
                  try simp only [Act.put, List.setIfInBounds_toArray, List.set_cons_zero, List.set_cons_succ]
                  refine Rel.heldTake (v := ?_) 6 rfl (by kernel_rfl) (by kernel_rfl) (by kernel_rfl) (fun _ _ _ h => h) (by assumption) (by rfl) ?_ ?_
                  rotate_left
                  · (intro W hSw; (try dsimp only at hSw); go_simp; try with_reducible rfl)
                  try simp only [Act.put, List.setIfInBounds_toArray, List.set_cons_zero, List.set_cons_succ]
                  refine Rel.heldTake (v := ?_) 7 rfl (by kernel_rfl) (by kernel_rfl) (by kernel_rfl) (fun _ _ _ h => h) (by assumption) (by rfl) ?_ ?_
                  rotate_left
                  · (intro W hSw; (try dsimp only at hSw); go_simp; try with_reducible rfl)
                  try simp only [Act.put, List.setIfInBounds_toArray, List.set_cons_zero, List.set_cons_succ]
                  refine Rel.heldTake (v := ?_) 8 rfl (by kernel_rfl) (by kernel_rfl) (by kernel_rfl) (fun _ _ _ h => h) (by assumption) (by rfl) ?_ ?_
                  rotate_left
                  · (intro W hSw; (try dsimp only at hSw); go_simp; try with_reducible rfl)
                  try simp only [Act.put, List.setIfInBounds_toArray, List.set_cons_zero, List.set_cons_succ]
                  refine Rel.heldNext 9 rfl (by kernel_rfl) fun K hK => ?_
                  go_simp
                  refine (cK _).mono ?_
                  rintro e w8 ⟨rfl, hb8⟩
                  replace P := P.below hb8
                  refine hK.out _ _ (P.blk.cell (j := 0) rfl) (fun hH1 => ?_)
                  clear hK K
                  try simp only [Act.put, List.setIfInBounds_toArray, List.set_cons_zero, List.set_cons_succ]
                  refine Rel.heldNext 10 rfl (by kernel_rfl) fun K hK => ?_
                  go_simp
                  refine (rConstant20_any p kc w8 kb).mono ?_
                  rintro e w9 ⟨tk, rfl, ek, lk, hb9⟩
                  replace P := P.below hb9
                  have lk1 : tk.l.length ≤ 1 := by rw [ek.out]; exact keepT_len _
                  refine hK.out _ _ (P.blk.cell (j := 0) rfl) (fun hH2 => ?_)
                  clear hK K
                  try simp only [Act.put, List.setIfInBounds_toArray, List.set_cons_zero, List.set_cons_succ]
                  refine Rel.heldNext 11 rfl (by kernel_rfl) fun K hK => ?_
                  go_simp
                  have cA := rAddS_any p x tk w9 P.lx.ok lk.ok (by omega) (by rw [hel.out]; exact hco.out.1) (by rw [ek.out]; exact (cst_in (hi := 1) hv.out _ (by decide)).1)
                  have eA : addL p x.l tk.l = gKon p r 0 s.a := by rw [← hkon.out, hel.out, ek.out]
                  rw [eA] at cA
                  refine cA.mono ?_
                  rintro e w10 ⟨n, rfl, en, ln, hb10⟩
                  replace P := P.below hb10
                  refine hK.out _ _ (P.blk.cell (j := 0) rfl) (fun hH3 => ?_)
                  clear hK K
                  try simp only [Act.put, List.setIfInBounds_toArray, List.set_cons_zero, List.set_cons_succ]
                  refine Rel.heldTake (v := ?_) 12 rfl (by kernel_rfl) (by kernel_rfl) (by kernel_rfl) (fun _ _ _ h => h) (by assumption) (by rfl) ?_ ?_
                  rotate_left
                  · (intro W hSw; (try dsimp only at hSw); go_simp; try with_reducible rfl)
                  try simp only [Act.put, List.setIfInBounds_toArray, List.set_cons_zero, List.set_cons_succ]
                  have f := P.blk.free 0
                  have cq := P.blk.cell (j := 0) (v := .slice x.ad x.l.length x.cap) rfl
                  refine Rel.heldLast 13 rfl (by kernel_rfl) rfl (by kernel_rfl) fun K hK => ?_
                  go_simp
                  refine hK.out _ _ ?_
                  have PP := P.set hqz hb0 0 n n y z rfl ln P.ly P.lz
                  have hE2 : Hid ((⟨n.l, y.l, z.l⟩ : L3) = kA p r s 1) := hide (by
                    have e1 := congrArg L3.a hE.out
                    have e2 := congrArg L3.b hE.out
                    have e3 := congrArg L3.c hE.out
                    simp only [kA] at e1 e2 e3 ⊢
                    simp [en.out, e2, e3])
                  clear hK K hH0 hH1 hH2 hH3 f cq P hE hel cA eA en lk ek
                  go_wp2
                  go_roundw
                  case rel => exact ⟨1, by omega, rfl, _, _, _, PP, hE2⟩
                  case measure => simp [intOf]
                · have hel : Hid (y.l = s.b) := hide (by have := congrArg L3.b hE.out; exact this)
                  have hsl : y.l.length ≤ 30000 := by rw [hel.out]; have := hS3.out; unfold Sm3 at this; omega
                  have cK := fun W => rConstant_any p r 1 W
                  have kb := fconst_bd p r 1
                  obtain ⟨kc, hkc⟩ : ∃ kc, kc = fconst p r 1 := ⟨_, rfl⟩
                  rw [← hkc] at cK kb
                  have hkon : Hid (addL p s.b (keepT (0, fred p kc)) = gKon p r 1 s.b) := hide (by rw [hkc]; rfl)
                  replace hkc := hide hkc
                  go_wp2_with fail
                  refine Rel.region_any Try.mixed fun w7 hb7 => ?_
                  replace P := P.below hb7
                  refine Rel.any_held (fun W => W.cell? ⟨q0, 1, none⟩ = some (.slice y.ad y.l.length y.cap)) 13 (P.blk.cell (j := 1) rfl) fun hH0 => ?_
                  refine Rel.heldTake (v := ?_) 0 rfl (by kernel_rfl) (by kernel_rfl) (by kernel_rfl) (fun _ _ _ h => h) (by assumption) (by rfl) ?_ ?_
                  rotate_left
                  · (intro W hSw; (try dsimp only at hSw); go_simp; try with_reducible rfl)
                  try simp only [Act.put, List.setIfInBounds_toArray, List.set_cons_zero, List.set_cons_succ]
                  refine Rel.heldTake (v := ?_) 1 rfl (by kernel_rfl) (by kernel_rfl) (by kernel_rfl) (fun _ _ _ h => h) (by assumption) (by rfl) ?_ ?_
                  rotate_left
                  · (intro W hSw; (try dsimp only at hSw); go_simp; try with_reducible rfl)
                  try simp only [Act.put, List.setIfInBounds_toArray, List.set_cons_zero, List.set_cons_succ]
                  refine Rel.heldTake (v := ?_) 2 rfl (by kernel_rfl) (by kernel_rfl) (by kernel_rfl) (fun _ _ _ h => h) (by assumption) (by rfl) ?_ ?_
                  rotate_left
                  · (intro W hSw; (try dsimp only at hSw); go_simp; try with_reducible rfl)
                  try simp only [Act.put, List.setIfInBounds_toArray, List.set_cons_zero, List.set_cons_succ]
                  refine Rel.heldTake (v := ?_) 3 rfl (by kernel_rfl) (by kernel_rfl) (by kernel_rfl) (fun _ _ _ h => h) (by assumption) (by rfl) ?_ ?_
                  rotate_left
                  · (intro W hSw; (try dsimp only at hSw); go_simp; try with_reducible rfl)
                  try simp only [Act.put, List.setIfInBounds_toArray, List.set_cons_zero, List.set_cons_succ]
                  refine Rel.heldTake (v := ?_) 4 rfl (by kernel_rfl) (by kernel_rfl) (by kernel_rfl) (fun _ _ _ h => h) (by assumption) (by rfl) ?_ ?_
                  rotate_left
                  · (intro W hSw; (try dsimp only at hSw); go_simp; try with_reducible rfl)
                  try simp only [Act.put, List.setIfInBounds_toArray, List.set_cons_zero, List.set_cons_succ]
                  refine Rel.heldTake (v := ?_) 5 rfl (by kernel_rfl) (by kernel_rfl) (by kernel_rfl) (fun _ _ _ h => h) (by assumption) (by rfl) ?_ ?_
                  rotate_left
                  · (intro W hSw; (try dsimp only at hSw); go_simp; try with_reducible rfl)
                  try simp only [Act.put, List.setIfInBounds_toArray, List.set_cons_zero, List.set_cons_succ]
                  refine Rel.heldTake (v := ?_) 6 rfl (by kernel_rfl) (by kernel_rfl) (by kernel_rfl) (fun _ _ _ h => h) (by assumption) (by rfl) ?_ ?_
                  rotate_left
                  · (intro W hSw; (try dsimp only at hSw); go_simp; try with_reducible rfl)
                  try simp only [Act.put, List.setIfInBounds_toArray, List.set_cons_zero, List.set_cons_succ]
                  refine Rel.heldTake (v := ?_) 7 rfl (by kernel_rfl) (by kernel_rfl) (by kernel_rfl) (fun _ _ _ h => h) (by assumption) (by rfl) ?_ ?_
                  rotate_left
                  · (intro W hSw; (try dsimp only at hSw); go_simp; try with_reducible rfl)
                  try simp only [Act.put, List.setIfInBounds_toArray, List.set_cons_zero, List.set_cons_succ]
                  refine Rel.heldTake (v := ?_) 8 rfl (by kernel_rfl) (by kernel_rfl) (by kernel_rfl) (fun _ _ _ h => h) (by assumption) (by rfl) ?_ ?_
                  rotate_left
                  · (intro W hSw; (try dsimp only at hSw); go_simp; try with_reducible rfl)
                  try simp only [Act.put, List.setIfInBounds_toArray, List.set_cons_zero, List.set_cons_succ]
                  refine Rel.heldNext 9 rfl (by kernel_rfl) fun K hK => ?_
                  go_simp
                  refine (cK _).mono ?_
                  rintro e w8 ⟨rfl, hb8⟩
                  replace P := P.below hb8
                  refine hK.out _ _ (P.blk.cell (j := 1) rfl) (fun hH1 => ?_)
                  clear hK K
                  try simp only [Act.put, List.setIfInBounds_toArray, List.set_cons_zero, List.set_cons_succ]
                  refine Rel.heldNext 10 rfl (by kernel_rfl) fun K hK => ?_
                  go_simp
                  refine (rConstant20_any p kc w8 kb).mono ?_
                  rintro e w9 ⟨tk, rfl, ek, lk, hb9⟩
                  replace P := P.below hb9
                  have lk1 : tk.l.length ≤ 1 := by rw [ek.out]; exact keepT_len _
                  refine hK.out _ _ (P.blk.cell (j := 1) rfl) (fun hH2 => ?_)
                  clear hK K
                  try simp only [Act.put, List.setIfInBounds_toArray, List.set_cons_zero, List.set_cons_succ]
                  refine Rel.heldNext 11 rfl (by kernel_rfl) fun K hK => ?_
                  go_simp
                  have cA := rAddS_any p y tk w9 P.ly.ok lk.ok (by omega) (by rw [hel.out]; exact hco.out.2.1) (by rw [ek.out]; exact (cst_in (hi := 1) hv.out _ (by decide)).1)
                  have eA : addL p y.l tk.l = gKon p r 1 s.b := by rw [← hkon.out, hel.out, ek.out]
                  rw [eA] at cA
                  refine cA.mono ?_
                  rintro e w10 ⟨n, rfl, en, ln, hb10⟩
                  replace P := P.below hb10
                  refine hK.out _ _ (P.blk.cell (j := 1) rfl) (fun hH3 => ?_)
                  clear hK K
                  try simp only [Act.put, List.setIfInBounds_toArray, List.set_cons_zero, List.set_cons_succ]
                  refine Rel.heldTake (v := ?_) 12 rfl (by kernel_rfl) (by kernel_rfl) (by kernel_rfl) (fun _ _ _ h => h) (by assumption) (by rfl) ?_ ?_
                  rotate_left
                  · (intro W hSw; (try dsimp only at hSw); go_simp; try with_reducible rfl)
                  try simp only [Act.put, List.setIfInBounds_toArray, List.set_cons_zero, List.set_cons_succ]
                  have f := P.blk.free 1
                  have cq := P.blk.cell (j := 1) (v := .slice y.ad y.l.length y.cap) rfl
                  refine Rel.heldLast 13 rfl (by kernel_rfl) rfl (by kernel_rfl) fun K hK => ?_
                  go_simp
                  refine hK.out _ _ ?_
                  have PP := P.set hqz hb0 1 n x n z rfl P.lx ln P.lz
                  have hE2 : Hid ((⟨x.l, n.l, z.l⟩ : L3) = kA p r s 2) := hide (by
                    have e1 := congrArg L3.a hE.out
                    have e2 := congrArg L3.b hE.out
                    have e3 := congrArg L3.c hE.out
                    simp only [kA] at e1 e2 e3 ⊢
                    simp [en.out, e1, e3])
                  clear hK K hH0 hH1 hH2 hH3 f cq P hE hel cA eA en lk ek
                  go_wp2
                  go_roundw
                  case rel => exact ⟨2, by omega, rfl, _, _, _, PP, hE2⟩
                  case measure => simp [intOf]
                · have hel : Hid (z.l = s.c) := hide (by have := congrArg L3.c hE.out; exact this)
                  have hsl : z.l.length ≤ 30000 := by rw [hel.out]; have := hS3.out; unfold Sm3 at this; omega
                  have cK := fun W => rConstant_any p r 2 W
                  have kb := fconst_bd p r 2
                  obtain ⟨kc, hkc⟩ : ∃ kc, kc = fconst p r 2 := ⟨_, rfl⟩
                  rw [← hkc] at cK kb
                  have hkon : Hid (addL p s.c (keepT (0, fred p kc)) = gKon p r 2 s.c) := hide (by rw [hkc]; rfl)
                  replace hkc := hide hkc
                  go_wp2_with fail
                  refine Rel.region_any Try.mixed fun w7 hb7 => ?_
                  replace P := P.below hb7
                  refine Rel.any_held (fun W => W.cell? ⟨q0, 2, none⟩ = some (.slice z.ad z.l.length z.cap)) 13 (P.blk.cell (j := 2) rfl) fun hH0 => ?_
                  refine Rel.heldTake (v := ?_) 0 rfl (by kernel_rfl) (by kernel_rfl) (by kernel_rfl) (fun _ _ _ h => h) (by assumption) (by rfl) ?_ ?_
                  rotate_left
                  · (intro W hSw; (try dsimp only at hSw); go_simp; try with_reducible rfl)
                  try simp only [Act.put, List.setIfInBounds_toArray, List.set_cons_zero, List.set_cons_succ]
                  refine Rel.heldTake (v := ?_) 1 rfl (by kernel_rfl) (by kernel_rfl) (by kernel_rfl) (fun _ _ _ h => h) (by assumption) (by rfl) ?_ ?_
                  rotate_left
                  · (intro W hSw; (try dsimp only at hSw); go_simp; try with_reducible rfl)
                  try simp only [Act.put, List.setIfInBounds_toArray, List.set_cons_zero, List.set_cons_succ]
                  refine Rel.heldTake (v := ?_) 2 rfl (by kernel_rfl) (by kernel_rfl) (by kernel_rfl) (fun _ _ _ h => h) (by assumption) (by rfl) ?_ ?_
                  rotate_left
                  · (intro W hSw; (try dsimp only at hSw); go_simp; try with_reducible rfl)
                  try simp only [Act.put, List.setIfInBounds_toArray, List.set_cons_zero, List.set_cons_succ]
                  refine Rel.heldTake (v := ?_) 3 rfl (by kernel_rfl) (by kernel_rfl) (by kernel_rfl) (fun _ _ _ h => h) (by assumption) (by rfl) ?_ ?_
                  rotate_left
                  · (intro W hSw; (try dsimp only at hSw); go_simp; try with_reducible rfl)
                  try simp only [Act.put, List.setIfInBounds_toArray, List.set_cons_zero, List.set_cons_succ]
                  refine Rel.heldTake (v := ?_) 4 rfl (by kernel_rfl) (by kernel_rfl) (by kernel_rfl) (fun _ _ _ h => h) (by assumption) (by rfl) ?_ ?_
                  rotate_left
                  · (intro W hSw; (try dsimp only at hSw); go_simp; try with_reducible rfl)
                  try simp only [Act.put, List.setIfInBounds_toArray, List.set_cons_zero, List.set_cons_succ]
                  refine Rel.heldTake (v := ?_) 5 rfl (by kernel_rfl) (by kernel_rfl) (by kernel_rfl) (fun _ _ _ h => h) (by assumption) (by rfl) ?_ ?_
                  rotate_left
                  · (intro W hSw; (try dsimp only at hSw); go_simp; try with_reducible rfl)
                  try simp only [Act.put, List.setIfInBounds_toArray, List.set_cons_zero, List.set_cons_succ]
                  refine Rel.heldTake (v := ?_) 6 rfl (by kernel_rfl) (by kernel_rfl) (by kernel_rfl) (fun _ _ _ h => h) (by assumption) (by rfl) ?_ ?_
                  rotate_left
                  · (intro W hSw; (try dsimp only at hSw); go_simp; try with_reducible rfl)
                  try simp only [Act.put, List.setIfInBounds_toArray, List.set_cons_zero, List.set_cons_succ]
                  refine Rel.heldTake (v := ?_) 7 rfl (by kernel_rfl) (by kernel_rfl) (by kernel_rfl) (fun _ _ _ h => h) (by assumption) (by rfl) ?_ ?_
                  rotate_left
                  · (intro W hSw; (try dsimp only at hSw); go_simp; try with_reducible rfl)
                  try simp only [Act.put, List.setIfInBounds_toArray, List.set_cons_zero, List.set_cons_succ]
                  refine Rel.heldTake (v := ?_) 8 rfl (by kernel_rfl) (by kernel_rfl) (by kernel_rfl) (fun _ _ _ h => h) (by assumption) (by rfl) ?_ ?_
                  rotate_left
                  · (intro W hSw; (try dsimp only at hSw); go_simp; try with_reducible rfl)
                  try simp only [Act.put, List.setIfInBounds_toArray, List.set_cons_zero, List.set_cons_succ]
                  refine Rel.heldNext 9 rfl (by kernel_rfl) fun K hK => ?_
                  go_simp
                  refine (cK _).mono ?_
                  rintro e w8 ⟨rfl, hb8⟩
                  replace P := P.below hb8
                  refine hK.out _ _ (P.blk.cell (j := 2) rfl) (fun hH1 => ?_)
                  clear hK K
                  try simp only [Act.put, List.setIfInBounds_toArray, List.set_cons_zero, List.set_cons_succ]
                  refine Rel.heldNext 10 rfl (by kernel_rfl) fun K hK => ?_
                  go_simp
                  refine (rConstant20_any p kc w8 kb).mono ?_
                  rintro e w9 ⟨tk, rfl, ek, lk, hb9⟩
                  replace P := P.below hb9
                  have lk1 : tk.l.length ≤ 1 := by rw [ek.out]; exact keepT_len _
                  refine hK.out _ _ (P.blk.cell (j := 2) rfl) (fun hH2 => ?_)
                  clear hK K
                  try simp only [Act.put, List.setIfInBounds_toArray, List.set_cons_zero, List.set_cons_succ]
                  refine Rel.heldNext 11 rfl (by kernel_rfl) fun K hK => ?_
                  go_simp
                  have cA := rAddS_any p z tk w9 P.lz.ok lk.ok (by omega) (by rw [hel.out]; exact hco.out.2.2) (by rw [ek.out]; exact (cst_in (hi := 1) hv.out _ (by decide)).1)
                  have eA : addL p z.l tk.l = gKon p r 2 s.c := by rw [← hkon.out, hel.out, ek.out]
                  rw [eA] at cA
                  refine cA.mono ?_
                  rintro e w10 ⟨n, rfl, en, ln, hb10⟩
                  replace P := P.below hb10
                  refine hK.out _ _ (P.blk.cell (j := 2) rfl) (fun hH3 => ?_)
                  clear hK K
                  try simp only [Act.put, List.setIfInBounds_toArray, List.set_cons_zero, List.set_cons_succ]
                  refine Rel.heldTake (v := ?_) 12 rfl (by kernel_rfl) (by kernel_rfl) (by kernel_rfl) (fun _ _ _ h => h) (by assumption) (by rfl) ?_ ?_
                  rotate_left
                  · (intro W hSw; (try dsimp only at hSw); go_simp; try with_reducible rfl)
                  try simp only [Act.put, List.setIfInBounds_toArray, List.set_cons_zero, List.set_cons_succ]
                  have f := P.blk.free 2
                  have cq := P.blk.cell (j := 2) (v := .slice z.ad z.l.length z.cap) rfl
                  refine Rel.heldLast 13 rfl (by kernel_rfl) rfl (by kernel_rfl) fun K hK => ?_
                  go_simp
                  refine hK.out _ _ ?_
                  have PP := P.set hqz hb0 2 n x y n rfl P.lx P.ly ln
                  have hE2 : Hid ((⟨x.l, y.l, n.l⟩ : L3) = kA p r s 3) := hide (by
                    have e1 := congrArg L3.a hE.out
                    have e2 := congrArg L3.b hE.out
                    have e3 := congrArg L3.c hE.out
                    simp only [kA] at e1 e2 e3 ⊢
                    simp [en.out, e1, e2])
                  clear hK K hH0 hH1 hH2 hH3 f cq P hE hel cA eA en lk ek
                  go_wp2
                  go_roundw
                  case rel => exact ⟨3, by omega, rfl, _, _, _, PP, hE2⟩
                  case measure => simp [intOf]
              · obtain rfl : k = 3 := by omega
                rw [show ((3 : Nat) : Int) = 3 from rfl]
                have hE3 : Hid ((⟨x.l, y.l, z.l⟩ : L3) = gKon3 p r s) := hE
                obtain ⟨q1, hq1⟩ : ∃ q1 : St × L3, q1 = (S1, gKon3 p r s) := ⟨_, rfl⟩
                have hpB : ∀ k, (pB q1 k).1.p = p := fun k => by rw [pB_p, hq1]; exact hS1.out
                have hbB : ∀ k, Bd (pB q1 k).1 (N + 192 * m + 24 * (r : Int) + 24) := fun k => pB_bd (by rw [hq1]; exact hS2) k
                have hgs : Hid (pB q1 3 = gSub r (S1, s)) := hide (by rw [hq1]; show gPow3 (gPow2 (gPow1 (S1, gKon3 p r s))) = gPow3 (gPow2 (gPow1 (S1, gKon3 S1.p r s))); rw [hS1.out])
                have P0 : HR w wr base b q0 (pB q1 0).1 x y z B (.slice (some ⟨gl, 0, none⟩) Ls.length c) Ls := by rw [hq1]; exact P
                have hE4 : Hid ((⟨x.l, y.l, z.l⟩ : L3) = (pB q1 0).2) := by rw [hq1]; exact hE3
                obtain ⟨wA, hwA⟩ : ∃ wA, wA = wr := ⟨_, rfl⟩
                subst hwA
                replace hq1 := hide hq1
                replace hpB := hide hpB
                replace hbB := hide hbB
                clear P hE hE3
                go_wp2_with fail
                go_loopw [12] (fun t12 wr => ∃ k : Nat, k ≤ 3 ∧ t12 = .int .i64 k ∧ ∃ x y z : Lc, HR w wr base b q0 (pB q1 k).1 x y z B (.slice (some ⟨gl, 0, none⟩) Ls.length c) Ls ∧ Hid ((⟨x.l, y.l, z.l⟩ : L3) = (pB q1 k).2)) (fun t12 _ => 3 - (intOf t12).toNat)
                case atStart => exact ⟨0, by omega, rfl, x, y, z, P0, hE4⟩
                case round =>
                  clear P0 hE4
                  obtain ⟨k, hk, rfl, x, y, z, P, hE⟩ := hrel
                  by_cases hlt3 : k < 3
                  · obtain rfl | rfl | rfl : k = 0 ∨ k = 1 ∨ k = 2 := by omega
                    · have hel : Hid (x.l = (pB q1 0).2.a) := hide (congrArg L3.a hE.out)
                      have km := P.blk.cell (j := 0) (v := .slice x.ad x.l.length x.cap) rfl
                      have cP := rbRaise_any base b (pB q1 0).1 _ x wr P.bld (by rw [hpB.out]; exact hv.out) (hbB.out 0) (by omega) P.lx
                      go_wp2_with fail
                      refine cP.mono ?_
                      rintro e w3 ⟨n, rfl, en, ln, hB3, k3⟩
                      rw [hel.out] at hB3 en
                      have P3 : HR w w3 base b q0 (pB q1 1).1 x y z B (.slice (some ⟨gl, 0, none⟩) Ls.length c) Ls := P.keep k3 hB3
                      have f := P3.blk.free 0
                      have cq := P3.blk.cell (j := 0) (v := .slice x.ad x.l.length x.cap) rfl
                      have PP := P3.set hqz hb0 0 n n y z rfl ln P3.ly P3.lz
                      have hE2 : Hid ((⟨n.l, y.l, z.l⟩ : L3) = (pB q1 1).2) := hide (by
                        have e1 := congrArg L3.a hE.out
                        have e2 := congrArg L3.b hE.out
                        have e3 := congrArg L3.c hE.out
                        simp only at e1 e2 e3
                        simp only [en.out, e2, e3]
                        rfl)
                      clear hE hel km cP P P3 k3 hB3
                      go_wp2
                      go_roundw
                      case rel => exact ⟨1, by omega, rfl, _, _, _, PP, hE2⟩
                      case measure => simp [intOf]
                    · have hel : Hid (y.l = (pB q1 1).2.b) := hide (congrArg L3.b hE.out)
                      have km := P.blk.cell (j := 1) (v := .slice y.ad y.l.length y.cap) rfl
                      have cP := rbRaise_any base b (pB q1 1).1 _ y wr P.bld (by rw [hpB.out]; exact hv.out) (hbB.out 1) (by omega) P.ly
                      go_wp2_with fail
                      refine cP.mono ?_
                      rintro e w3 ⟨n, rfl, en, ln, hB3, k3⟩
                      rw [hel.out] at hB3 en
                      have P3 : HR w w3 base b q0 (pB q1 2).1 x y z B (.slice (some ⟨gl, 0, none⟩) Ls.length c) Ls := P.keep k3 hB3
                      have f := P3.blk.free 1
                      have cq := P3.blk.cell (j := 1) (v := .slice y.ad y.l.length y.cap) rfl
                      have PP := P3.set hqz hb0 1 n x n z rfl P3.lx ln P3.lz
                      have hE2 : Hid ((⟨x.l, n.l, z.l⟩ : L3) = (pB q1 2).2) := hide (by
                        have e1 := congrArg L3.a hE.out
                        have e2 := congrArg L3.b hE.out
                        have e3 := congrArg L3.c hE.out
                        simp only at e1 e2 e3
                        simp only [en.out, e1, e3]
                        rfl)
                      clear hE hel km cP P P3 k3 hB3
                      go_wp2
                      go_roundw
                      case rel => exact ⟨2, by omega, rfl, _, _, _, PP, hE2⟩
                      case measure => simp [intOf]
                    · have hel : Hid (z.l = (pB q1 2).2.c) := hide (congrArg L3.c hE.out)
                      have km := P.blk.cell (j := 2) (v := .slice z.ad z.l.length z.cap) rfl
                      have cP := rbRaise_any base b (pB q1 2).1 _ z wr P.bld (by rw [hpB.out]; exact hv.out) (hbB.out 2) (by omega) P.lz
                      go_wp2_with fail
                      refine cP.mono ?_
                      rintro e w3 ⟨n, rfl, en, ln, hB3, k3⟩
                      rw [hel.out] at hB3 en
                      have P3 : HR w w3 base b q0 (pB q1 3).1 x y z B (.slice (some ⟨gl, 0, none⟩) Ls.length c) Ls := P.keep k3 hB3
                      have f := P3.blk.free 2
                      have cq := P3.blk.cell (j := 2) (v := .slice z.ad z.l.length z.cap) rfl
                      have PP := P3.set hqz hb0 2 n x y n rfl P3.lx P3.ly ln
                      have hE2 : Hid ((⟨x.l, y.l, n.l⟩ : L3) = (pB q1 3).2) := hide (by
                        have e1 := congrArg L3.a hE.out
                        have e2 := congrArg L3.b hE.out
                        have e3 := congrArg L3.c hE.out
                        simp only at e1 e2 e3
                        simp only [en.out, e1, e2]
                        rfl)
                      clear hE hel km cP P P3 k3 hB3
                      go_wp2
                      go_roundw
                      case rel => exact ⟨3, by omega, rfl, _, _, _, PP, hE2⟩
                      case measure => simp [intOf]
                  · obtain rfl : k = 3 := by omega
                    rw [show ((3 : Nat) : Int) = 3 from rfl]
                    rw [hgs.out] at P hE
                    obtain ⟨hTs, hGl⟩ := hTr.out.sub r
                    obtain ⟨⟨S2, s2⟩, hq2⟩ : ∃ q : St × L3, q = gSub r (S1, s) := ⟨_, rfl⟩
                    rw [← hq2] at P hE hTs hGl
                    simp only at P hE hGl
                    have hpp2 : S2.p = p := hTs.pp
                    have hv2 : vld S2.p = true := by rw [hpp2]; exact hv.out
                    have hl2 := hTs.lin
                    simp only at hl2
                    have hco2 : Hid (CoefOk p s2.a ∧ CoefOk p s2.b ∧ CoefOk p s2.c) := hide (by
                      rw [← hpp2]
                      exact ⟨hl2.1.1, hl2.2.1.1, hl2.2.2.1⟩)
                    have hcab : CoefOk p (addL p s2.a s2.b) := by
                      rw [← hpp2]
                      exact (LinIn.add hv2 hl2.1 hl2.2.1).1
                    have hct0 : CoefOk p (gSum3 p s2) := by
                      rw [← hpp2]
                      exact (LinIn.add hv2 (LinIn.add hv2 hl2.1 hl2.2.1) hl2.2.2).1
                    have hQN2 : Hid (QR = (S2, gMix p s2)) := hide (by
                      rw [hnx.out]
                      show ((gSub r (S1, s)).1, gMix (gSub r (S1, s)).1.p (gSub r (S1, s)).2) = _
                      rw [← hq2]
                      show (S2, gMix S2.p s2) = _
                      rw [hpp2])
                    replace hpp2 := hide hpp2
                    replace hv2 := hide hv2
                    replace hq2 := hide hq2
                    replace hct0 := hide hct0
                    replace hcab := hide hcab
                    clear hl2 hTs
                    obtain ⟨wB, hwB⟩ : ∃ wB, wB = wr := ⟨_, rfl⟩
                    subst hwB
                    obtain ⟨gl1, gl2, gl3⟩ := hGl
                    have ea : Hid (x.l = s2.a) := hide (congrArg L3.a hE.out)
                    have eb : Hid (y.l = s2.b) := hide (congrArg L3.b hE.out)
                    have ec : Hid (z.l = s2.c) := hide (congrArg L3.c hE.out)
                    have za : x.l.length ≤ 1 := by rw [ea.out]; exact gl1
                    have zb : y.l.length ≤ 1 := by rw [eb.out]; exact gl2
                    have zc : z.l.length ≤ 1 := by rw [ec.out]; exact gl3
                    go_wp2_with fail
                    refine Rel.region_any Try.mixed fun w7 hb7 => ?_
                    replace P := P.below hb7
                    refine Rel.any_held (fun W => W.cell? ⟨q0, 0, none⟩ = some (.slice x.ad x.l.length x.cap) ∧ W.cell? ⟨q0, 1, none⟩ = some (.slice y.ad y.l.length y.cap) ∧ W.cell? ⟨q0, 2, none⟩ = some (.slice z.ad z.l.length z.cap)) 10 ⟨P.blk.cell (j := 0) rfl, P.blk.cell (j := 1) rfl, P.blk.cell (j := 2) rfl⟩ fun hH0 => ?_
                    refine Rel.heldTake (v := ?_) 0 rfl (by kernel_rfl) (by kernel_rfl) (by kernel_rfl) (fun _ _ _ h => h) (by assumption) (by rfl) ?_ ?_
                    rotate_left
                    · (intro W hSw; (try dsimp only at hSw); go_simp; try with_reducible rfl)
                    try simp only [Act.put, List.setIfInBounds_toArray, List.set_cons_zero, List.set_cons_succ]
                    refine Rel.heldTake (v := ?_) 1 rfl (by kernel_rfl) (by kernel_rfl) (by kernel_rfl) (fun _ _ _ h => h) (by assumption) (by rfl) ?_ ?_
                    rotate_left
                    · (intro W hSw; (try dsimp only at hSw); go_simp; try with_reducible rfl)
                    try simp only [Act.put, List.setIfInBounds_toArray, List.set_cons_zero, List.set_cons_succ]
                    refine Rel.heldTake (v := ?_) 2 rfl (by kernel_rfl) (by kernel_rfl) (by kernel_rfl) (fun _ _ _ h => h) (by assumption) (by rfl) ?_ ?_
                    rotate_left
                    · (intro W hSw; (try dsimp only at hSw); go_simp; try with_reducible rfl)
                    try simp only [Act.put, List.setIfInBounds_toArray, List.set_cons_zero, List.set_cons_succ]
                    refine Rel.heldTake (v := ?_) 3 rfl (by kernel_rfl) (by kernel_rfl) (by kernel_rfl) (fun _ _ _ h => h) (by assumption) (by rfl) ?_ ?_
                    rotate_left
                    · (intro W hSw; (try dsimp only at hSw); go_simp; try with_reducible rfl)
                    try simp only [Act.put, List.setIfInBounds_toArray, List.set_cons_zero, List.set_cons_succ]
                    refine Rel.heldTake (v := ?_) 4 rfl (by kernel_rfl) (by kernel_rfl) (by kernel_rfl) (fun _ _ _ h => h) (by assumption) (by rfl) ?_ ?_
                    rotate_left
                    · (intro W hSw; (try dsimp only at hSw); go_simp; try with_reducible rfl)
                    try simp only [Act.put, List.setIfInBounds_toArray, List.set_cons_zero, List.set_cons_succ]
                    refine Rel.heldTake (v := ?_) 5 rfl (by kernel_rfl) (by kernel_rfl) (by kernel_rfl) (fun _ _ _ h => h) (by assumption) (by rfl) ?_ ?_
                    rotate_left
                    · (intro W hSw; (try dsimp only at hSw); go_simp; try with_reducible rfl)
                    try simp only [Act.put, List.setIfInBounds_toArray, List.set_cons_zero, List.set_cons_succ]
                    refine Rel.heldTake (v := ?_) 7 rfl (by kernel_rfl) (by kernel_rfl) (by kernel_rfl) (fun _ _ _ h => h) (by assumption) (by rfl) ?_ ?_
                    rotate_left
                    · (intro W hSw; (try dsimp only at hSw); go_simp; try with_reducible rfl)
                    try simp only [Act.put, List.setIfInBounds_toArray, List.set_cons_zero, List.set_cons_succ]
                    refine Rel.heldTake (v := ?_) 8 rfl (by kernel_rfl) (by kernel_rfl) (by kernel_rfl) (fun _ _ _ h => h) (by assumption) (by rfl) ?_ ?_
                    rotate_left
                    · (intro W hSw; (try dsimp only at hSw); go_simp; try with_reducible rfl)
                    try simp only [Act.put, List.setIfInBounds_toArray, List.set_cons_zero, List.set_cons_succ]
                    refine Rel.heldNext 6 rfl (by kernel_rfl) fun K hK => ?_
                    go_simp
                    have cA := rAddS_any p x y w7 P.lx.ok P.ly.ok (by omega) (by rw [ea.out]; exact hco2.out.1) (by rw [eb.out]; exact hco2.out.2.1)
                    have eA : addL p x.l y.l = addL p s2.a s2.b := by rw [ea.out, eb.out]
                    have lA := addP_len p x.l y.l 1
                    rw [eA] at cA
                    refine cA.mono ?_
                    rintro e w8 ⟨t8, rfl, et8, lt8, hb8⟩
                    replace P := P.below hb8
                    have zt : t8.l.length ≤ 2 := by rw [et8.out, ← eA]; unfold addL; omega
                    refine hK.out _ _ ⟨P.blk.cell (j := 0) rfl, P.blk.cell (j := 1) rfl, P.blk.cell (j := 2) rfl⟩ (fun hH1 => ?_)
                    clear hK K
                    try simp only [Act.put, List.setIfInBounds_toArray, List.set_cons_zero, List.set_cons_succ]
                    refine Rel.heldNext 9 rfl (by kernel_rfl) fun K hK => ?_
                    go_simp
                    have cA2 := rAddS_any p t8 z w8 lt8.ok P.lz.ok (by omega) (by rw [et8.out]; exact hcab.out) (by rw [ec.out]; exact hco2.out.2.2)
                    have eA2 : addL p t8.l z.l = gSum3 p s2 := by rw [et8.out, ec.out]; rfl
                    have lA2 := addP_len p t8.l z.l 1
                    rw [eA2] at cA2
                    refine cA2.mono ?_
                    rintro e w9 ⟨t, rfl, et, lt, hb9⟩
                    replace P := P.below hb9
                    have htl : Hid (t.l.length ≤ 3) := hide (by rw [et.out, ← eA2]; unfold addL; omega)
                    have hct : Hid (CoefOk p t.l) := hide (by rw [et.out]; exact hct0.out)
                    refine hK.out _ _ ⟨P.blk.cell (j := 0) rfl, P.blk.cell (j := 1) rfl, P.blk.cell (j := 2) rfl⟩ (fun hH2 => ?_)
                    clear hK K
                    try simp only [Act.put, List.setIfInBounds_toArray, List.set_cons_zero, List.set_cons_succ]
                    refine Rel.heldLast 10 rfl (by kernel_rfl) rfl (by kernel_rfl) fun K hK => ?_
                    go_simp
                    refine hK.out _ _ ?_
                    have P0 : HR w w9 base b q0 S2 x y z B (.slice (some ⟨gl, 0, none⟩) Ls.length c) Ls ∧ LinT w9 t := ⟨P, lt⟩
                    have hE5 : Hid ((⟨x.l, y.l, z.l⟩ : L3) = mC p t.l s2 0) := hE
                    clear hK K hH0 hH1 hH2 hE P lt za zb zc zt ea eb ec cA cA2 eA eA2 lA lA2 et8 lt8 hb7 hb8 hb9
                    go_wp2_with fail
                    go_loopw [14] (fun t14 wr => ∃ k : Nat, k ≤ 3 ∧ t14 = .int .i64 k ∧ ∃ x y z : Lc, (HR w wr base b q0 S2 x y z B (.slice (some ⟨gl, 0, none⟩) Ls.length c) Ls ∧ LinT wr t) ∧ Hid ((⟨x.l, y.l, z.l⟩ : L3) = mC p t.l s2 k)) (fun t14 _ => 3 - (intOf t14).toNat)
                    case atStart => exact ⟨0, by omega, rfl, x, y, z, P0, hE5⟩
                    case round =>
                      clear P0 hE5
                      obtain ⟨k, hk, rfl, x, y, z, ⟨P, lt⟩, hE⟩ := hrel
                      by_cases hlt3 : k < 3
                      · obtain rfl | rfl | rfl : k = 0 ∨ k = 1 ∨ k = 2 := by omega
                        · have hel : Hid (x.l = s2.a) := hide (congrArg L3.a hE.out)
                          have hsl : x.l.length ≤ 1 := by rw [hel.out]; exact gl1
                          have km := P.blk.cell (j := 0) (v := .slice x.ad x.l.length x.cap) rfl
                          have cA := rAddS_any p x t wr P.lx.ok lt.ok (by have := htl.out; omega) (by rw [hel.out]; exact hco2.out.1) hct.out
                          have eA : addL p x.l t.l = addL p s2.a t.l := by rw [hel.out]
                          rw [eA] at cA
                          go_wp2_with fail
                          refine cA.mono ?_
                          rintro e w3 ⟨n, rfl, en, ln, hb3⟩
                          have P3 := P.below hb3
                          have f := P3.blk.free 0
                          have cq := P3.blk.cell (j := 0) (v := .slice x.ad x.l.length x.cap) rfl
                          have PP := P3.set hqz hb0 0 n n y z rfl ln P3.ly P3.lz
                          have lt2 : LinT (w3.setCell ⟨q0, 0, none⟩ (lcV n)) t := (lt.mono hb3).setType P3.blk (by decide)
                          have hE2 : Hid ((⟨n.l, y.l, z.l⟩ : L3) = mC p t.l s2 1) := hide (by
                            have e1 := congrArg L3.a hE.out
                            have e2 := congrArg L3.b hE.out
                            have e3 := congrArg L3.c hE.out
                            simp only [mC] at e1 e2 e3 ⊢
                            simp [en.out, e2, e3])
                          clear hE hel km cA eA P P3 lt hb3 en
                          go_wp2
                          go_roundw
                          case rel => exact ⟨1, by omega, rfl, _, _, _, ⟨PP, lt2⟩, hE2⟩
                          case measure => simp [intOf]
                        · have hel : Hid (y.l = s2.b) := hide (congrArg L3.b hE.out)
                          have hsl : y.l.length ≤ 1 := by rw [hel.out]; exact gl2
                          have km := P.blk.cell (j := 1) (v := .slice y.ad y.l.length y.cap) rfl
                          have cA := rAddS_any p y t wr P.ly.ok lt.ok (by have := htl.out; omega) (by rw [hel.out]; exact hco2.out.2.1) hct.out
                          have eA : addL p y.l t.l = addL p s2.b t.l := by rw [hel.out]
                          rw [eA] at cA
                          go_wp2_with fail
                          refine cA.mono ?_
                          rintro e w3 ⟨n, rfl, en, ln, hb3⟩
                          have P3 := P.below hb3
                          have f := P3.blk.free 1
                          have cq := P3.blk.cell (j := 1) (v := .slice y.ad y.l.length y.cap) rfl
                          have PP := P3.set hqz hb0 1 n x n z rfl P3.lx ln P3.lz
                          have lt2 : LinT (w3.setCell ⟨q0, 1, none⟩ (lcV n)) t := (lt.mono hb3).setType P3.blk (by decide)
                          have hE2 : Hid ((⟨x.l, n.l, z.l⟩ : L3) = mC p t.l s2 2) := hide (by
                            have e1 := congrArg L3.a hE.out
                            have e2 := congrArg L3.b hE.out
                            have e3 := congrArg L3.c hE.out
                            simp only [mC] at e1 e2 e3 ⊢
                            simp [en.out, e1, e3])
                          clear hE hel km cA eA P P3 lt hb3 en
                          go_wp2
                          go_roundw
                          case rel => exact ⟨2, by omega, rfl, _, _, _, ⟨PP, lt2⟩, hE2⟩
                          case measure => simp [intOf]
                        · have hel : Hid (z.l = s2.c) := hide (congrArg L3.c hE.out)
                          have hsl : z.l.length ≤ 1 := by rw [hel.out]; exact gl3
                          have km := P.blk.cell (j := 2) (v := .slice z.ad z.l.length z.cap) rfl
                          have cA := rAddS_any p z t wr P.lz.ok lt.ok (by have := htl.out; omega) (by rw [hel.out]; exact hco2.out.2.2) hct.out
                          have eA : addL p z.l t.l = addL p s2.c t.l := by rw [hel.out]
                          rw [eA] at cA
                          go_wp2_with fail
                          refine cA.mono ?_
                          rintro e w3 ⟨n, rfl, en, ln, hb3⟩
                          have P3 := P.below hb3
                          have f := P3.blk.free 2
                          have cq := P3.blk.cell (j := 2) (v := .slice z.ad z.l.length z.cap) rfl
                          have PP := P3.set hqz hb0 2 n x y n rfl P3.lx P3.ly ln
                          have lt2 : LinT (w3.setCell ⟨q0, 2, none⟩ (lcV n)) t := (lt.mono hb3).setType P3.blk (by decide)
                          have hE2 : Hid ((⟨x.l, y.l, n.l⟩ : L3) = mC p t.l s2 3) := hide (by
                            have e1 := congrArg L3.a hE.out
                            have e2 := congrArg L3.b hE.out
                            have e3 := congrArg L3.c hE.out
                            simp only [mC] at e1 e2 e3 ⊢
                            simp [en.out, e1, e2])
                          clear hE hel km cA eA P P3 lt hb3 en
                          go_wp2
                          go_roundw
                          case rel => exact ⟨3, by omega, rfl, _, _, _, ⟨PP, lt2⟩, hE2⟩
                          case measure => simp [intOf]
                      · obtain rfl : k = 3 := by omega
                        have hE6 : Hid ((⟨x.l, y.l, z.l⟩ : L3) = gMix p s2) := hide (by rw [hE.out, et.out]; rfl)
                        have PN : HR w wr base b q0 QR.1 x y z B (.slice (some ⟨gl, 0, none⟩) Ls.length c) Ls := by rw [hQN2.out]; exact P
                        have EN : Hid ((⟨x.l, y.l, z.l⟩ : L3) = QR.2) := by rw [hQN2.out]; exact hE6
                        clear P hE hE6 lt
                        go_wp2
                        go_roundw
                        case rel => exact ⟨r + 1, by omega, by go_num, x, y, z, by rw [← hQR.out]; exact PN, by rw [← hQR.out]; exact EN⟩
                        case measure => simp [intOf]; omega
          · obtain rfl : r = 8 := by omega
            have HN : HR w wr base b q0 (gHashN p VL (m + 1) Q).1 x y z B (.slice (some ⟨gl, 0, none⟩) Ls.length c) Ls := by rw [hQN.out]; exact P
            have EN : Hid ((⟨x.l, y.l, z.l⟩ : L3) = (gHashN p VL (m + 1) Q).2) := by rw [hQN.out]; exact hE
            clear P hE
            go_wp2
            go_roundw
            case rel => exact ⟨m + 1, i + 2, by omega, hide (by have := hi.out; omega), by go_num, x, y, z, HN, EN⟩
            case measure => simp [intOf]; have := hi.out; omega
    · obtain rfl : m = M := by omega
      have hi1 : ((i : Int) == 0) = false := by have := hi.out; simp; omega
      have hi2 : (Ls.length : Int) ≤ i := by have := hi.out; omega
      have km := H.blk.cell (j := 0) (v := .slice x.ad x.l.length x.cap) rfl
      go_wp2
      go_ret
      exact ⟨x, rfl, hide (congrArg L3.a hE.out), H.lx, H.bld, H.kx⟩
end Go.Proofs.Ytlgjnidphldiiaa
