/- compiler: a list of one check; inputs. -/
import Derived.Test.YtalmgeefkcebdaaGreatDoorQ31
namespace Go.Proofs.YtalmgeefkcebdaaGreatDoor
open Go.RowKit

theorem fieldCv (v : Vv) (W : World) : Sem.run Tryz.prog (Instr.field 119 (.agg #[.slice (some ⟨v.bx, 0, none⟩) 1 v.c, .int .i64 v.k0, .int .i64 v.k1, .int .i64 v.k2, .int .i64 v.k3]) 0) W = .ok (.slice (some ⟨v.bx, 0, none⟩) 1 v.c) W := by kernel_rfl
set_option maxRecDepth 10000 in
set_option maxHeartbeats 16000000 in
theorem cexec_any {base q b f mm : Nat} {w : World} {p rows rows1 : Int} {S S1 : St} {L1 : Lin} {N : List (ByteArray × Lin)} (n : Int) (bs c : Nat) (ev : Ev) (h : CP base w q b p f rows S) (hm : NmP w mm N) (hS : StP w bs ev)
    (cV : ∀ W, CP base W q b p f rows S → Below w.heap.size w W → NmP W mm N → Calls Tryz.prog 44 #[.pointer (some ⟨q, 0, none⟩), evV ev, .map (some mm)] W (RetVl base W q b p f rows1 S1 L1))
    (h1 : 0 ≤ rows1) (h2 : rows1 + 1 ≤ 16384) (hv : vld S1.p = true) (hB : Bd S1 n) (hn : n ≤ 1000000) (ll : L1.length ≤ 1000000) :
    Calls Tryz.prog 19 #[.pointer (some ⟨q, 0, none⟩), .slice (some ⟨bs, 0, none⟩) 1 c, .map (some mm)] w fun e w' => e = .returned (.tuple #[]) ∧ CP base w' q b p f (rows1 + 1) (gAssert S1 L1 (keepT (0, fred p 1))) ∧ KM base w w' := by
  have hz := h.lt
  have cR := fun W (hC : CP base W q b p f rows1 S1) => room_any 1 hC h1 (by omega) h2
  have cK := fun W => Constant20_any p 1 W (by omega)
  have hkl : (keepT (0, fred p 1)).length ≤ 1 := by unfold keepT; split <;> simp
  have cA : ∀ W (s k : Lc), Bld W base b S1 → LinT W s → LinT W k → s.l = L1 → k.l = keepT (0, fred p 1) → Calls Tryz.prog 47 #[.pointer (some ⟨b, 0, none⟩), .slice s.ad s.l.length s.cap, .slice k.ad k.l.length k.cap] W (RetV W base b (gAssert S1 L1 (keepT (0, fred p 1)))) := fun W s k hB' hx hy e1 e2 => by
    have := Assert20_any base b S1 n s k W hB' hv hB (by omega) hx hy (by rw [e1]; omega) (by rw [e2]; omega)
    rw [e1, e2] at this
    rw [e1, e2]
    exact this
  obtain ⟨T, hT⟩ : ∃ T, gAssert S1 L1 (keepT (0, fred p 1)) = T := ⟨_, rfl⟩
  obtain ⟨K1, hK1⟩ : ∃ K1, keepT (0, fred p 1) = K1 := ⟨_, rfl⟩
  rw [hT] at cA ⊢
  rw [hK1] at cA cK
  unfold evV at cV
  clear hT hK1 hkl ll
  go_enter Tryz.func19, Tryz.ntmps19
  go_wp2_with fail
  go_loopw [12] (fun t12 wr => ∃ i : Nat, i ≤ 1 ∧ t12 = .int .i64 i ∧ (i = 0 → wr = w) ∧ (i = 1 → CP base wr q b p f (rows1 + 1) T ∧ KM base w wr)) (fun t12 _ => 1 - (intOf t12).toNat)
  case atStart => exact ⟨0, by omega, rfl, fun _ => rfl, fun h => absurd h (by decide)⟩
  case round =>
    obtain ⟨i, hi, rfl, hA, hF⟩ := hrel
    rcases (show i = 0 ∨ i = 1 by omega) with rfl | rfl
    · obtain rfl := hA rfl
      clear hA hF
      have s0 := hS 0 (.int .i64 2) rfl
      have s1 := hS 1 (.string ⟨#[]⟩) rfl
      have s2 := hS 2 (.bool false) rfl
      have s3 := hS 3 (.int .i64 0) rfl
      have s4 := hS 4 (.int .i64 0) rfl
      have s5 := hS 5 (.int .i64 0) rfl
      have s6 := hS 6 (.int .i64 ev.op) rfl
      have s7 := hS 7 (.int .u64 ev.val) rfl
      have s8 := hS 8 (.string ev.nm) rfl
      have s9 := hS 9 (.slice ev.ad ev.n ev.c) rfl
      have s10 := hS 10 (.int .i64 0) rfl
      have s11 := hS 11 (.int .i64 0) rfl
      have s12 := hS 12 (.slice none 0 0) rfl
      obtain ⟨W, hW⟩ : ∃ W, W = wr.alloc (.cells #[.int .i64 2, .string ⟨#[]⟩, .bool false, .int .i64 0, .int .i64 0, .int .i64 0, .int .i64 ev.op, .int .u64 ev.val, .string ev.nm, .slice ev.ad ev.n ev.c, .int .i64 0, .int .i64 0, .slice none 0 0] 38) := ⟨_, rfl⟩
      have hb1 : Below wr.heap.size wr W := by rw [hW]; exact (Below.refl _ _).alloc (Nat.le_refl _) _
      have C1 := h.mono hb1
      have c1 := cV W C1 hb1 (hm.mono hb1)
      have q4 := C1.blk.cell (j := 4) (v := .bool false) rfl
      have k1 := KM.of_below hb1 hz
      rw [hW] at q4
      clear cV hS h hm hb1 C1
      go_wp2_with fail
      rw [← hW]
      clear hW s0 s1 s2 s3 s4 s5 s6 s7 s8 s9 s10 s11 s12 q4
      refine c1.mono ?_
      rintro e w2 ⟨s, V, rfl, iv, es, C2, k2⟩
      obtain ⟨u, rfl, iu⟩ := iv.vv
      obtain ⟨cs, iu1, iu2, iu3⟩ := iu
      have u0 := iu1.cell (j := 0) (v := .slice s.ad s.l.length s.cap) iu2
      have hfd := fieldCv u
      have k12 := k1.trans k2
      clear k1 k2 c1 iv iu1 iu2
      go_wp2_with fail
      refine (cR w2 C2).mono ?_
      rintro e w3 ⟨rfl, C3, k3⟩
      have k13 := k12.trans k3
      have l3 := k3.lin iu3
      clear u0 iu3 k12 k3 C2 cR
      go_wp2_with fail
      refine Rel.region_any Tryz.mixed fun w4 hb4 => ?_
      have C4 := C3.mono hb4
      have k14 := k13.trans (KM.of_below hb4 C3.lt)
      have l4 := l3.mono hb4
      clear C3 k13 l3 hb4
      refine Rel.any_held (fun W => W.cell? ⟨q, 0, none⟩ = some (.int .u64 p) ∧ W.cell? ⟨q, 1, none⟩ = some (.pointer (some ⟨b, 0, none⟩))) 11 ⟨C4.blk.cell (j := 0) rfl, C4.blk.cell (j := 1) rfl⟩ fun hH0 => ?_
      refine Rel.tk (v := ?_) 0 ?_ ?_
      rotate_left
      · (intro W hSw; (try dsimp only at hSw); go_simp; try with_reducible rfl)
      try simp only [Act.put, List.setIfInBounds_toArray, List.set_cons_zero, List.set_cons_succ]
      refine Rel.tk (v := ?_) 1 ?_ ?_
      rotate_left
      · (intro W hSw; (try dsimp only at hSw); go_simp; try with_reducible rfl)
      try simp only [Act.put, List.setIfInBounds_toArray, List.set_cons_zero, List.set_cons_succ]
      refine Rel.tk (v := ?_) 2 ?_ ?_
      rotate_left
      · (intro W hSw; (try dsimp only at hSw); go_simp; try with_reducible rfl)
      try simp only [Act.put, List.setIfInBounds_toArray, List.set_cons_zero, List.set_cons_succ]
      refine Rel.tk (v := ?_) 3 ?_ ?_
      rotate_left
      · (intro W hSw; (try dsimp only at hSw); go_simp; try with_reducible rfl)
      try simp only [Act.put, List.setIfInBounds_toArray, List.set_cons_zero, List.set_cons_succ]
      refine Rel.tk (v := ?_) 4 ?_ ?_
      rotate_left
      · (intro W hSw; (try dsimp only at hSw); go_simp; try with_reducible rfl)
      try simp only [Act.put, List.setIfInBounds_toArray, List.set_cons_zero, List.set_cons_succ]
      refine Rel.tk (v := ?_) 5 ?_ ?_
      rotate_left
      · (intro W hSw; (try dsimp only at hSw); go_simp; try with_reducible rfl)
      try simp only [Act.put, List.setIfInBounds_toArray, List.set_cons_zero, List.set_cons_succ]
      refine Rel.tk (v := ?_) 6 ?_ ?_
      rotate_left
      · (intro W hSw; (try dsimp only at hSw); go_simp; try with_reducible rfl)
      try simp only [Act.put, List.setIfInBounds_toArray, List.set_cons_zero, List.set_cons_succ]
      refine Rel.tk (v := ?_) 7 ?_ ?_
      rotate_left
      · (intro W hSw; (try dsimp only at hSw); go_simp; try with_reducible rfl)
      try simp only [Act.put, List.setIfInBounds_toArray, List.set_cons_zero, List.set_cons_succ]
      refine Rel.tk (v := ?_) 8 ?_ ?_
      rotate_left
      · (intro W hSw; (try dsimp only at hSw); go_simp; try with_reducible rfl)
      try simp only [Act.put, List.setIfInBounds_toArray, List.set_cons_zero, List.set_cons_succ]
      refine Rel.tk (v := ?_) 9 ?_ ?_
      rotate_left
      · (intro W hSw; (try dsimp only at hSw); go_simp; try with_reducible rfl)
      try simp only [Act.put, List.setIfInBounds_toArray, List.set_cons_zero, List.set_cons_succ]
      refine Rel.heldNext 10 rfl (by kernel_rfl) fun K hK => ?_
      go_simp
      refine (cK w4).mono ?_
      rintro e w5 ⟨k, rfl, ek, hk5, hb5⟩
      have C5 := C4.mono hb5
      have l5 := l4.mono hb5
      have k15 := k14.trans (KM.of_below hb5 C4.lt)
      clear C4 l4 k14 hb5 cK
      refine hK.out _ _ ⟨C5.blk.cell (j := 0) rfl, C5.blk.cell (j := 1) rfl⟩ (fun hH1 => ?_)
      clear hK K
      try simp only [Act.put, List.setIfInBounds_toArray, List.set_cons_zero, List.set_cons_succ]
      refine Rel.heldLast 11 rfl (by kernel_rfl) rfl (by kernel_rfl) fun K hK => ?_
      go_simp
      refine (cA w5 s k C5.bld l5 hk5 es.out ek.out).mono ?_
      rintro e w6 ⟨rfl, B6, k6⟩
      have C6 := C5.kept k6 B6
      have k16 := k15.trans (KM.of_kept k6)
      clear C5 l5 k15 B6 k6 cA
      refine hK.out _ _ ?_
      clear hK K hH0 hH1
      go_wp2
      go_roundw
      case rel => exact ⟨1, by omega, rfl, fun h => absurd h (by decide), fun _ => ⟨C6, k16⟩⟩
      case measure => simp [intOf]
    · obtain ⟨C6, k16⟩ := hF rfl
      clear hA hF
      go_wp2
      exact bodyPost_end (v := .tuple #[]) (by simp [results, Tryz.results19, go_sem]) rfl ⟨rfl, C6, k16⟩
/-- The names of the inputs, behind j declarations. -/
def inNs (pub : Int) (ds : List (Bool × ByteArray)) (j : Nat) : List (ByteArray × Lin) :=
  (List.range j).map fun i => ((ds.getD i (false, ⟨#[]⟩)).2, [(1 + (if (ds.getD i (false, ⟨#[]⟩)).1 = true then (pubN (ds.take i) : Int) else pub + secN (ds.take i)), 1)])
theorem inNs_succ (pub : Int) (ds : List (Bool × ByteArray)) (j : Nat) : inNs pub ds (j + 1) = inNs pub ds j ++ [((ds.getD j (false, ⟨#[]⟩)).2, [(1 + (if (ds.getD j (false, ⟨#[]⟩)).1 = true then (pubN (ds.take j) : Int) else pub + secN (ds.take j)), 1)])] := by
  unfold inNs
  rw [List.range_succ, List.map_append]
  rfl
theorem bld_cells {base b : Nat} {w : World} {S : St} (h : Bld w base b S) : ∃ cs T, Blk w b cs T ∧ cs[0]? = some (.int .u64 S.p) ∧ cs[2]? = some (.int .i64 S.pub) ∧ cs[5]? = some (.int .i64 S.sec) := by
  obtain ⟨vr, R, vh, H, g⟩ := h
  exact ⟨_, _, g.blk, rfl, rfl, rfl⟩
theorem pubN_take_le (ds : List (Bool × ByteArray)) (j : Nat) : pubN (ds.take j) ≤ pubN ds := by
  unfold pubN
  exact ((List.take_sublist j ds).filter _).length_le
theorem secN_take_le (ds : List (Bool × ByteArray)) (j : Nat) : secN (ds.take j) ≤ secN ds := by
  unfold secN
  exact ((List.take_sublist j ds).filter _).length_le
/-- What the inputs' compiler holds, behind j declarations. -/
structure InJ (base : Nat) (w wr : World) (q b : Nat) (p : Int) (f : Nat) (rows : Int) (S : St) (pub : Int) (ds : List (Bool × ByteArray)) (j : Nat) (P Q : Int) : Prop where
  cp : CP base wr q b p f rows S
  nm : NmP wr w.heap.size (inNs pub ds j)
  g8 : Blk wr (w.heap.size + 1) #[.int .i64 P] 3
  g9 : Blk wr (w.heap.size + 1 + 1) #[.int .i64 Q] 3
  below : Below w.heap.size w wr
section
variable {base : Nat} {w wr w' : World} {q b : Nat} {p : Int} {f : Nat} {rows : Int} {S : St} {pub : Int} {ds : List (Bool × ByteArray)} {j : Nat} {P Q : Int}
theorem InJ.mono (h : InJ base w wr q b p f rows S pub ds j P Q) (hb : Below wr.heap.size wr w') : InJ base w w' q b p f rows S pub ds j P Q :=
  ⟨h.cp.mono hb, h.nm.mono hb, h.g8.mono hb, h.g9.mono hb, below2 h.below hb⟩
theorem InJ.set8 (h : InJ base w wr q b p f rows S pub ds j P Q) (P' : Int) : InJ base w (wr.setCell ⟨w.heap.size + 1, 0, none⟩ (.int .i64 P')) q b p f rows S pub ds j P' Q :=
  ⟨h.cp.setT h.g8 (by decide) (by decide) (by decide) (by decide) (by decide), h.nm.setT h.g8 (by decide) (by decide), h.g8.set 0 _, h.g9.other (by omega) _ _, h.below.setCell (show w.heap.size ≤ w.heap.size + 1 by omega) _⟩
theorem InJ.set9 (h : InJ base w wr q b p f rows S pub ds j P Q) (Q' : Int) : InJ base w (wr.setCell ⟨w.heap.size + 1 + 1, 0, none⟩ (.int .i64 Q')) q b p f rows S pub ds j P Q' :=
  ⟨h.cp.setT h.g9 (by decide) (by decide) (by decide) (by decide) (by decide), h.nm.setT h.g9 (by decide) (by decide), h.g8.other (by omega) _ _, h.g9.set 0 _, h.below.setCell (show w.heap.size ≤ w.heap.size + 1 + 1 by omega) _⟩
theorem InJ.setV {c k : Nat} {cs : Array Value} {u : Value} (h : InJ base w wr q b p f rows S pub ds j P Q) (g : Blk wr c cs 119) (hc : w.heap.size ≤ c) : InJ base w (wr.setCell ⟨c, k, none⟩ u) q b p f rows S pub ds j P Q :=
  ⟨h.cp.setT g (by decide) (by decide) (by decide) (by decide) (by decide), h.nm.setT g (by decide) (by decide), h.g8.other (fun e => by subst e; exact absurd (blk_type g h.g8) (by decide)) _ _, h.g9.other (fun e => by subst e; exact absurd (blk_type g h.g9) (by decide)) _ _, h.below.setCell (show w.heap.size ≤ c from hc) _⟩
end
theorem lcOf {w : World} {base : Nat} {v : Value} {s : Lc} (h : OwnG lcL w base 95 v [s]) : ∃ x c, v = .slice (some ⟨x, 0, none⟩) 1 c ∧ (∃ cs, Blk w x cs 95 ∧ cs[0]? = some (lcV s)) := by
  rcases h.form with ⟨_, h2⟩ | ⟨g, cap, cur, rfl, h1, h2, h3, h4, h5, h6⟩
  · cases h2
  · refine ⟨g, cap, rfl, cur, h2, ?_⟩
    have e : (cur.toList.take ([s].length * lcL.m))[0]? = some (lcV s) := by rw [h6]; rfl
    rw [List.getElem?_take] at e
    split at e
    · simpa using e
    · cases e
set_option maxRecDepth 10000 in
set_option maxHeartbeats 32000000 in
theorem inputs21_any {base q b f : Nat} {w : World} {p rows : Int} {S : St} (pub sec : Int) (ds : List (Bool × ByteArray)) (bd cd : Nat) (h : CP base w q b p f rows S) (hD : DeP w bd ds) (hlen : ds.length ≤ 100)
    (hnew : ∀ j, j < ds.length → getN (inNs pub ds j) (ds.getD j (false, ⟨#[]⟩)).2 = none) (hpub : (pubN ds : Int) = pub) (hsec : (secN ds : Int) = sec) (hS : S.pub = pub ∧ S.sec = sec) (hv : vld S.p = true) :
    Calls Tryz.prog 20 #[.pointer (some ⟨q, 0, none⟩), .slice (some ⟨bd, 0, none⟩) ds.length cd, .int .i64 pub] w fun e w' => ∃ mm, e = .returned (.map (some mm)) ∧ NmP w' mm (inNs pub ds ds.length) ∧ Below w.heap.size w w' := by
  have hmm := @run_makeMap Tryz.prog
  have hpl : pubN ds ≤ 100 := Nat.le_trans (List.length_filter_le _ _) hlen
  have hsl : secN ds ≤ 100 := Nat.le_trans (List.length_filter_le _ _) hlen
  have hpt := pubN_take_le ds
  have hst := secN_take_le ds
  have cI : ∀ W (hC : CP base W q b p f rows S) (i : Int), 0 ≤ i ∧ i < pub + sec → Calls Tryz.prog 50 #[.pointer (some ⟨b, 0, none⟩), .int .i64 i] W (RetLn W [(1 + i, 1)]) := fun W hC i hi => by
    obtain ⟨cs, T, g, e0, e2, e5⟩ := bld_cells hC.bld
    have := Input20_any b cs T S.p S.pub S.sec i W g e0 e2 e5 hv (by omega) (wfI (by omega))
    rw [hS.1, hS.2, if_pos hi] at this
    exact this
  have cC := fun (x : Value) (W : World) => ccheck_any q x W
  obtain ⟨n, hn⟩ : ∃ n, ds.length = n := ⟨_, rfl⟩
  rw [hn] at hlen ⊢
  have hnI : (n : Int) ≤ 100 := by omega
  replace hn := hide hn
  have hpubB : 0 ≤ pub ∧ pub ≤ 100 := by omega
  have hsecB : 0 ≤ sec ∧ sec ≤ 100 := by omega
  replace hpub := hide hpub
  replace hsec := hide hsec
  go_enter Tryz.func20, Tryz.ntmps20
  go_wp2_with fail
  refine name_world fun W hN => ?_
  have hB : Below w.heap.size w W := by rw [hN]; exact (((Below.refl _ _).alloc (Nat.le_refl _) _).alloc (by simp) _).alloc (by simp; omega) _
  have J0 : InJ base w W q b p f rows S pub ds 0 0 pub :=
    ⟨h.mono hB, ⟨[], by rw [hN]; exact ((Mp.made w).mono ((Below.refl _ _).alloc (Nat.le_refl _) _)).mono ((Below.refl _ _).alloc (Nat.le_refl _) _), trivial⟩, by rw [hN]; exact (Blk.newAt (by simp)).alloc _, by rw [hN]; exact Blk.newAt (by simp), hB⟩
  clear hN hmm hB h
  go_loopw [19] (fun t19 wr => ∃ j : Nat, j ≤ n ∧ t19 = .int .i64 j ∧ InJ base w wr q b p f rows S pub ds j (pubN (ds.take j) : Nat) (pub + (secN (ds.take j) : Nat))) (fun t19 _ => n - (intOf t19).toNat)
  case atStart => exact ⟨0, by omega, rfl, by rw [show pub + ((secN (ds.take 0) : Nat) : Int) = pub by simp [secN]]; exact J0⟩
  case round =>
    clear J0
    obtain ⟨j, hj, rfl, J⟩ := hrel
    by_cases hlt : j < n
    · have hltI : (j : Int) < n := by omega
      have hil : j < ds.length := by rw [hn.out]; exact hlt
      obtain ⟨c0, c1, c2, c3, c4⟩ := hD.mono J.below j hil
      have hp : pubN (ds.take (j + 1)) = pubN (ds.take j) + if (ds.getD j (false, ⟨#[]⟩)).1 = true then 1 else 0 := by rw [take_getD hil, pubN_snoc]
      have hq : secN (ds.take (j + 1)) = secN (ds.take j) + if (ds.getD j (false, ⟨#[]⟩)).1 = true then 0 else 1 := by rw [take_getD hil, secN_snoc]
      have hPb := hpt (j + 1)
      have hQb := hst (j + 1)
      have hnw := hnew j hil
      have hsc := inNs_succ pub ds j
      have hpo := hpub.out
      have hso := hsec.out
      generalize ds.getD j (false, ⟨#[]⟩) = d at *
      obtain ⟨P, hP⟩ : ∃ P : Int, ((pubN (ds.take j) : Nat) : Int) = P := ⟨_, rfl⟩
      obtain ⟨Q, hQ⟩ : ∃ Q : Int, ((secN (ds.take j) : Nat) : Int) = Q := ⟨_, rfl⟩
      rw [hP, hQ] at J hsc
      obtain ⟨d1, d2⟩ := d
      obtain ⟨w1, rfl⟩ : ∃ w1, w1 = wr := ⟨_, rfl⟩
      have h1lt := J.cp.lt
      have w1lt := J.below.size
      have g8lt := J.g8.lt
      have g9lt := J.g9.lt
      cases d1 with
      | true =>
        have hPQ : 0 ≤ P ∧ P < pub + sec ∧ P ≤ 100 := by simp at hp; omega
        have hP1 : ((pubN (ds.take (j + 1)) : Nat) : Int) = P + 1 := by simp at hp; omega
        have hQ1 : pub + ((secN (ds.take (j + 1)) : Nat) : Int) = pub + Q := by simp at hq; omega
        have hQ2 : 0 ≤ Q ∧ Q ≤ 100 := by simp at hq; omega
        rw [if_pos rfl] at hsc
        clear hp hq hPb hQb hpo hso hP hQ
        replace hP1 := hide hP1
        replace hQ1 := hide hQ1
        replace hsc := hide hsc
        replace hnw := hide hnw
        go_wp2_with fail
        refine name_world fun W hN => ?_
        have hbW : Below w1.heap.size w1 W := by rw [hN]; exact ((Below.refl _ _).alloc (Nat.le_refl _) _).alloc (by simp) _
        have gD : Blk W w1.heap.size #[.bool true, .string d2, .int .i64 1, .int .i64 0, .int .i64 0] 34 := by rw [hN]; exact (Blk.newAt rfl).alloc _
        have gV : Blk W (w1.heap.size + 1) #[.slice none 0 0, .int .i64 1, .int .i64 0, .int .i64 0, .int .i64 0] 119 := by rw [hN]; exact Blk.newAt (by simp)
        have JW := J.mono hbW
        clear hN J c0 c1 c2 c3 c4
        go_loopw [32] (fun t32 wr => ∃ i : Nat, i ≤ 1 ∧ t32 = .int .i64 i ∧ (i = 0 → wr = W) ∧ (i = 1 → InJ base w wr q b p f rows S pub ds j (P + 1) (pub + Q) ∧ Blk wr w1.heap.size #[.bool true, .string d2, .int .i64 1, .int .i64 0, .int .i64 0] 34 ∧ ∃ (v : Vv) (s : Lc), Blk wr (w1.heap.size + 1) #[.slice (some ⟨v.bx, 0, none⟩) 1 v.c, .int .i64 1, .int .i64 0, .int .i64 0, .int .i64 0] 119 ∧ IsVv wr v s ∧ s.l = [(1 + P, 1)])) (fun t32 _ => 1 - (intOf t32).toNat)
        case atStart => exact ⟨0, by omega, rfl, fun _ => rfl, fun h => absurd h (by decide)⟩
        case round =>
          obtain ⟨i, hi, rfl, hA, hF⟩ := hrel
          rcases (show i = 0 ∨ i = 1 by omega) with rfl | rfl
          · obtain rfl := hA rfl
            clear hA hF hbW
            go_wp2_with fail
            refine Rel.region_any Tryz.mixed fun w4 hb4 => ?_
            have J4 := JW.mono hb4
            have gD4 := gD.mono hb4
            have gV4 := gV.mono hb4
            clear JW gD gV hb4
            refine Rel.any_held (fun W => W.cell? ⟨q, 1, none⟩ = some (.pointer (some ⟨b, 0, none⟩)) ∧ W.cell? ⟨w.heap.size + 1, 0, none⟩ = some (.int .i64 P)) 8 ⟨J4.cp.blk.cell (j := 1) rfl, J4.g8.cell (j := 0) rfl⟩ fun hH0 => ?_
            refine Rel.tk (v := ?_) 0 ?_ ?_
            rotate_left
            · (intro W hSw; (try dsimp only at hSw); go_simp; try with_reducible rfl)
            try simp only [Act.put, List.setIfInBounds_toArray, List.set_cons_zero, List.set_cons_succ]
            refine Rel.tk (v := ?_) 1 ?_ ?_
            rotate_left
            · (intro W hSw; (try dsimp only at hSw); go_simp; try with_reducible rfl)
            try simp only [Act.put, List.setIfInBounds_toArray, List.set_cons_zero, List.set_cons_succ]
            refine Rel.tk (v := ?_) 2 ?_ ?_
            rotate_left
            · (intro W hSw; (try dsimp only at hSw); go_simp; try with_reducible rfl)
            try simp only [Act.put, List.setIfInBounds_toArray, List.set_cons_zero, List.set_cons_succ]
            refine Rel.tk (v := ?_) 3 ?_ ?_
            rotate_left
            · (intro W hSw; (try dsimp only at hSw); go_simp; try with_reducible rfl)
            try simp only [Act.put, List.setIfInBounds_toArray, List.set_cons_zero, List.set_cons_succ]
            refine Rel.tk (v := ?_) 4 ?_ ?_
            rotate_left
            · (intro W hSw; (try dsimp only at hSw); go_simp; try with_reducible rfl)
            try simp only [Act.put, List.setIfInBounds_toArray, List.set_cons_zero, List.set_cons_succ]
            refine Rel.tk (v := ?_) 5 ?_ ?_
            rotate_left
            · (intro W hSw; (try dsimp only at hSw); go_simp; try with_reducible rfl)
            try simp only [Act.put, List.setIfInBounds_toArray, List.set_cons_zero, List.set_cons_succ]
            refine Rel.tk (v := ?_) 6 ?_ ?_
            rotate_left
            · (intro W hSw; (try dsimp only at hSw); go_simp; try with_reducible rfl)
            try simp only [Act.put, List.setIfInBounds_toArray, List.set_cons_zero, List.set_cons_succ]
            refine Rel.heldNext 7 rfl (by kernel_rfl) fun K hK => ?_
            go_simp
            refine (cI w4 J4.cp P ⟨hPQ.1, hPQ.2.1⟩).mono ?_
            rintro e w5 ⟨s, rfl, es, hs5, hb5⟩
            have J5 := J4.mono hb5
            have gD5 := gD4.mono hb5
            have gV5 := gV4.mono hb5
            clear J4 gD4 gV4 hb5
            refine hK.out _ _ ⟨J5.cp.blk.cell (j := 1) rfl, J5.g8.cell (j := 0) rfl⟩ (fun hH1 => ?_)
            clear hK K
            try simp only [Act.put, List.setIfInBounds_toArray, List.set_cons_zero, List.set_cons_succ]
            refine Rel.heldLast 8 rfl (by kernel_rfl) rfl (by kernel_rfl) fun K hK => ?_
            go_simp
            refine hK.out _ _ ?_
            clear hK K hH0 hH1
            have x0 := J5.g8.cell (j := 0) (v := .int .i64 P) rfl
            have xf := J5.g8.free
            have hw : IntKind.i64.wrap (P + 1) = P + 1 := by rw [IntKind.wrap_i64]; omega
            have J6 := J5.set8 (P + 1)
            have gD6 := gD5.other (b := w1.heap.size) (c := w.heap.size + 1) (by omega) 0 (.int .i64 (P + 1))
            have gV6 := gV5.other (b := w1.heap.size + 1) (c := w.heap.size + 1) (by omega) 0 (.int .i64 (P + 1))
            have hs6 := hs5.setType (j := 0) (u := .int .i64 (P + 1)) J5.g8 (by decide)
            have d2c := gD6.cell (j := 2) (v := .int .i64 1) rfl
            have d3c := gD6.cell (j := 3) (v := .int .i64 0) rfl
            have d4c := gD6.cell (j := 4) (v := .int .i64 0) rfl
            clear J5 gD5 gV5 hs5
            go_wp2_with fail
            refine (cC _ _).mono ?_
            rintro e w7 ⟨rfl, hb7⟩
            have J7 := J6.mono hb7
            have gD7 := gD6.mono hb7
            have gV7 := gV6.mono hb7
            have hs7 := hs6.mono hb7
            have v0 := gV7.cell (j := 0) (v := .slice none 0 0) rfl
            have hbz : w7.heap.size ≤ (w7.alloc (.cells #[lcV s] 95)).heap.size := by simp
            clear J6 gD6 gV6 hs6 hb7 x0 xf d2c d3c d4c hw
            go_wp2_with (at_builtin; refine wpList_appG _ lcL [] [s] rfl _ _ 117 rfl w7.heap.size 95 (.slice none 0 0) 24 Tryz.underlying117 Tryz.infoLc rfl (by decide) _ 1 1 (some ⟨w7.heap.size, 0, none⟩) rfl rfl rfl (OwnG.nil lcL _ _ _) (SlG.one (Blk.new _ _ _) rfl) (by simp) hbz ?_; intro v' w8 own8 hg8; refine Hold.mk ?_)
            have hb8 : Below w7.heap.size w7 w8 := hg8.belowG ((Below.refl _ _).alloc (Nat.le_refl _) _) (OwnG.nil lcL _ w7.heap.size 95) (Nat.le_refl _) hbz
            have J8 := J7.mono hb8
            have gD8 := gD7.mono hb8
            have gV8 := gV7.mono hb8
            have hs8 := hs7.mono hb8
            obtain ⟨x, xc, rfl, xs, gX, eX⟩ := lcOf own8
            clear J7 gD7 gV7 hs7 v0 own8 hg8 hb8 hbz
            refine Hold.go ?_
            have v1 := gV8.cell (j := 0) (v := .slice none 0 0) rfl
            have vf := gV8.free
            have J9 := J8.setV (k := 0) (u := .slice (some ⟨x, 0, none⟩) 1 xc) gV8 (by omega)
            have gD9 := gD8.other (b := w1.heap.size) (c := w1.heap.size + 1) (by omega) 0 (.slice (some ⟨x, 0, none⟩) 1 xc)
            have gV9 := gV8.set 0 (.slice (some ⟨x, 0, none⟩) 1 xc)
            have hs9 := hs8.setType (j := 0) (u := .slice (some ⟨x, 0, none⟩) 1 xc) gV8 (by decide)
            have eX9 : IsVv (w8.setCell ⟨w1.heap.size + 1, 0, none⟩ (.slice (some ⟨x, 0, none⟩) 1 xc)) ⟨x, xc, 1, 0, 0, 0⟩ s := ⟨_, gX.other (fun e => by subst e; exact absurd (blk_type gX gV8) (by decide)) _ _, eX, hs9⟩
            have el := es.out
            replace el := hide el
            clear J8 gD8 gV8 hs8 gX eX es
            go_wp2
            go_roundw
            case rel => exact ⟨1, by omega, rfl, fun h => absurd h (by decide), fun _ => ⟨J9, gD9, ⟨x, xc, 1, 0, 0, 0⟩, s, gV9, eX9, el.out⟩⟩
            case measure => simp [intOf]
          · obtain ⟨J9, gD9, v, s, gV9, eX9, el⟩ := hF rfl
            clear hA hF JW gD gV
            have d1c := gD9.cell (j := 1) (v := .string d2) rfl
            have y0 := gV9.cell (j := 0) (v := .slice (some ⟨v.bx, 0, none⟩) 1 v.c) rfl
            have y1 := gV9.cell (j := 1) (v := .int .i64 1) rfl
            have y2 := gV9.cell (j := 2) (v := .int .i64 0) rfl
            have y3 := gV9.cell (j := 3) (v := .int .i64 0) rfl
            have y4 := gV9.cell (j := 4) (v := .int .i64 0) rfl
            obtain ⟨L, hM, hR⟩ := J9.nm
            have iV : IsVal wr (.agg #[.slice (some ⟨v.bx, 0, none⟩) 1 v.c, .int .i64 1, .int .i64 0, .int .i64 0, .int .i64 0]) s := by
              obtain ⟨cs, e1, e2, e3⟩ := eX9
              exact ⟨v.bx, v.c, cs, 1, 0, 0, 0, rfl, e1, e2, e3⟩
            have hg0 := hR.get.1 hnw.out
            go_wp2_with (refine wpList_put Tryz.underlying81 Tryz.underlying9 rfl _ _ _ rfl (.agg #[.slice (some ⟨v.bx, 0, none⟩) 1 v.c, .int .i64 1, .int .i64 0, .int .i64 0, .int .i64 0]) rfl rfl rfl hM hg0 ?_; intro w10 hm10 hp10; refine Hold.mk ?_)
            have J10 : InJ base w w10 q b p f rows S pub ds (j + 1) (P + 1) (pub + Q) :=
              ⟨J9.cp.setM hp10 (fun _ h => hp10.lin h), ⟨_, hm10, by
                rw [hsc.out]
                exact NmR.snoc (iV.put hp10) el (hR.imp fun _ _ h => h.put hp10)⟩, hp10.blk J9.g8, hp10.blk J9.g9, hp10.below J9.below (Nat.le_refl _)⟩
            clear J9 gD9 gV9 eX9 iV hM hR hp10 hm10 d1c y0 y1 y2 y3 y4 hg0
            refine Hold.go ?_
            go_wp2
            go_roundw
            case rel => exact ⟨j + 1, by omega, by go_num, by rw [hP1.out, hQ1.out]; exact J10⟩
            case measure => simp [intOf]; omega
      | false =>
        have hPQ : 0 ≤ pub + Q ∧ pub + Q < pub + sec ∧ pub + Q ≤ 200 := by simp at hq; omega
        have hP1 : ((pubN (ds.take (j + 1)) : Nat) : Int) = P := by simp at hp; omega
        have hQ1 : pub + ((secN (ds.take (j + 1)) : Nat) : Int) = pub + Q + 1 := by simp at hq; omega
        have hQ2 : 0 ≤ P ∧ P ≤ 100 := by simp at hp; omega
        rw [if_neg (show ¬ (false, d2).1 = true from Bool.false_ne_true)] at hsc
        clear hp hq hPb hQb hpo hso hP hQ
        obtain ⟨R, hR⟩ : ∃ R, pub + Q = R := ⟨_, rfl⟩
        rw [hR] at hPQ hQ1 hsc J
        replace hP1 := hide hP1
        replace hQ1 := hide hQ1
        replace hsc := hide hsc
        replace hnw := hide hnw
        clear hR
        go_wp2_with fail
        refine name_world fun W hN => ?_
        have hbW : Below w1.heap.size w1 W := by rw [hN]; exact ((Below.refl _ _).alloc (Nat.le_refl _) _).alloc (by simp) _
        have gD : Blk W w1.heap.size #[.bool false, .string d2, .int .i64 1, .int .i64 0, .int .i64 0] 34 := by rw [hN]; exact (Blk.newAt rfl).alloc _
        have gV : Blk W (w1.heap.size + 1) #[.slice none 0 0, .int .i64 1, .int .i64 0, .int .i64 0, .int .i64 0] 119 := by rw [hN]; exact Blk.newAt (by simp)
        have JW := J.mono hbW
        clear hN J c0 c1 c2 c3 c4
        go_loopw [32] (fun t32 wr => ∃ i : Nat, i ≤ 1 ∧ t32 = .int .i64 i ∧ (i = 0 → wr = W) ∧ (i = 1 → InJ base w wr q b p f rows S pub ds j (P) (R + 1) ∧ Blk wr w1.heap.size #[.bool false, .string d2, .int .i64 1, .int .i64 0, .int .i64 0] 34 ∧ ∃ (v : Vv) (s : Lc), Blk wr (w1.heap.size + 1) #[.slice (some ⟨v.bx, 0, none⟩) 1 v.c, .int .i64 1, .int .i64 0, .int .i64 0, .int .i64 0] 119 ∧ IsVv wr v s ∧ s.l = [(1 + R, 1)])) (fun t32 _ => 1 - (intOf t32).toNat)
        case atStart => exact ⟨0, by omega, rfl, fun _ => rfl, fun h => absurd h (by decide)⟩
        case round =>
          obtain ⟨i, hi, rfl, hA, hF⟩ := hrel
          rcases (show i = 0 ∨ i = 1 by omega) with rfl | rfl
          · obtain rfl := hA rfl
            clear hA hF hbW
            go_wp2_with fail
            refine Rel.region_any Tryz.mixed fun w4 hb4 => ?_
            have J4 := JW.mono hb4
            have gD4 := gD.mono hb4
            have gV4 := gV.mono hb4
            clear JW gD gV hb4
            refine Rel.any_held (fun W => W.cell? ⟨q, 1, none⟩ = some (.pointer (some ⟨b, 0, none⟩)) ∧ W.cell? ⟨w.heap.size + 1 + 1, 0, none⟩ = some (.int .i64 R)) 8 ⟨J4.cp.blk.cell (j := 1) rfl, J4.g9.cell (j := 0) rfl⟩ fun hH0 => ?_
            refine Rel.tk (v := ?_) 0 ?_ ?_
            rotate_left
            · (intro W hSw; (try dsimp only at hSw); go_simp; try with_reducible rfl)
            try simp only [Act.put, List.setIfInBounds_toArray, List.set_cons_zero, List.set_cons_succ]
            refine Rel.tk (v := ?_) 1 ?_ ?_
            rotate_left
            · (intro W hSw; (try dsimp only at hSw); go_simp; try with_reducible rfl)
            try simp only [Act.put, List.setIfInBounds_toArray, List.set_cons_zero, List.set_cons_succ]
            refine Rel.tk (v := ?_) 2 ?_ ?_
            rotate_left
            · (intro W hSw; (try dsimp only at hSw); go_simp; try with_reducible rfl)
            try simp only [Act.put, List.setIfInBounds_toArray, List.set_cons_zero, List.set_cons_succ]
            refine Rel.tk (v := ?_) 3 ?_ ?_
            rotate_left
            · (intro W hSw; (try dsimp only at hSw); go_simp; try with_reducible rfl)
            try simp only [Act.put, List.setIfInBounds_toArray, List.set_cons_zero, List.set_cons_succ]
            refine Rel.tk (v := ?_) 4 ?_ ?_
            rotate_left
            · (intro W hSw; (try dsimp only at hSw); go_simp; try with_reducible rfl)
            try simp only [Act.put, List.setIfInBounds_toArray, List.set_cons_zero, List.set_cons_succ]
            refine Rel.tk (v := ?_) 5 ?_ ?_
            rotate_left
            · (intro W hSw; (try dsimp only at hSw); go_simp; try with_reducible rfl)
            try simp only [Act.put, List.setIfInBounds_toArray, List.set_cons_zero, List.set_cons_succ]
            refine Rel.tk (v := ?_) 6 ?_ ?_
            rotate_left
            · (intro W hSw; (try dsimp only at hSw); go_simp; try with_reducible rfl)
            try simp only [Act.put, List.setIfInBounds_toArray, List.set_cons_zero, List.set_cons_succ]
            refine Rel.heldNext 7 rfl (by kernel_rfl) fun K hK => ?_
            go_simp
            refine (cI w4 J4.cp R ⟨hPQ.1, hPQ.2.1⟩).mono ?_
            rintro e w5 ⟨s, rfl, es, hs5, hb5⟩
            have J5 := J4.mono hb5
            have gD5 := gD4.mono hb5
            have gV5 := gV4.mono hb5
            clear J4 gD4 gV4 hb5
            refine hK.out _ _ ⟨J5.cp.blk.cell (j := 1) rfl, J5.g9.cell (j := 0) rfl⟩ (fun hH1 => ?_)
            clear hK K
            try simp only [Act.put, List.setIfInBounds_toArray, List.set_cons_zero, List.set_cons_succ]
            refine Rel.heldLast 8 rfl (by kernel_rfl) rfl (by kernel_rfl) fun K hK => ?_
            go_simp
            refine hK.out _ _ ?_
            clear hK K hH0 hH1
            have x0 := J5.g9.cell (j := 0) (v := .int .i64 R) rfl
            have xf := J5.g9.free
            have hw : IntKind.i64.wrap (R + 1) = R + 1 := by rw [IntKind.wrap_i64]; omega
            have J6 := J5.set9 (R + 1)
            have gD6 := gD5.other (b := w1.heap.size) (c := w.heap.size + 1 + 1) (by omega) 0 (.int .i64 (R + 1))
            have gV6 := gV5.other (b := w1.heap.size + 1) (c := w.heap.size + 1 + 1) (by omega) 0 (.int .i64 (R + 1))
            have hs6 := hs5.setType (j := 0) (u := .int .i64 (R + 1)) J5.g9 (by decide)
            have d2c := gD6.cell (j := 2) (v := .int .i64 1) rfl
            have d3c := gD6.cell (j := 3) (v := .int .i64 0) rfl
            have d4c := gD6.cell (j := 4) (v := .int .i64 0) rfl
            clear J5 gD5 gV5 hs5
            go_wp2_with fail
            refine (cC _ _).mono ?_
            rintro e w7 ⟨rfl, hb7⟩
            have J7 := J6.mono hb7
            have gD7 := gD6.mono hb7
            have gV7 := gV6.mono hb7
            have hs7 := hs6.mono hb7
            have v0 := gV7.cell (j := 0) (v := .slice none 0 0) rfl
            have hbz : w7.heap.size ≤ (w7.alloc (.cells #[lcV s] 95)).heap.size := by simp
            clear J6 gD6 gV6 hs6 hb7 x0 xf d2c d3c d4c hw
            go_wp2_with (at_builtin; refine wpList_appG _ lcL [] [s] rfl _ _ 117 rfl w7.heap.size 95 (.slice none 0 0) 24 Tryz.underlying117 Tryz.infoLc rfl (by decide) _ 1 1 (some ⟨w7.heap.size, 0, none⟩) rfl rfl rfl (OwnG.nil lcL _ _ _) (SlG.one (Blk.new _ _ _) rfl) (by simp) hbz ?_; intro v' w8 own8 hg8; refine Hold.mk ?_)
            have hb8 : Below w7.heap.size w7 w8 := hg8.belowG ((Below.refl _ _).alloc (Nat.le_refl _) _) (OwnG.nil lcL _ w7.heap.size 95) (Nat.le_refl _) hbz
            have J8 := J7.mono hb8
            have gD8 := gD7.mono hb8
            have gV8 := gV7.mono hb8
            have hs8 := hs7.mono hb8
            obtain ⟨x, xc, rfl, xs, gX, eX⟩ := lcOf own8
            clear J7 gD7 gV7 hs7 v0 own8 hg8 hb8 hbz
            refine Hold.go ?_
            have v1 := gV8.cell (j := 0) (v := .slice none 0 0) rfl
            have vf := gV8.free
            have J9 := J8.setV (k := 0) (u := .slice (some ⟨x, 0, none⟩) 1 xc) gV8 (by omega)
            have gD9 := gD8.other (b := w1.heap.size) (c := w1.heap.size + 1) (by omega) 0 (.slice (some ⟨x, 0, none⟩) 1 xc)
            have gV9 := gV8.set 0 (.slice (some ⟨x, 0, none⟩) 1 xc)
            have hs9 := hs8.setType (j := 0) (u := .slice (some ⟨x, 0, none⟩) 1 xc) gV8 (by decide)
            have eX9 : IsVv (w8.setCell ⟨w1.heap.size + 1, 0, none⟩ (.slice (some ⟨x, 0, none⟩) 1 xc)) ⟨x, xc, 1, 0, 0, 0⟩ s := ⟨_, gX.other (fun e => by subst e; exact absurd (blk_type gX gV8) (by decide)) _ _, eX, hs9⟩
            have el := es.out
            replace el := hide el
            clear J8 gD8 gV8 hs8 gX eX es
            go_wp2
            go_roundw
            case rel => exact ⟨1, by omega, rfl, fun h => absurd h (by decide), fun _ => ⟨J9, gD9, ⟨x, xc, 1, 0, 0, 0⟩, s, gV9, eX9, el.out⟩⟩
            case measure => simp [intOf]
          · obtain ⟨J9, gD9, v, s, gV9, eX9, el⟩ := hF rfl
            clear hA hF JW gD gV
            have d1c := gD9.cell (j := 1) (v := .string d2) rfl
            have y0 := gV9.cell (j := 0) (v := .slice (some ⟨v.bx, 0, none⟩) 1 v.c) rfl
            have y1 := gV9.cell (j := 1) (v := .int .i64 1) rfl
            have y2 := gV9.cell (j := 2) (v := .int .i64 0) rfl
            have y3 := gV9.cell (j := 3) (v := .int .i64 0) rfl
            have y4 := gV9.cell (j := 4) (v := .int .i64 0) rfl
            obtain ⟨L, hM, hR⟩ := J9.nm
            have iV : IsVal wr (.agg #[.slice (some ⟨v.bx, 0, none⟩) 1 v.c, .int .i64 1, .int .i64 0, .int .i64 0, .int .i64 0]) s := by
              obtain ⟨cs, e1, e2, e3⟩ := eX9
              exact ⟨v.bx, v.c, cs, 1, 0, 0, 0, rfl, e1, e2, e3⟩
            have hg0 := hR.get.1 hnw.out
            go_wp2_with (refine wpList_put Tryz.underlying81 Tryz.underlying9 rfl _ _ _ rfl (.agg #[.slice (some ⟨v.bx, 0, none⟩) 1 v.c, .int .i64 1, .int .i64 0, .int .i64 0, .int .i64 0]) rfl rfl rfl hM hg0 ?_; intro w10 hm10 hp10; refine Hold.mk ?_)
            have J10 : InJ base w w10 q b p f rows S pub ds (j + 1) (P) (R + 1) :=
              ⟨J9.cp.setM hp10 (fun _ h => hp10.lin h), ⟨_, hm10, by
                rw [hsc.out]
                exact NmR.snoc (iV.put hp10) el (hR.imp fun _ _ h => h.put hp10)⟩, hp10.blk J9.g8, hp10.blk J9.g9, hp10.below J9.below (Nat.le_refl _)⟩
            clear J9 gD9 gV9 eX9 iV hM hR hp10 hm10 d1c y0 y1 y2 y3 y4 hg0
            refine Hold.go ?_
            go_wp2
            go_roundw
            case rel => exact ⟨j + 1, by omega, by go_num, by rw [hP1.out, hQ1.out]; exact J10⟩
            case measure => simp [intOf]; omega
    · obtain rfl : j = n := by omega
      have hN := J.nm
      have hB := J.below
      clear J
      go_wp2
      go_ret
      exact ⟨_, rfl, hN, hB⟩
end Go.Proofs.YtalmgeefkcebdaaGreatDoor

