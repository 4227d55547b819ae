/- Exhaustive search: the assignments that begin with a front. -/
import Derived.Test.YtlgjnidphldiiaaExI
namespace Go.Proofs.Ytlgjnidphldiiaa
open Go.ChangeShapes Go.WideShapes Go.ChangeAt Go.RowKit

theorem equations_es {w0 w : World} {q p V last gi gr gw : Nat} {IL : List Int} {R : List Row3} {Wl : List Int} (D : SS w0 w q p V last gi gr gw IL R Wl) (hA : AllW Wl) (hVl : Wl.length = V) (v : Nat) (vi : Int) (hvi : vi = v) (hv : vld (p : Int) = true) (hR : ∀ r ∈ R, RowOk p V r) (hvV : v < V) (hn : R.length ≤ 1000000) :
    Calls Try.prog 130 #[.pointer (some ⟨q, 0, none⟩), .int .i64 vi] w fun en w' => ∃ g, en = .returned (.slice (some ⟨g, 0, none⟩) (esV p R Wl v).length (esV p R Wl v).length) ∧ OwnG eqL w' w.heap.size 158 (.slice (some ⟨g, 0, none⟩) (esV p R Wl v).length (esV p R Wl v).length) (esV p R Wl v) ∧ Below w.heap.size w w' := by
  subst hvi
  exact equations_any D hA hVl v hv hR hvV hn
/-- What with answers and leaves. -/
def RetW (w0 w : World) (q p V last gi gr gw : Nat) (IL : List Int) (R : List Row3) (front : List Int) (most : Int) (en : Ending) (w' : World) : Prop :=
  en = .returned (.int .i64 (totN p R V front most)) ∧ ∃ Wl', SS w0 w' q p V last gi gr gw IL R Wl' ∧ AllW Wl' ∧ Wl'.length = V ∧ Wl'.take 1 = [1] ∧ KW gw w0.heap.size w w'

set_option maxRecDepth 10000 in
set_option maxHeartbeats 16000000 in
theorem with_any {w0 w : World} {q p V last gi gr gw : Nat} {IL : List Int} {R : List Row3} {Wl : List Int} (D : SS w0 w q p V last gi gr gw IL R Wl) (hA : AllW Wl) (hVl : Wl.length = V) (hW1 : Wl.take 1 = [1]) (hV : V ≤ 65536) (hv : vld (p : Int) = true) (h257 : p ≤ 257) (hR : ∀ r ∈ R, RowOk p V r) (hn : R.length ≤ 1000000) (hI : InvL p p IL) (hIl : IL.length = p) (hlast : ∀ r ∈ R, gtR r ≤ last) (hlV : last < V)
    (fa : Option Addr) (fc : Nat) (front : List Int) (most : Int) (sF : Sl w .u64 fa front) (hF : ∀ x ∈ front, 0 ≤ x ∧ x < p) (hfl : 1 + front.length ≤ V) (hfa : 0 < front.length → ∀ b off, fa = some ⟨b, off, none⟩ → b ≠ gw) (hm : 0 ≤ most ∧ most ≤ 9223372036854775807) :
    Calls Try.prog 104 #[.pointer (some ⟨q, 0, none⟩), .slice fa front.length fc, .int .i64 most] w (RetW w0 w q p V last gi gr gw IL R front most) := by
  have hp := vld_pos hv
  have cE := fun W Wl2 (v : Nat) (vi : Int) (D : SS w0 W q p V last gi gr gw IL R Wl2) hA2 hl2 hvi hvV => equations_es (w := W) D hA2 hl2 v vi hvi hv hR hvV hn
  have hesb := fun Wl2 v => esV_bd (V := V) (Wl := Wl2) (v := v) hv hR
  have hesl : ∀ Wl2 v, (esV p R Wl2 v).length ≤ 1000000 := fun Wl2 v => by
    unfold esV rowsAt
    rw [List.length_map]
    exact Nat.le_trans (List.length_filter_le _ _) hn
  have h0s := okAt_es0 hv hR hW1
  have his := fun Wl2 v h0 hl x => okAt_es (Wl := Wl2) (v := v) hv hR h0 hl x
  have cC := fun k v hk h0 W Wl2 m D hA2 hl2 => count_any (w0 := w0) (q := q) (gi := gi) (gr := gr) (gw := gw) hV hv h257 hR hn hI hIl hlast hlV k v hk h0 W Wl2 m D hA2 hl2
  obtain ⟨hm1, hm2⟩ := hm
  obtain ⟨n, hnl⟩ : ∃ n, front.length = n := ⟨_, rfl⟩
  rw [hnl] at hfl
  rw [hnl]
  have hnI : (n : Int) ≤ 65536 := by omega
  replace hnl := hide hnl
  replace hF := hide hF
  replace his := hide his
  replace hI := hide hI
  clear hR hn hlast
  obtain ⟨es, he⟩ : ∃ es, es = esV p R Wl 0 := ⟨_, rfl⟩
  have cE0 := fun W D => cE W Wl 0 0 D hA hVl rfl (by omega)
  have hes0 := hesb Wl 0
  have hel0 := hesl Wl 0
  rw [← he] at cE0 hes0 hel0 h0s
  obtain ⟨m, hml⟩ : ∃ m, es.length = m := ⟨_, rfl⟩
  rw [hml] at cE0 hel0
  replace hml := hide hml
  replace he := hide he
  have hp0 : (0 : Int) < p ∧ (p : Int) ≤ 257 := ⟨by omega, by omega⟩
  go_enter Try.func104, Try.ntmps104
  go_wp2_with fail
  refine Rel.region_any Try.mixed fun w4 hb4 => ?_
  have D4 := D.mono hb4
  refine Rel.any_held (fun W => W.cell? ⟨q, 0, none⟩ = some (.int .u64 p)) 7 (D4.blk.cell (j := 0) rfl) fun hH0 => ?_
  refine Rel.heldTake (v := ?_) 0 rfl (by kernel_rfl) (by kernel_rfl) (by kernel_rfl) (fun _ _ _ h => h) (by assumption) (by rfl) ?_ ?_
  rotate_left
  · (intro W hSw; (try dsimp only at hSw); go_simp; try with_reducible rfl)
  try simp only [Act.put, List.setIfInBounds_toArray, List.set_cons_zero, List.set_cons_succ]
  refine Rel.heldTake (v := ?_) 2 rfl (by kernel_rfl) (by kernel_rfl) (by kernel_rfl) (fun _ _ _ h => h) (by assumption) (by rfl) ?_ ?_
  rotate_left
  · (intro W hSw; (try dsimp only at hSw); go_simp; try with_reducible rfl)
  try simp only [Act.put, List.setIfInBounds_toArray, List.set_cons_zero, List.set_cons_succ]
  refine Rel.heldTake (v := ?_) 3 rfl (by kernel_rfl) (by kernel_rfl) (by kernel_rfl) (fun _ _ _ h => h) (by assumption) (by rfl) ?_ ?_
  rotate_left
  · (intro W hSw; (try dsimp only at hSw); go_simp; try with_reducible rfl)
  try simp only [Act.put, List.setIfInBounds_toArray, List.set_cons_zero, List.set_cons_succ]
  refine Rel.heldTake (v := ?_) 4 rfl (by kernel_rfl) (by kernel_rfl) (by kernel_rfl) (fun _ _ _ h => h) (by assumption) (by rfl) ?_ ?_
  rotate_left
  · (intro W hSw; (try dsimp only at hSw); go_simp; try with_reducible rfl)
  try simp only [Act.put, List.setIfInBounds_toArray, List.set_cons_zero, List.set_cons_succ]
  refine Rel.heldTake (v := ?_) 5 rfl (by kernel_rfl) (by kernel_rfl) (by kernel_rfl) (fun _ _ _ h => h) (by assumption) (by rfl) ?_ ?_
  rotate_left
  · (intro W hSw; (try dsimp only at hSw); go_simp; try with_reducible rfl)
  try simp only [Act.put, List.setIfInBounds_toArray, List.set_cons_zero, List.set_cons_succ]
  refine Rel.heldNext 1 rfl (by kernel_rfl) fun K hK => ?_
  go_simp
  refine (cE0 w4 D4).mono ?_
  rintro en w5 ⟨g, rfl, ow, hb5⟩
  have D5 := D4.mono hb5
  refine hK.out _ _ (D5.blk.cell (j := 0) rfl) (fun hH1 => ?_)
  clear hK K
  try simp only [Act.put, List.setIfInBounds_toArray, List.set_cons_zero, List.set_cons_succ]
  refine Rel.heldNext 6 rfl (by kernel_rfl) fun K hK => ?_
  go_simp
  have cAH := fun W (h : SlG eqL W (some ⟨g, 0, none⟩) es) => allHold_any p 0 (some ⟨g, 0, none⟩) m es W hp0 h hes0 ⟨by omega, by omega⟩ (by rw [hml.out]; exact hel0)
  rw [hml.out] at cAH
  refine (cAH w5 ow.slE).mono ?_
  rintro en w6 ⟨rfl, hb6⟩
  have D6 := D5.mono hb6
  have hB6 := below2 (below2 hb4 hb5) hb6
  have sF6 := sF.mono hB6
  have k6 : KW gw w0.heap.size w w6 := KW.of_below hB6 D.below.size
  by_cases hall : es.all (holdsE p 0) = true
  · rw [hall]
    rw [hall] at h0s
    refine hK.out _ _ (D6.blk.cell (j := 0) rfl) (fun hH2 => ?_)
    clear hK K
    try simp only [Act.put, List.setIfInBounds_toArray, List.set_cons_zero, List.set_cons_succ]
    refine Rel.heldLast 7 rfl (by kernel_rfl) rfl (by kernel_rfl) fun K hK => ?_
    go_simp
    refine hK.out _ _ ?_
    clear hK K hH0 hH1 hH2 cAH hb4 hb5 hb6 ow D4 D5 cE0 hes0 hB6
    have hW1' := hide hW1
    have hk0 : ∀ k, k < 0 + 1 → okAt p R (1 :: front.take k) = true := fun k hk => by
      obtain rfl : k = 0 := by omega
      exact h0s
    replace h0s := hide h0s
    replace hk0 := hide hk0
    go_wp2_with fail
    go_loopw [19] (fun t19 wr => ∃ (i : Nat) (Wl1 : List Int), i ≤ n ∧ t19 = .int .i64 i ∧ SS w0 wr q p V last gi gr gw IL R Wl1 ∧ AllW Wl1 ∧ Hid (Wl1.length = V) ∧ Hid (Wl1.take (i + 1) = 1 :: front.take i) ∧ Sl wr .u64 fa front ∧ KW gw w0.heap.size w wr ∧ Hid (∀ k, k < i + 1 → okAt p R (1 :: front.take k) = true)) (fun t19 _ => n - (intOf t19).toNat)
    case atStart => exact ⟨0, Wl, Nat.zero_le _, rfl, D6, hA, hide hVl, hide hW1, sF6, k6, hk0⟩
    case round =>
      obtain ⟨i, Wl1, hi, rfl, Dx, hAx, hlx, htx, sFx, kx, hok⟩ := hrel
      obtain ⟨v, hvd⟩ : ∃ v, v = i + 1 := ⟨_, rfl⟩
      have hv1 : (1 : Int) + i = v := by omega
      have hw1 : IntKind.i64.wrap (v : Int) = v := by rw [IntKind.wrap_i64]; omega
      have hv0 : 0 < v := by omega
      have hlxo := hlx.out
      rw [← hvd] at htx
      by_cases hlt : i < n
      · have hltI : (i : Int) < n := by omega
        have hif : i < front.length := by have := hnl.out; omega
        obtain ⟨b, off, hfae, _, hfc⟩ := sFx (by omega)
        have hc := hfc i hif
        have hxb := hF.out _ (getD_mem' hif 0)
        have hst := take_front hif
        have hy := his.out Wl1 v hv0 (by omega)
        obtain ⟨x, hx⟩ : ∃ x, x = front.getD i 0 := ⟨_, rfl⟩
        rw [← hx] at hc hxb hst
        replace hx := hide hx
        have hyx := hy x
        rw [htx.out, ← hst] at hyx
        have cEx := fun W D => cE W Wl1 v v D hAx hlxo rfl (by omega)
        have hesx := hesb Wl1 v
        have helx := hesl Wl1 v
        obtain ⟨ex, hex⟩ : ∃ ex, ex = esV p R Wl1 v := ⟨_, rfl⟩
        rw [← hex] at cEx hesx helx hyx
        obtain ⟨mx, hmx⟩ : ∃ mx, ex.length = mx := ⟨_, rfl⟩
        rw [hmx] at cEx helx
        replace hmx := hide hmx
        replace hex := hide hex
        replace hst := hide hst
        replace hvd := hide hvd
        obtain ⟨hx0, hx1⟩ := hxb
        cases hfae
        clear hy hfc
        have hvV : (v : Int) < V := by omega
        have hvV0 : (0 : Int) ≤ v := by omega
        go_wp2_with fail
        refine Rel.region_any Try.mixed fun w7 hb7 => ?_
        have D7 := Dx.mono hb7
        refine Rel.any_held (fun W => W.cell? ⟨q, 0, none⟩ = some (.int .u64 p)) 10 (D7.blk.cell (j := 0) rfl) fun hH0 => ?_
        refine Rel.heldTake (v := ?_) 0 rfl (by kernel_rfl) (by kernel_rfl) (by kernel_rfl) (fun _ _ _ h => h) (by assumption) (by rfl) ?_ ?_
        rotate_left
        · (intro W hSw; (try dsimp only at hSw); go_simp; try with_reducible rfl)
        try simp only [Act.put, List.setIfInBounds_toArray, List.set_cons_zero, List.set_cons_succ]
        refine Rel.heldTake (v := ?_) 1 rfl (by kernel_rfl) (by kernel_rfl) (by kernel_rfl) (fun _ _ _ h => h) (by assumption) (by rfl) ?_ ?_
        rotate_left
        · (intro W hSw; (try dsimp only at hSw); go_simp; try with_reducible rfl)
        try simp only [Act.put, List.setIfInBounds_toArray, List.set_cons_zero, List.set_cons_succ]
        refine Rel.heldTake (v := ?_) 2 rfl (by kernel_rfl) (by kernel_rfl) (by kernel_rfl) (fun _ _ _ h => h) (by assumption) (by rfl) ?_ ?_
        rotate_left
        · (intro W hSw; (try dsimp only at hSw); go_simp; try with_reducible rfl)
        try simp only [Act.put, List.setIfInBounds_toArray, List.set_cons_zero, List.set_cons_succ]
        refine Rel.heldTake (v := ?_) 4 rfl (by kernel_rfl) (by kernel_rfl) (by kernel_rfl) (fun _ _ _ h => h) (by assumption) (by rfl) ?_ ?_
        rotate_left
        · (intro W hSw; (try dsimp only at hSw); go_simp; try with_reducible rfl)
        try simp only [Act.put, List.setIfInBounds_toArray, List.set_cons_zero, List.set_cons_succ]
        refine Rel.heldTake (v := ?_) 5 rfl (by kernel_rfl) (by kernel_rfl) (by kernel_rfl) (fun _ _ _ h => h) (by assumption) (by rfl) ?_ ?_
        rotate_left
        · (intro W hSw; (try dsimp only at hSw); go_simp; try with_reducible rfl)
        try simp only [Act.put, List.setIfInBounds_toArray, List.set_cons_zero, List.set_cons_succ]
        refine Rel.heldTake (v := ?_) 6 rfl (by kernel_rfl) (by kernel_rfl) (by kernel_rfl) (fun _ _ _ h => h) (by assumption) (by rfl) ?_ ?_
        rotate_left
        · (intro W hSw; (try dsimp only at hSw); go_simp; try with_reducible rfl)
        try simp only [Act.put, List.setIfInBounds_toArray, List.set_cons_zero, List.set_cons_succ]
        refine Rel.heldTake (v := ?_) 7 rfl (by kernel_rfl) (by kernel_rfl) (by kernel_rfl) (fun _ _ _ h => h) (by assumption) (by rfl) ?_ ?_
        rotate_left
        · (intro W hSw; (try dsimp only at hSw); go_simp; try with_reducible rfl)
        try simp only [Act.put, List.setIfInBounds_toArray, List.set_cons_zero, List.set_cons_succ]
        refine Rel.heldTake (v := ?_) 8 rfl (by kernel_rfl) (by kernel_rfl) (by kernel_rfl) (fun _ _ _ h => h) (by assumption) (by rfl) ?_ ?_
        rotate_left
        · (intro W hSw; (try dsimp only at hSw); go_simp; try with_reducible rfl)
        try simp only [Act.put, List.setIfInBounds_toArray, List.set_cons_zero, List.set_cons_succ]
        refine Rel.heldNext 3 rfl (by kernel_rfl) fun K hK => ?_
        go_simp
        refine (cEx w7 D7).mono ?_
        rintro en w8 ⟨g2, rfl, ow2, hb8⟩
        have D8 := D7.mono hb8
        refine hK.out _ _ (D8.blk.cell (j := 0) rfl) (fun hH1 => ?_)
        clear hK K
        try simp only [Act.put, List.setIfInBounds_toArray, List.set_cons_zero, List.set_cons_succ]
        refine Rel.heldNext 9 rfl (by kernel_rfl) fun K hK => ?_
        go_simp
        have cAH := fun W (h : SlG eqL W (some ⟨g2, 0, none⟩) ex) => allHold_any p x (some ⟨g2, 0, none⟩) mx ex W hp0 h hesx ⟨hx0, hx1⟩ (by rw [hmx.out]; exact helx)
        rw [hmx.out] at cAH
        refine (cAH w8 ow2.slE).mono ?_
        rintro en w9 ⟨rfl, hb9⟩
        have D9 := D8.mono hb9
        have hB9 := below2 (below2 hb7 hb8) hb9
        have sF9 := sFx.mono hB9
        have k9 := kx.trans (KW.of_below hB9 Dx.below.size)
        by_cases hallx : ex.all (holdsE p x) = true
        · rw [hallx]
          rw [hallx] at hyx
          refine hK.out _ _ (D9.blk.cell (j := 0) rfl) (fun hH2 => ?_)
          clear hK K
          try simp only [Act.put, List.setIfInBounds_toArray, List.set_cons_zero, List.set_cons_succ]
          refine Rel.heldLast 10 rfl (by kernel_rfl) rfl (by kernel_rfl) fun K hK => ?_
          go_simp
          refine hK.out _ _ ?_
          clear hK K hH0 hH1 hH2 cAH hb7 hb8 hb9 ow2 D7 D8 cEx hesx hB9
          obtain ⟨DA, kA⟩ := D9.setW v x
          have sFA := sF9.setOther (g := gw) (j := v) (u := .int .u64 x) hfa
          have hset : Hid ((Wl1.set v x).take (i + 1 + 1) = 1 :: front.take (i + 1)) := hide (by
            rw [hst.out, ← hvd.out, take_succ_getD _ 0 (by rw [List.length_set]; omega), List.take_set_of_le (Nat.le_refl _), List.getD_eq_getElem?_getD, List.getElem?_set_self (by omega), htx.out]
            rfl)
          have hokn : Hid (∀ k, k < i + 1 + 1 → okAt p R (1 :: front.take k) = true) := hide fun k hk => by
            by_cases e : k = i + 1
            · subst e; exact hyx
            · exact hok.out k (by omega)
          have hAn : AllW (Wl1.set v x) := fun u hu => by
            rcases List.mem_or_eq_of_mem_set hu with hu | hu
            · exact hAx u hu
            · subst hu; omega
          have q4 := D9.blk.cell (j := 4) rfl
          have ff := D9.ow.free v
          have cc := D9.ow.cell (j := v) (by omega)
          have kn := k9.trans kA
          clear hyx hc
          go_wp2
          go_roundw
          case rel => exact ⟨i + 1, _, by omega, by go_num, DA, hAn, hide (by rw [List.length_set]; exact hlxo), hset, sFA, kn, hokn⟩
          case measure => simp [intOf]; omega
        · have hallx2 : ex.all (holdsE p x) = false := by simpa using hallx
          rw [hallx2]
          rw [hallx2] at hyx
          have hno := preOk_stop (p := p) (k := i + 1) (by have := hnl.out; omega) hyx
          have hfinal : RetW w0 w q p V last gi gr gw IL R front most (.returned (.int .i64 0)) w9 := ⟨by unfold totN; rw [hno]; rfl, Wl1, D9, hAx, hlxo, by
            have := congrArg (List.take 1) htx.out
            rw [List.take_take, Nat.min_eq_left (by omega)] at this
            exact this, k9⟩
          refine hK.out _ _ (D9.blk.cell (j := 0) rfl) (fun hH2 => ?_)
          clear hK K
          try simp only [Act.put, List.setIfInBounds_toArray, List.set_cons_zero, List.set_cons_succ]
          refine Rel.heldLast 10 rfl (by kernel_rfl) rfl (by kernel_rfl) fun K hK => ?_
          go_simp
          refine hK.out _ _ ?_
          clear hK K hH0 hH1 hH2 cAH hno hyx
          go_wp2
          exact bodyPost_ret (v := .int .i64 0) (by simp [results, Try.results104, go_sem]) rfl hfinal
      · obtain rfl : i = n := by omega
        have cI := cC (V - v) v (by omega) hv0 wr Wl1 most Dx hAx hlxo hm1 hm2
        have hyes := preOk_all (p := p) (R := R) (front := front) (by rw [hnl.out]; exact hok.out)
        have hfr : front.take i = front := List.take_of_length_le (by rw [hnl.out]; exact Nat.le_refl _)
        rw [hfr] at htx
        have hres : Hid (totN p R V front most = min most (cnt p R (V - v) (Wl1.take v) : Int)) := hide (by
          unfold totN
          rw [hyes, if_pos rfl, htx.out, hnl.out, hvd, Nat.add_comm])
        clear hyes hfr
        replace hvd := hide hvd
        go_wp2_with fail
        refine cI.mono ?_
        rintro en wz ⟨rfl, Wl', Dz, hAz, hlz, htz, kz⟩
        have hfinal : RetW w0 w q p V last gi gr gw IL R front most (.returned (.int .i64 (min most (cnt p R (V - v) (Wl1.take v) : Int)))) wz := ⟨by rw [hres.out], Wl', Dz, hAz, hlz, by
          have := congrArg (List.take 1) (htz.trans htx.out)
          rw [List.take_take, Nat.min_eq_left (by omega)] at this
          exact this, kx.trans kz⟩
        generalize min most (cnt p R (V - v) (Wl1.take v) : Int) = z at *
        go_wp2
        exact bodyPost_ret (v := .int .i64 z) (by simp [results, Try.results104, go_sem]) rfl hfinal
  · have hall2 : es.all (holdsE p 0) = false := by simpa using hall
    rw [hall2]
    rw [hall2] at h0s
    have hno := preOk_stop (p := p) (front := front) (k := 0) (Nat.zero_le _) h0s
    have hfinal : RetW w0 w q p V last gi gr gw IL R front most (.returned (.int .i64 0)) w6 := ⟨by unfold totN; rw [hno]; rfl, Wl, D6, hA, hVl, hW1, k6⟩
    refine hK.out _ _ (D6.blk.cell (j := 0) rfl) (fun hH2 => ?_)
    clear hK K
    try simp only [Act.put, List.setIfInBounds_toArray, List.set_cons_zero, List.set_cons_succ]
    refine Rel.heldLast 7 rfl (by kernel_rfl) rfl (by kernel_rfl) fun K hK => ?_
    go_simp
    refine hK.out _ _ ?_
    clear hK K hH0 hH1 hH2 cAH hno h0s
    go_wp2
    exact bodyPost_ret (v := .int .i64 0) (by simp [results, Try.results104, go_sem]) rfl hfinal
end Go.Proofs.Ytlgjnidphldiiaa
