/- GadgetHash: the value of Hash is the hash of the values of its operands. -/
import Derived.Test.YtlgjnidphldiiaaGmh
import Derived.Test.YtlgjnidphldiiaaHashX
import Derived.Test.YtlgjnidphldiiaaFrame
namespace Go.Proofs.Ytlgjnidphldiiaa
open Go.ChangeShapes Go.WideShapes Go.ChangeAt Go.RowKit
namespace gadgetHash

theorem KX.ownI {X : TypeId → Prop} {w w' : World} {base b0 : Nat} {E : TypeId} {kk : IntKind} {v : Value} {xs : List Int} (k : KX X base w w') (hX : ¬ X E) (h : Own w b0 E kk v xs) : Own w' b0 E kk v xs := by
  rcases h.form with ⟨rfl, rfl⟩ | ⟨g, cap, cur, rfl, g1, g2, g3, g4, g5, g6⟩
  · exact Own.nil _ _ _ _
  · exact Own.of_blk g1 (k.typ g cur E g2 hX) g3 g4 g5 g6
theorem KX.grewI {X : TypeId → Prop} {w w' : World} {base : Nat} {T : TypeId} {kk : IntKind} {v v' : Value} {xs : List Int} (ho : Own w base T kk v xs) (hg : Grew w w' v v') (hX : X T) (hb : base ≤ w.heap.size) : KX X base w w' :=
  ⟨hg.below (Below.refl _ _) ho (Nat.le_refl _) hb, fun _ _ _ g h => hg.blk g (own_neq ho g (fun e => h (e ▸ hX)))⟩
theorem bld_cells {w : World} {base b : Nat} {S : St} {A : Nat → Prop} (h : Bld w base b S A) : ∃ cs, Blk w b cs 104 ∧ cs[0]? = some (.int .u64 S.p) ∧ cs[2]? = some (.int .i64 S.pub) ∧ cs[5]? = some (.int .i64 S.sec) := by
  obtain ⟨vr, R, vh, H, h⟩ := h
  exact ⟨_, h.blk, rfl, rfl, rfl⟩
def XU (T : TypeId) : Prop := T = 22
theorem xlnU : ¬ XLn 22 := by unfold XLn; decide
theorem inL_succ (k : Nat) : inL (k + 1) = inL k ++ [[(1 + (k : Int), 1)]] := by
  unfold inL
  rw [List.range_succ, List.map_append]
  rfl
theorem Kept.ownI {w w' : World} {base b0 : Nat} {E : TypeId} {kk : IntKind} {v : Value} {xs : List Int} (k : Kept base w w') (h1 : E ≠ 106) (h2 : E ≠ 108) (h3 : E ≠ 104) (h : Own w b0 E kk v xs) : Own w' b0 E kk v xs := by
  rcases h.form with ⟨rfl, rfl⟩ | ⟨g, cap, cur, rfl, g1, g2, g3, g4, g5, g6⟩
  · exact Own.nil _ _ _ _
  · exact Own.of_blk g1 (k.typ g cur E g2 h1 h2 h3) g3 g4 g5 g6
/-- The first loop. -/
structure L1 (w wr : World) (b : Nat) (S : St) (v10 v11 : Value) (I : List Int) (k : Nat) : Prop where
  below : Below w.heap.size w wr
  bld : Bld wr w.heap.size b S
  own : Own wr w.heap.size 22 .u64 v10 (I.take k)
  ls : ∃ Ls, OwnG lcL wr w.heap.size 44 v11 Ls ∧ (∀ s ∈ Ls, LinT wr s) ∧ Hid (Ls.map Lc.l = inL k)

/-- The circuit of GadgetHash. -/
theorem facts {p label n : Int} {I : List Int} {VL : List Lin} (hv : vld p = true) (hI : ∀ x ∈ I, 0 ≤ x ∧ x < p) (hn : (I.length : Int) = n) (hn5 : I.length ≤ 5) (hV : VL = inL I.length) :
    Wf (gHash (newS p 0 n) label VL).1 I ∧ (gHash (newS p 0 n) label VL).1.p = p ∧ (gHash (newS p 0 n) label VL).1.vars ≤ 65536 ∧ (gHash (newS p 0 n) label VL).1.R.length ≤ 16384 ∧ Sat (gHash (newS p 0 n) label VL).1 I ∧ linOk p (gHash (newS p 0 n) label VL).1.vars (gHash (newS p 0 n) label VL).2 = true ∧ lval p (fin (gHash (newS p 0 n) label VL).1 I) (gHash (newS p 0 n) label VL).2 = hash p label I := by
  have hq : 0 ≤ (0 : Int) ∧ 0 ≤ n ∧ (I.length : Int) = 0 + n := ⟨by decide, by omega, by omega⟩
  obtain ⟨wf, st⟩ := new_wf (p := p) (pub := 0) (sec := n) (I := I) hv hI hq
  have hin : ∀ i, i < I.length → LinIn p 0 (newS p 0 n).vars [(1 + (i : Int), 1)] ∧ V (newS p 0 n) I [(1 + (i : Int), 1)] = I.getD i 0 := fun i hi => new_in hv hI hq hi
  have hVL : ∀ x ∈ VL, LinIn (newS p 0 n).p 0 (newS p 0 n).vars x := fun x hx => by
    rw [hV] at hx
    unfold inL at hx
    obtain ⟨i, hi, rfl⟩ := List.mem_map.1 hx
    exact (hin i (List.mem_range.1 hi)).1
  have hmap : VL.map (V (newS p 0 n) I) = I := by
    rw [hV]
    unfold inL
    rw [List.map_map]
    refine List.ext_getElem (by simp) fun i h1 h2 => ?_
    simp only [List.getElem_map, List.getElem_range, Function.comp]
    rw [(hin i h2).2, List.getD_eq_getElem?_getD, List.getElem?_eq_getElem h2]
    rfl
  obtain ⟨e, t, v, l⟩ := hash_ext wf label hVL
  have hbd : Bd (gHash (newS p 0 n) label VL).1 (6 + 192 * 6) := by
    have h0 : Bd (newS p 0 n) 6 := ⟨⟨by show 0 ≤ 1 + 0 + n; omega, by show 1 + 0 + n ≤ 6; omega⟩, by simp [newS], by simp [newS]⟩
    have hm := (hashM_ge (n := VL.length)).2
    have hl : VL.length = I.length := by rw [hV]; simp [inL]
    have := gHashN_bd (p := (newS p 0 n).p) (VL := VL) (q := (newS p 0 n, hash0 (newS p 0 n).p label VL.length)) h0 (hashM VL.length)
    exact this.up (by omega)
  have hp : (gHash (newS p 0 n) label VL).1.p = p := e.p
  refine ⟨e.wf, hp, by have := hbd.v; omega, by have := hbd.r; omega, t.2 st, lin_ok l, ?_⟩
  have hv2 : lval (gHash (newS p 0 n) label VL).1.p (fin (gHash (newS p 0 n) label VL).1 I) (gHash (newS p 0 n) label VL).2 = _ := v
  rw [hp, hmap] at hv2
  rw [hv2, hash, if_pos hv]
  rfl

set_option maxRecDepth 10000 in
set_option maxHeartbeats 64000000 in
theorem walk (p label : Int) (la : Option Addr) (lc : Nat) (l : List Int) (w : World) (_ : (Lit.int .u64 p).wf = true) (hlab : (Lit.int .u64 label).wf = true) (SL : SlP w .u64 la lc l) :
    Calls Try.prog 5 #[.int .u64 p, .int .u64 label, .slice la l.length lc] w fun e w' => e = .returned (.bool true) ∧ Below w.heap.size w w' := by
  have hl2 := wf_u64 hlab
  have hl := SL.sl
  have hA := wfs_u64 SL.wf
  have z2 : l.length ≤ 9223372036854775807 := by
    have h1 := SL.le
    have h2 := SL.max
    simp only [maxLen] at h2
    omega
  clear SL hlab
  have cV := fun W => rValid_any p W
  obtain ⟨v, hv⟩ : ∃ v, v = vld p := ⟨_, rfl⟩
  rw [← hv] at cV
  cases v with
  | false =>
    clear hv
    go_enter Try.func5, Try.ntmps5
    go_wp2_with fail
    refine (awake20 w).mono ?_
    rintro e w1 ⟨rfl, hb1⟩
    go_wp2_with fail
    refine (cV w1).mono ?_
    rintro e w2 ⟨rfl, hb2⟩
    go_wp2_with fail
    refine (awake20 w2).mono ?_
    rintro e w3 ⟨rfl, hb3⟩
    go_wp2
    go_ret
    exact ⟨rfl, below2 (below2 hb1 hb2) hb3⟩
  | true =>
    have hv' := hv.symm
    have hp := vld_pos hv'
    clear hv
    by_cases b3 : 5 < l.length
    · have b3' : (5 : Int) < l.length := by omega
      go_enter Try.func5, Try.ntmps5
      go_wp2_with fail
      refine (awake20 w).mono ?_
      rintro e w1 ⟨rfl, hb1⟩
      go_wp2_with fail
      refine (cV w1).mono ?_
      rintro e w2 ⟨rfl, hb2⟩
      go_wp2_with fail
      refine (awake20 w2).mono ?_
      rintro e w3 ⟨rfl, hb3⟩
      go_wp2
      go_ret
      exact ⟨rfl, below2 (below2 hb1 hb2) hb3⟩
    have b3' : (l.length : Int) ≤ 5 := by omega
    have cN := fun W => New20_ok p 0 (l.length : Int) W hv' ⟨by omega, by omega, by omega, by omega⟩
    obtain ⟨sec, hsec⟩ : ∃ sec, sec = (l.length : Int) := ⟨_, rfl⟩
    rw [← hsec] at cN
    have hsb : 0 ≤ sec ∧ sec ≤ 5 := by omega
    obtain ⟨I, hI⟩ : ∃ I, I = l.map (· % p) := ⟨_, rfl⟩
    have hIl : I.length = l.length := by rw [hI, List.length_map]
    have hIb : Hid (∀ x ∈ I, 0 ≤ x ∧ x < p) := hide fun x hx => by
      rw [hI] at hx
      obtain ⟨y, _, rfl⟩ := List.mem_map.1 hx
      exact mod_lt' (by omega) y
    have hIn : Hid (∀ j, j < l.length → I.take (j + 1) = I.take j ++ [l.getD j 0 % p]) := hide fun j hj => by
      rw [take_succ_getD I 0 (by rw [hIl]; exact hj), hI, getD_map' (· % p) l j 0 0 hj]
    replace hI := hide hI
    replace hIl := hide hIl
    rw [hsec] at cN
    replace hsec := hide hsec
    go_enter Try.func5, Try.ntmps5
    go_wp2_with fail
    refine (awake20 w).mono ?_
    rintro e w1 ⟨rfl, hb1⟩
    go_wp2_with fail
    refine (cV w1).mono ?_
    rintro e w2 ⟨rfl, hb2⟩
    go_wp2_with fail
    refine (cN w2).mono ?_
    rintro e w3 ⟨b, rfl, hB3, hb3⟩
    have hB := below2 (below2 hb1 hb2) hb3
    replace hB3 := hB3.low (b0 := w.heap.size) (by have := hb1.size; have := hb2.size; omega)
    rw [← hsec.out] at hB3
    clear cN cV hb1 hb2 hb3
    go_wp2_with fail
    go_loopw [9, 10, 44] (fun t9 t10 t44 wr => ∃ j : Nat, j ≤ l.length ∧ t44 = .int .i64 j ∧ L1 w wr b (newS p 0 sec) t10 t9 I j) (fun _ _ t44 _ => l.length - (intOf t44).toNat)
    case atStart => exact ⟨0, Nat.zero_le _, rfl, ⟨hB, hB3, Own.nil _ _ _ _, ⟨[], OwnG.nil _ _ _ _, (fun s hs => by cases hs), hide rfl⟩⟩⟩
    case round =>
      clear hB hB3
      obtain ⟨j, hj, rfl, D⟩ := hrel
      by_cases hlt : j < l.length
      · have hlt' : (j : Int) < l.length := by omega
        obtain ⟨q2, off2, rfl, _, hd⟩ := (hl.mono D.below).get hlt
        have hx := hA.get hlt
        have htk := hIn.out j hlt
        generalize l.getD j 0 = x at *
        obtain ⟨Ls, ow, hls, els⟩ := D.ls
        have hD := D.own
        have hDb := D.below
        have hDB := D.bld
        have hll : Hid (Ls.length ≤ 10) := hide (by
          have := congrArg List.length els.out
          simp [inL] at this
          omega)
        have htl : Hid ((I.take j).length ≤ 10) := hide (by rw [List.length_take]; omega)
        have hbz := hDb.size
        replace htk := hide htk
        clear D
        obtain ⟨cs, gb, h0, h2, h5⟩ := bld_cells hDB
        have cI := Input20_any b cs _ p 0 sec j wr gb h0 h2 h5 hv' ⟨by decide, by omega, by omega⟩ (wfI ⟨by omega, by omega⟩)
        rw [if_pos ⟨by omega, by have := hsec.out; omega⟩] at cI
        go_wp2_with fail
        refine cI.mono ?_
        rintro e w10 ⟨s, rfl, es, ls, hb10⟩
        replace ow := ow.mono hb10
        replace hls := fun s h => (hls s h).mono hb10
        replace hDB := hDB.mono hb10
        replace hDb := below2 hDb hb10
        replace hD := hD.mono hb10
        have hbz2 := hDb.size
        clear cI gb h0 h2 h5 cs hb10 hd
        go_wp2_with (at_builtin; refine wpList_appG _ lcL Ls [s] rfl _ _ 55 rfl w.heap.size 44 (.slice none 0 0) 24 Try.underlying55 Try.infoLc rfl (by decide) _ 1 1 (some ⟨w10.heap.size, 0, none⟩) rfl rfl rfl (ow.alloc _) (SlG.one (Blk.new _ _ _) rfl) (by have := hll.out; simp; omega) (by simp; omega) ?_; intro v' w' own' hg'; refine Hold.mk ?_)
        refine Hold.go ?_
        have kx : KX XLn w.heap.size w10 w' := (KX.of_below ((Below.refl _ _).alloc (Nat.le_refl _) _) hbz2).trans (KX.grew (ow.alloc _) hg' xln1 (by simp; omega))
        replace hls : ∀ q ∈ Ls ++ [s], LinT w' q := fun q hq => by
          rcases List.mem_append.1 hq with h1 | h1
          · exact kx.lin xlnT (hls q h1)
          · rw [List.mem_singleton] at h1; subst h1; exact kx.lin xlnT ls
        replace hDB := kx.bld xlnR xlnH xlnB xlnT hDB
        replace hDb := hDb.trans kx.below
        replace hD := KX.ownI kx xlnU hD
        have hbz3 := hDb.size
        clear ow kx hg' ls
        go_wp2_with (at_builtin; refine wpList_appX _ 22 .u64 (x % p) rfl _ _ 54 rfl w.heap.size 8 Try.underlying54 Try.infoU64 (by decide) _ _ _ rfl rfl (by simp) hD (by have := htl.out; omega) hbz3 ?_; intro v9 w9 own9 hg9; refine Hold.mk ?_)
        refine Hold.go ?_
        have kx : KX XU w.heap.size w' w9 := KX.grewI hD hg9 rfl hbz3
        rw [← htk.out] at own9
        have DD : L1 w w9 b (newS p 0 sec) v9 v' I (j + 1) := ⟨hDb.trans kx.below, kx.bld (by unfold XU; decide) (by unfold XU; decide) (by unfold XU; decide) (by unfold XU; decide) hDB, own9, ⟨Ls ++ [s], kx.own (by unfold XU; decide) own', fun q hq => kx.lin (by unfold XU; decide) (hls q hq), hide (by rw [List.map_append, els.out, inL_succ, ← es.out]; rfl)⟩⟩
        clear hls hDB hDb own9 own' kx els es hll hg9 hD htl htk hx
        go_wp2
        go_roundw
        case rel => exact ⟨j + 1, by omega, by go_num, DD⟩
        case measure => simp [intOf]; omega
      · obtain rfl : j = l.length := by omega
        obtain ⟨Ls, ow, hls, els⟩ := D.ls
        have hD := D.own
        rw [← hIl.out, List.take_length] at hD
        obtain ⟨ad9, c9, rfl, _⟩ := ow.sl
        obtain ⟨ad10, c10, rfl, _, _, _⟩ := Own.sl hD
        have hLl : Ls.length ≤ 5 := by
          have := congrArg List.length els.out
          simp [inL] at this
          omega
        have hVL : Ls.map Lc.l = inL I.length := by rw [els.out, hIl.out]
        obtain ⟨u1, u2, u3, u4, u5, u6, u7⟩ := facts (label := label) hv' hIb.out (n := sec) (by rw [hIl.out, hsec.out]) (by rw [hIl.out]; omega) hVL
        have hbd : Bd (newS p 0 sec) 6 := ⟨⟨by show 0 ≤ 1 + 0 + sec; omega, by show 1 + 0 + sec ≤ 6; omega⟩, by simp [newS], by simp [newS]⟩
        have hl100 : ∀ s ∈ Ls, s.l.length ≤ 100 := fun s hs => by
          have h1 : s.l ∈ inL I.length := by rw [← hVL]; exact List.mem_map_of_mem hs
          unfold inL at h1
          obtain ⟨i, _, e⟩ := List.mem_map.1 h1
          rw [← e]
          simp
        have cH := Hash20_any w.heap.size b w.heap.size (newS p 0 sec) 6 label ad9 c9 Ls wr D.bld hv' hbd (by decide) hl2 ow hls hl100 (by omega)
        have hAI : AllW I := fun x hx => by have := hIb.out x hx; omega
        have hIl5 : I.length ≤ 5 := by rw [hIl.out]; omega
        have hBw := D.below
        obtain ⟨SH, hSH⟩ : ∃ SH, SH = gHash (newS p 0 sec) label (Ls.map Lc.l) := ⟨_, rfl⟩
        rw [← hSH] at u1 u2 u3 u4 u5 u6 u7 cH
        obtain ⟨S', HL⟩ := SH
        simp only at u1 u2 u3 u4 u5 u6 u7 cH
        have hFW := fin_W u1
        have hFl := u1.fin_len
        have cC0 := fun W hB => circ_any w.heap.size b S' I p W hB u1 u2 u3 u4
        obtain ⟨F, hF0⟩ : ∃ F, F = fin S' I := ⟨_, rfl⟩
        rw [← hF0] at u7 hFW hFl
        simp only [← hF0] at cC0
        rw [← hFl] at u6
        obtain ⟨ok, hok⟩ : ∃ ok, ok = Sat S' I := ⟨_, rfl⟩
        rw [← hok] at u5
        simp only [← hok] at cC0
        replace hSH := hide hSH
        replace hF0 := hide hF0
        replace hok := hide hok
        replace hFl := hide hFl
        replace hVL := hide hVL
        replace u5 := hide u5
        replace u6 := hide u6
        replace u7 := hide u7
        clear D u1 u2 u3 u4 ow hls els hl hA hIn hl100 hbd
        go_wp2_with fail
        refine cH.mono ?_
        rintro e w4 ⟨h, rfl, eh, lh, hB4, k4⟩
        replace hD := Kept.ownI k4 (by decide) (by decide) (by decide) hD
        replace hBw := hBw.trans k4.below
        have cC := cC0 w4 hB4
        clear cH k4 cC0 hB4
        go_wp2_with fail
        refine cC.mono ?_
        rintro e w5 ⟨pub, vars, ra, R, rc, sec, ha, H, hc, rfl, hR, hH, hC, hln, hF, hfl, hsat, hvb, hsw, hb5⟩
        have hBs : rowsSat p F R = true := hsat.out.2 u5.out
        have hrt : linOk p vars h.l = true := by rw [eh.out, ← hfl.out]; exact u6.out
        have hvl : lval p F h.l = hash p label I := by rw [eh.out]; exact u7.out
        have cB := fun W h1 h2 => bounded_any p pub vars ra R rc sec ha H hc W h1 h2 hC.out
        have cS := fun a c W h1 h2 => rSat20_any p pub vars ra R rc a c F W h1 h2 hFW (cir_bd hC.out).1 hfl.out
        have cK := fun W h1 h2 => Complete_any p pub vars ra R rc sec ha H hc ad10 c10 I W h1 h2 hAI hC.out hln.out
        have cR := fun W hh => rRight_any p vars h W hh
        have cVa := fun a c W h1 h2 => rValue20_any p h a c F W h1 h2 hFW (fun i hi => by have := (of_decide_eq_true hrt i hi).1; rw [hfl.out]; exact this)
        have cHa := fun W h1 => rHash_any p label ad10 c10 I W hl2.1 hl2.2 h1 hAI (by omega)
        rw [hF.out] at cK
        rw [hBs] at cS
        rw [hvl] at cVa
        rw [hrt] at cR
        generalize hash p label I = X at *
        replace lh := lh.mono hb5
        replace hD := hD.mono hb5
        replace hBw := below2 hBw hb5
        replace hrt := hide hrt
        replace hvl := hide hvl
        replace hBs := hide hBs
        clear hsat u5 u6 u7 cC hb5
        go_wp2_with fail
        refine name_calls fun w6 hN => ?_
        have gC : Blk w6 w5.heap.size #[.int .u64 p, .int .i64 pub, .int .i64 vars, .slice ra R.length rc, .int .i64 sec, .slice ha H.length hc] 37 := by rw [hN]; exact Blk.newAt rfl
        have hb6 : Below w5.heap.size w5 w6 := by rw [hN]; exact (Below.refl _ _).alloc (Nat.le_refl _) _
        clear hN
        refine (cB w6 (hR.mono hb6) (hH.mono hb6)).mono ?_
        rintro e w7 ⟨rfl, hb7⟩
        replace hb6 := below2 hb6 hb7
        replace gC := gC.mono hb7
        clear hb7 cB
        have m0 := gC.cell (j := 0) (v := .int .u64 p) rfl; have m1 := gC.cell (j := 1) (v := .int .i64 pub) rfl; have m2 := gC.cell (j := 2) (v := .int .i64 vars) rfl; have m3 := gC.cell (j := 3) (v := .slice ra R.length rc) rfl; have m4 := gC.cell (j := 4) (v := .int .i64 sec) rfl; have m5 := gC.cell (j := 5) (v := .slice ha H.length hc) rfl
        go_wp2_with fail
        clear m0 m1 m2 m3 m4 m5
        refine (cR w7 (lh.mono hb6).ok).mono ?_
        rintro e w8 ⟨rfl, hb8⟩
        replace hb6 := below2 hb6 hb8
        replace gC := gC.mono hb8
        clear hb8 cR
        have m0 := gC.cell (j := 0) (v := .int .u64 p) rfl; have m1 := gC.cell (j := 1) (v := .int .i64 pub) rfl; have m2 := gC.cell (j := 2) (v := .int .i64 vars) rfl; have m3 := gC.cell (j := 3) (v := .slice ra R.length rc) rfl; have m4 := gC.cell (j := 4) (v := .int .i64 sec) rfl; have m5 := gC.cell (j := 5) (v := .slice ha H.length hc) rfl
        have sl10 := fun W (hb : Below w5.heap.size w5 W) => (by
          obtain ⟨a, c, e, s, _⟩ := Own.sl (hD.mono hb)
          cases e
          exact s : Sl W .u64 ad10 I)
        go_wp2_with fail
        clear m0 m1 m2 m3 m4 m5
        refine (cK w8 (hH.mono hb6) (sl10 w8 hb6)).mono ?_
        rintro e w9 ⟨v15, rfl, own15, hb9⟩
        obtain ⟨a15, c15, rfl, sl15, _, _⟩ := Own.sl own15
        replace hb6 := below2 hb6 hb9
        replace gC := gC.mono hb9
        clear own15 hb9 cK
        have m0 := gC.cell (j := 0) (v := .int .u64 p) rfl; have m1 := gC.cell (j := 1) (v := .int .i64 pub) rfl; have m2 := gC.cell (j := 2) (v := .int .i64 vars) rfl; have m3 := gC.cell (j := 3) (v := .slice ra R.length rc) rfl; have m4 := gC.cell (j := 4) (v := .int .i64 sec) rfl; have m5 := gC.cell (j := 5) (v := .slice ha H.length hc) rfl
        go_wp2_with fail
        clear m0 m1 m2 m3 m4 m5
        refine (cS a15 c15 w9 (hR.mono hb6) sl15).mono ?_
        rintro e w10 ⟨rfl, hb10⟩
        replace hb6 := below2 hb6 hb10
        replace sl15 := sl15.mono hb10
        clear hb10 cS gC
        go_wp2_with fail
        refine (cVa a15 c15 w10 (lh.mono hb6).ok sl15).mono ?_
        rintro e w11 ⟨rfl, hb11⟩
        replace hb6 := below2 hb6 hb11
        clear hb11 cVa sl15
        go_wp2_with fail
        refine (cHa w11 (sl10 w11 hb6)).mono ?_
        rintro e w12 ⟨rfl, hb12⟩
        replace hb6 := below2 hb6 hb12
        clear hb12 cHa sl10
        go_wp2
        go_ret
        exact ⟨by simp, below2 hBw hb6⟩

set_option maxRecDepth 100000 in
theorem lifted (os : Os) (started : os.Started) (H : Type) (enc : TypeId × Value → H) :
    ReturnsInHanded {} Try.checked os 5 .any (Rows.gadgetHashSpec.pre6 enc Try.prog Try.f5 Rows.gadgetHashRow.domain false) (Rows.gadgetHashSpec.post enc Try.prog Try.f5 false true false false) := by
  refine returnsInHanded_of_change (C := Try.checked) own started (by kernel_rfl) Try.func5
    (ChangeSpec.witness6 (enc := enc) (C := Try.checked) false ⟨#[], #[.int .u64 0, .int .u64 0, .slice none 0 0], []⟩ 8 (by kernel_rfl) (by kernel_rfl) (by kernel_rfl) (by kernel_rfl)) ?_
  intro W base args ds gs before hval0 hW hcnd _
  have hval : ∀ (j : Nat) t v, Try.f5.params[j]? = some t → args[j]? = some v → Value.okWide Try.prog W .any base t v := hval0
  have hW' := hW
  obtain ⟨p, q, hA0, hV, rfl, hfz, hnd⟩ := hW
  have hA : DataW.TrodAll enc Try.prog W 0 (fun _ => true) true Try.f5.params.toList args.toList ds p := hA0
  rw [Try.params5] at hA hval
  obtain ⟨v0, vs0, d0, ds0, p0, q0, hargs, rfl, rfl, h0, r0⟩ := trodAll_cons hA
  obtain ⟨v1, vs1, d1, ds1, p1, q1, rfl, rfl, rfl, h1, r1⟩ := trodAll_cons r0
  obtain ⟨v2, vs2, d2, ds2, p2, q2, rfl, rfl, rfl, h2, r2⟩ := trodAll_cons r1
  obtain ⟨rfl, rfl, rfl⟩ := trodAll_nil r2
  obtain rfl : args = #[v0, v1, v2] := by cases args; simp_all
  obtain ⟨rfl, rfl⟩ := trodVars_none hV
  have k2 := h2
  obtain ⟨a0, rfl, rfl, rfl, w0⟩ := open_int Try.underlying22 (hval 0 22 v0 rfl rfl) h0
  obtain ⟨a1, rfl, rfl, rfl, w1⟩ := open_int Try.underlying22 (hval 1 22 v1 rfl rfl) h1
  obtain ⟨ad2, cap2, xs2, rfl, S2⟩ := open_slice Try.underlying54 Try.underlying22 (by kernel_rfl) h2 (hval 2 54 v2 rfl rfl) (fun x hx => hW'.lt x (by simp [hx]))
  clear hA0 hval0
  simp only [List.append_nil] at hW'
  refine (walk a0 a1 ad2 cap2 xs2 W w0 w1 S2).mono fun e W' ⟨he, hg⟩ => ?_
  subst he
  exact ⟨_, rfl, post_of_below (pv := []) hW' (fun _ _ _ => (trodAll_cons_mk (shut_bool Try.underlying4 _) trodAll_mk0))
    (fun sp _ hsp => by subst hsp; exact (trodAll_cons_mk (shut_int Try.underlying22 w0) (trodAll_cons_mk (shut_int Try.underlying22 w1) (trodAll_cons_mk (Below.trod Try.laidOut (by kernel_rfl) (of_decide_eq_true (by kernel_rfl)) k2 hg (fun x hx => hW'.lt x (by simp [hx]))) trodAll_mk0)))) (fun _ _ => rfl) (by simp) hg⟩

theorem closed : joinedFacts Try.prog 5 Try.f5 Rows.gadgetHashSpec Rows.gadgetHashRow = true := by
  unfold joinedFacts
  rw [Try.mayEnter, Try.liftsFinal, Try.make]
  kernel_rfl

theorem proved : Rows.GadgetHashSaid :=
  OpenClaim.holds_of_wide 5 Try.f5 rfl rfl rfl rfl rfl rfl rfl ⟨rfl, rfl, rfl, rfl, rfl⟩ rfl rfl rfl rfl rfl (by kernel_rfl) Try.func5 closed
    (of_decide_eq_true (by kernel_rfl)) (by unfold Func.isWrapper; first | (rw [if_pos (by decide +kernel)]; kernel_rfl) | (rw [if_neg (by decide +kernel)]; exact ⟨rfl, rfl⟩))
    (fun os started H enc _ => lifted os started H enc)
#print axioms proved
end gadgetHash
end Go.Proofs.Ytlgjnidphldiiaa
