/- Circuits: Satisfied of the reference; below. -/
import Derived.Test.YtlflkddgdbdebaaCircEG
import Derived.Laws.BitsAllLaws
namespace Go.Proofs.Ytlflkddgdbdebaa
open Go.RowKit

set_option maxHeartbeats 1600000 in
theorem rFirst_any (p pub vars : Int) (ra : Option Addr) (R : List Rw) (rc : Nat) (wa : Option Addr) (wc : Nat) (ws : List Int) (w : World) (hR : RowsP w ra rc R) (hW : Sl w .u64 wa ws) (hA : AllW ws) (hT : tblOk p pub vars R = true) (hAsn : asnOk p vars ws = true) :
    Calls Try.prog 77 #[.agg #[.int .u64 p, .int .i64 pub, .int .i64 vars, .slice ra R.length rc], .slice wa ws.length wc] w (RetU p ws R w) := by
  have cT := fun W h => rTValid_any p pub vars ra R rc W h
  have cA := fun W h1 h2 h3 => rAsn_any p pub vars ra R rc wa wc ws W h1 hA h2 h3
  obtain ⟨_, hp0, hp1, hp2, hl16⟩ := tbl_bd hT
  rw [hT] at cT
  rw [hAsn] at cA
  clear hT hAsn
  go_enter Try.func77, Try.ntmps77
  go_wp2_with fail
  refine name_calls fun W hN => ?_
  have g0 : Blk W w.heap.size #[.int .u64 p, .int .i64 pub, .int .i64 vars, .slice ra R.length rc] 25 := by rw [hN]; exact Blk.newAt rfl
  have hB : Below w.heap.size w W := by rw [hN]; exact (Below.refl _ _).alloc (Nat.le_refl _) _
  clear hN
  refine (cT W (hR.mono hB)).mono ?_
  rintro e w1 ⟨rfl, hb1⟩
  replace hB := below2 hB hb1
  replace g0 := g0.mono hb1
  clear hb1 cT
  have k0 := g0.cell (j := 0) (v := .int .u64 p) rfl; have k1 := g0.cell (j := 1) (v := .int .i64 pub) rfl; have k2 := g0.cell (j := 2) (v := .int .i64 vars) rfl; have k3 := g0.cell (j := 3) (v := .slice ra R.length rc) rfl
  go_wp2_with fail
  refine (cA w1 (hW.mono hB) (by omega) hp2).mono ?_
  rintro e w2 ⟨rfl, hb2⟩
  replace hB := below2 hB hb2
  replace g0 := g0.mono hb2
  clear hb2 cA k0 k1 k2 k3
  go_wp2_with fail
  go_loopw [5] (fun t5 wr => ∃ k : Nat, k ≤ R.length ∧ t5 = .int .i64 k ∧ Below w.heap.size w wr ∧ Blk wr w.heap.size #[.int .u64 p, .int .i64 pub, .int .i64 vars, .slice ra R.length rc] 25 ∧ Hid (∀ j, j < k → rowSat p ws (R.getD j default) = true)) (fun t5 _ => R.length - (intOf t5).toNat)
  case atStart => exact ⟨0, Nat.zero_le _, rfl, hB, g0, hide fun j hj => by omega⟩
  case round =>
    clear hB g0
    obtain ⟨k, hk, rfl, hb, g0, hU⟩ := hrel
    have k0 := g0.cell (j := 0) (v := .int .u64 p) rfl; have k1 := g0.cell (j := 1) (v := .int .i64 pub) rfl; have k2 := g0.cell (j := 2) (v := .int .i64 vars) rfl; have k3 := g0.cell (j := 3) (v := .slice ra R.length rc) rfl
    by_cases hlt : k < R.length
    · have hlt' : (k : Int) < R.length := by omega
      have hR' := hR.mono hb
      have m0 := cell_later' (g0.cell (j := 0) (v := .int .u64 p) rfl); have m1 := cell_later' (g0.cell (j := 1) (v := .int .i64 pub) rfl); have m2 := cell_later' (g0.cell (j := 2) (v := .int .i64 vars) rfl); have m3 := cell_later' (g0.cell (j := 3) (v := .slice ra R.length rc) rfl)
      obtain ⟨b, off, e, _, hc⟩ := hR'.s (by omega)
      obtain ⟨hc0, hc1, hc2⟩ := hc k hlt
      obtain ⟨hx, hy, hz⟩ := hR'.ok _ (getD_mem' hlt default)
      have hst := hide (fun h => rs_stop (p := p) (W := ws) hlt h)
      have hnx := hide (fun h : rowSat p ws (R.getD k default) = true => fun j (hj : j < k + 1) => (by
        rcases Nat.lt_or_ge j k with h2 | h2
        · exact hU.out j h2
        · have : j = k := by omega
          subst this; exact h : rowSat p ws (R.getD j default) = true))
      clear hc hR' hU hR
      generalize R.getD k default = r at *
      obtain ⟨x, y, z⟩ := r
      simp only at hc0 hc1 hc2 hx hy hz
      have hWW := hW.mono hb
      have cH := fun P => rHolds_any p x y z wa wc ws (later wr P) (hWW.mono (below_later _ _)) hA (hx.mono (below_later _ _)) (hy.mono (below_later _ _)) (hz.mono (below_later _ _))
      replace hc0 := cell_later' hc0
      replace hc1 := cell_later' hc1
      replace hc2 := cell_later' hc2
      generalize rowSat p ws ⟨x, y, z⟩ = q at *
      subst e
      clear hx hy hz hW hWW hA
      go_wp2_with fail
      refine wp_region_later Try.mixed (by kernel_rfl) ?_
      repeat (first | go_big_quiet_step (first | (go_at_call 87; exact Calls.later_of (cH _))) | quiet_step (first | (go_at_call 87; exact Calls.later_of (cH _))))
      refine wpQuiet_nil ?_
      intro w3 hb3
      replace hb3 := below_of_later hb3
      replace hb := below2 hb hb3
      replace g0 := g0.mono hb3
      clear cH hb3 hc0 hc1 hc2 k0 k1 k2 k3 m0 m1 m2 m3
      cases q with
      | false =>
        have hF := hide (hst.out rfl)
        clear hst hnx
        go_wp2
        go_ret
        exact RetU.no k hF.out hb
      | true =>
        have hN := hide (hnx.out rfl)
        clear hst hnx
        go_wp2
        go_roundw
        case rel => exact ⟨k + 1, by omega, by go_num, hb, g0, hN⟩
        case measure => simp [intOf]; omega
    · obtain rfl : k = R.length := by omega
      have hF := hide (rs_all hU.out)
      go_wp2
      go_ret
      exact RetU.all hF.out hb

set_option maxHeartbeats 1600000 in
theorem rSat_any (p pub vars : Int) (ra : Option Addr) (R : List Rw) (rc : Nat) (wa : Option Addr) (wc : Nat) (ws : List Int) (w : World) (hR : RowsP w ra rc R) (hW : Sl w .u64 wa ws) (hA : AllW ws) :
    Calls Try.prog 47 #[.agg #[.int .u64 p, .int .i64 pub, .int .i64 vars, .slice ra R.length rc], .slice wa ws.length wc] w fun e w' => e = .returned (.bool (satOk p pub vars R ws)) ∧ Below w.heap.size w w' := by
  have cT := fun W h => rTValid_any p pub vars ra R rc W h
  have cA := fun W h1 h2 h3 => rAsn_any p pub vars ra R rc wa wc ws W h1 hA h2 h3
  have cU := fun W h1 h2 h3 h4 => rFirst_any p pub vars ra R rc wa wc ws W h1 h2 hA h3 h4
  have hs : satOk p pub vars R ws = (tblOk p pub vars R && asnOk p vars ws && rowsSat p ws R) := rfl
  obtain ⟨T, hT⟩ : ∃ T, T = tblOk p pub vars R := ⟨_, rfl⟩
  obtain ⟨A, hAs⟩ : ∃ A, A = asnOk p vars ws := ⟨_, rfl⟩
  rw [← hT] at cT hs cU
  rw [← hAs] at cA hs cU
  replace hT := hide hT
  replace hAs := hide hAs
  generalize satOk p pub vars R ws = S at *
  replace hs := hide hs
  go_enter Try.func47, Try.ntmps47
  go_wp2_with fail
  refine name_calls fun W hN => ?_
  have g0 : Blk W w.heap.size #[.int .u64 p, .int .i64 pub, .int .i64 vars, .slice ra R.length rc] 25 := by rw [hN]; exact Blk.newAt rfl
  have hB : Below w.heap.size w W := by rw [hN]; exact (Below.refl _ _).alloc (Nat.le_refl _) _
  clear hN
  refine (cT W (hR.mono hB)).mono ?_
  rintro e w1 ⟨rfl, hb1⟩
  replace hB := below2 hB hb1
  replace g0 := g0.mono hb1
  clear hb1 cT
  have k0 := g0.cell (j := 0) (v := .int .u64 p) rfl; have k1 := g0.cell (j := 1) (v := .int .i64 pub) rfl; have k2 := g0.cell (j := 2) (v := .int .i64 vars) rfl; have k3 := g0.cell (j := 3) (v := .slice ra R.length rc) rfl
  cases T with
  | false =>
    have hF := hide (show S = false by rw [hs.out]; rfl)
    clear cA cU hs
    go_wp2
    go_ret
    exact ⟨ret_bool' hF.out.symm, hB⟩
  | true =>
    obtain ⟨_, hp0, hp1, hp2, hp3⟩ := tbl_bd hT.out.symm
    replace cU := hide cU
    go_wp2_with fail
    refine (cA w1 (hW.mono hB) (by omega) hp2).mono ?_
    rintro e w2 ⟨rfl, hb2⟩
    replace hB := below2 hB hb2
    replace g0 := g0.mono hb2
    clear hb2 cA k0 k1 k2 k3
    have k0 := g0.cell (j := 0) (v := .int .u64 p) rfl; have k1 := g0.cell (j := 1) (v := .int .i64 pub) rfl; have k2 := g0.cell (j := 2) (v := .int .i64 vars) rfl; have k3 := g0.cell (j := 3) (v := .slice ra R.length rc) rfl
    cases A with
    | false =>
      have hF := hide (show S = false by rw [hs.out]; rfl)
      clear cU hs
      go_wp2
      go_ret
      exact ⟨ret_bool' hF.out.symm, hB⟩
    | true =>
      go_wp2_with fail
      refine (cU.out w2 (hR.mono hB) (hW.mono hB) (by first | rfl | trivial) (by first | rfl | trivial)).mono ?_
      rintro e w3 ⟨i, rfl, hi, hb3⟩
      replace hB := below2 hB hb3
      clear hb3 cU k0 k1 k2 k3
      have hF := hide (show S = decide (i < 0) by rw [hs.out]; simp only [Bool.true_and, hi]; cases rowsSat p ws R <;> rfl)
      clear hs hi
      go_wp2
      go_ret
      exact ⟨ret_bool' hF.out.symm, hB⟩

def allLt (p : Int) (l : List Int) : Bool := decide (∀ i, i < l.length → l.getD i 0 < p)
theorem allLt_stop {p : Int} {W : List Int} {k : Nat} (hk : k < W.length) (h : p ≤ W.getD k 0) : allLt p W = false := by
  unfold allLt
  exact decide_eq_false fun hh => by have := hh k hk; omega
theorem allLt_all {p : Int} {W : List Int} (h2 : ∀ k, k < W.length → W.getD k 0 < p) : allLt p W = true := decide_eq_true h2

set_option maxHeartbeats 1600000 in
theorem below_any (p : Int) (wa : Option Addr) (wc : Nat) (ws : List Int) (w : World) (hW : Sl w .u64 wa ws) (hA : AllW ws) (hl16 : ws.length ≤ 65536) :
    Calls Try.prog 41 #[.slice wa ws.length wc, .int .u64 p] w fun e w' => e = .returned (.bool (allLt p ws)) ∧ Below w.heap.size w w' := by
  go_enter Try.func41, Try.ntmps41
  go_wp2_with fail
  go_loopw [9] (fun t9 wr => ∃ k : Nat, k ≤ ws.length ∧ t9 = .int .i64 k ∧ Below w.heap.size w wr ∧ Hid (∀ j, j < k → ws.getD j 0 < p)) (fun t9 _ => ws.length - (intOf t9).toNat)
  case atStart => exact ⟨0, Nat.zero_le _, rfl, Below.refl _ _, hide fun j hj => by omega⟩
  case round =>
    obtain ⟨k, hk, rfl, hb, hU⟩ := hrel
    by_cases hlt : k < ws.length
    · have hlt' : (k : Int) < ws.length := by omega
      obtain ⟨b2, off2, rfl, _, hd⟩ := (hW.mono hb).get hlt
      have hst := hide (fun h => allLt_stop (p := p) hlt h)
      have hnx := hide (fun h : ws.getD k 0 < p => fun j (hj : j < k + 1) => (by
        rcases Nat.lt_or_ge j k with h2 | h2
        · exact hU.out j h2
        · have : j = k := by omega
          subst this; exact h : ws.getD j 0 < p))
      have hxr := hA.get hlt
      generalize ws.getD k 0 = y at *
      by_cases hy : p ≤ y
      · have hF := hide (hst.out hy)
        clear hst hnx hU
        go_wp2
        go_ret
        exact ⟨ret_bool' hF.out.symm, hb⟩
      · have hN := hide (hnx.out (by omega))
        clear hst hnx hU
        go_wp2
        go_roundw
        case rel => exact ⟨k + 1, by omega, by go_num, hb, hN⟩
        case measure => simp [intOf]; omega
    · obtain rfl : k = ws.length := by omega
      have hF := hide (allLt_all hU.out)
      go_wp2
      go_ret
      exact ⟨ret_bool' hF.out.symm, hb⟩

end Go.Proofs.Ytlflkddgdbdebaa

/- Circuits: Run of the program. -/
namespace Go.Proofs.Ytlflkddgdbdebaa
open Go.RowKit

theorem ofInt_u64 (a : Nat) (ha : a < 18446744073709551616) : (BitVec.ofInt 64 (a : Int)).toNat = a := by
  rw [BitVec.ofInt_natCast, BitVec.toNat_ofNat]; exact Nat.mod_eq_of_lt (by omega)
theorem bit_andU (q : Nat) (hq : q < 18446744073709551616) : bits .and .u64 (q : Int) 1 = ((q % 2 : Nat) : Int) := by
  have h1 : bits .and .u64 (q : Int) ((1 : Nat) : Int) = ((q &&& 1 : Nat) : Int) := by
    have hx : q &&& 1 < 2 ^ 63 := Nat.and_lt_two_pow _ (by decide)
    show IntKind.u64.wrap ((BitVec.ofInt 64 (q : Int) &&& BitVec.ofInt 64 ((1 : Nat) : Int)).toNat : Int) = _
    rw [BitVec.toNat_and, ofInt_u64 q hq, ofInt_u64 1 (by decide)]
    simp only [IntKind.wrap, IntKind.bits, IntKind.signed]
    simp
    omega
  rw [Nat.and_one_is_mod] at h1
  exact h1
theorem bit_factU (q i : Nat) (hq : q < 18446744073709551616) : bits .and .u64 ((q : Int) / 2 ^ i) 1 = ((q / 2 ^ i % 2 : Nat) : Int) := by
  have e : ((2 : Int) ^ i) = ((2 ^ i : Nat) : Int) := (Int.natCast_pow 2 i).symm
  rw [e, ← Int.natCast_ediv]
  exact bit_andU _ (Nat.lt_of_le_of_lt (Nat.div_le_self _ _) hq)
theorem own_neq {w : World} {base : Nat} {E : TypeId} {k : IntKind} {v : Value} {xs : List Int} {b : Nat} {cs : Array Value} {T : TypeId} (h : Own w base E k v xs) (g : Blk w b cs T) (hT : ¬ E = T) : v.ownBlock ≠ some b := fun e => by
  rcases h.form with ⟨rfl, _⟩ | ⟨g', cap, cur, rfl, _, hgb, _⟩
  · cases e
  · injection e with e
    subst e
    have := hgb.symm.trans g
    injection this with this
    injection this with _ this
    exact hT this

/-- append of one element, which lies in the block just made; its number by an equation. -/
theorem wpList_appX {P : Program} (w : World) {ops : Array Oper} {rest : List Oper} {o : Oper} {a : Act} {Q : Exit → Act → World → Prop} (E : TypeId) (k : IntKind) (y : Int) (hgd : o.guard = none) (s x : Operand) (t : TypeId)
    (ho : o.op = .call { callee := .builtin .append, args := #[s, x], argTypes := #[t, t] })
    (base : Nat) (bytes : Nat) (ht : P.underlying t = some (.slice E)) (hinfo : (P.info? E).map (fun i => (i.zero, i.size, i.bytes)) = some (some (.int k 0), 1, bytes)) (h8 : bytes ≤ 8)
    (v : Value) (xs : List Int) (z : Nat) (hs : a.eval s = v) (hx : a.eval x = .slice (some ⟨z, 0, none⟩) 1 1) (hz : z = w.heap.size) (hown : Own w base E k v xs) (hlen : xs.length < 1099511627775) (hbase : base ≤ w.heap.size)
    (h : ∀ v' w', Own w' base E k v' (xs ++ [y]) → Grew w w' v v' → wpList P ops Q rest (a.put o.dst v') w') : wpList P ops Q (o :: rest) a (w.alloc (.cells #[.int k y] E)) :=
  wpList_app1 w E k y hgd s x t ho base bytes ht hinfo h8 v xs hs (by rw [hx, hz]) hown hlen hbase h

/-- What Run and Satisfy return. -/
def RetR (w : World) (l : List Int) (err : Int) (e : Ending) (w' : World) : Prop := ∃ v, e = .returned (.tuple #[v, .int .i64 err]) ∧ Own w' w.heap.size 22 .u64 v l ∧ Below w.heap.size w w'

theorem hint_cases {p v : Int} {h : Hn} (e : hintOk p v h = true) : linOk p v h.a.l = true ∧ ((h.k = 1 ∧ linOk p v h.b.l = true) ∨ h.k = 2 ∨ (h.k = 3 ∧ 0 ≤ h.bit ∧ h.bit ≤ 63)) := by
  unfold hintOk at e
  simp only [Bool.and_eq_true] at e
  obtain ⟨e1, e2⟩ := e
  refine ⟨e1, ?_⟩
  split at e2
  · rename_i h1
    simp only [Bool.and_eq_true] at e2
    exact .inl ⟨h1, e2.1⟩
  · split at e2
    · rename_i h2
      exact .inr (.inl h2)
    · split at e2
      · rename_i h3
        simp only [Bool.and_eq_true, decide_eq_true_eq] at e2
        exact .inr (.inr ⟨h3, e2.2⟩)
      · cases e2
theorem hval1 {p : Int} {W : List Int} {h : Hn} (e : h.k = 1) : hval p W h = fmul p (lval p W h.a.l) (lval p W h.b.l) := by unfold hval; rw [if_pos e]
theorem hval2 {p : Int} {W : List Int} {h : Hn} (e : h.k = 2) : hval p W h = finv p (lval p W h.a.l) := by unfold hval; rw [if_neg (by omega), if_pos e]
theorem hval3 {p : Int} {W : List Int} {h : Hn} (e : h.k = 3) : hval p W h = lval p W h.a.l / 2 ^ h.bit.toNat % 2 := by unfold hval; rw [if_neg (by omega), if_neg (by omega)]
theorem cir_bd {p pub vars sec : Int} {R : List Rw} {H : List Hn} (h : cirOk p pub vars R sec H = true) : tblOk p pub vars R = true ∧ 0 ≤ sec ∧ vars = 1 + pub + sec + H.length ∧ ∀ i, i < H.length → hintOk p (1 + pub + sec + i) (H.getD i default) = true := of_decide_eq_true h
theorem inp_no {p pub sec : Int} {u s : List Int} (h : ¬ ((u.length : Int) = pub ∧ (s.length : Int) = sec)) : inpOk p pub sec u s = false := by
  unfold inpOk
  exact decide_eq_false fun hh => h ⟨hh.1, hh.2.1⟩
theorem inp_eq {p pub sec : Int} {u s : List Int} (h : (u.length : Int) = pub ∧ (s.length : Int) = sec) : inpOk p pub sec u s = (allLt p u && allLt p s) := by
  unfold inpOk allLt
  simp [h.1, h.2]

/-- The loop of Run. -/
structure RunSt (w wr : World) (bC bF : Nat) (cs : Array Value) (p : Int) (v : Value) (l : List Int) : Prop where
  b : Below w.heap.size w wr
  c : Blk wr bC cs 28
  f : Blk wr bF #[.int .u64 p] 75
  o : Own wr w.heap.size 22 .u64 v l
theorem RunSt.mono {w wr w2 : World} {bC bF : Nat} {cs : Array Value} {p : Int} {v : Value} {l : List Int} (h : RunSt w wr bC bF cs p v l) (hb : Below wr.heap.size wr w2) : RunSt w w2 bC bF cs p v l :=
  ⟨below2 h.b hb, h.c.mono hb, h.f.mono hb, h.o.mono hb⟩
theorem RunSt.grew {w wr w2 : World} {bC bF : Nat} {cs : Array Value} {p : Int} {v v' : Value} {l l' : List Int} (h : RunSt w wr bC bF cs p v l) (hg : Grew wr w2 v v') (ho : Own w2 w.heap.size 22 .u64 v' l') : RunSt w w2 bC bF cs p v' l' :=
  ⟨hg.below h.b h.o (Nat.le_refl _) h.b.size, hg.blk h.c (own_neq h.o h.c (by decide)), hg.blk h.f (own_neq h.o h.f (by decide)), ho⟩

set_option maxRecDepth 10000 in
set_option maxHeartbeats 4000000 in
theorem aRun_any (p pub vars : Int) (ra : Option Addr) (R : List Rw) (rc : Nat) (sec : Int) (ha : Option Addr) (H : List Hn) (hc : Nat) (ua : Option Addr) (uc : Nat) (u : List Int) (sa : Option Addr) (sc : Nat) (s : List Int) (w : World)
    (hR : RowsP w ra rc R) (hH : HintsP w ha hc H) (hsec : (Lit.int .i64 sec).wf = true) (hu : Sl w .u64 ua u) (hs : Sl w .u64 sa s) (hAu : AllW u) (hAs : AllW s) :
    Calls Try.prog 14 #[.agg #[.int .u64 p, .int .i64 pub, .int .i64 vars, .slice ra R.length rc, .int .i64 sec, .slice ha H.length hc], .slice ua u.length uc, .slice sa s.length sc] w (RetR w (runL p pub vars R sec H u s) (runE p pub vars R sec H u s)) := by
  have cC := fun W h1 h2 => aCValid_any p pub vars ra R rc sec ha H hc W h1 h2 hsec
  have eL : runL p pub vars R sec H u s = if cirOk p pub vars R sec H && inpOk p pub sec u s then runH p (1 :: (u ++ s)) H else [] := rfl
  have eE : runE p pub vars R sec H u s = if cirOk p pub vars R sec H && inpOk p pub sec u s then 0 else 1 := rfl
  rw [eL, eE]
  clear eL eE
  obtain ⟨C, hC⟩ : ∃ C, C = cirOk p pub vars R sec H := ⟨_, rfl⟩
  rw [← hC] at cC ⊢
  obtain ⟨I, hI⟩ : ∃ I, I = inpOk p pub sec u s := ⟨_, rfl⟩
  rw [← hI]
  cases C with
  | false =>
    rw [Bool.false_and, if_neg (by decide), if_neg (by decide)]
    clear hC hI hu hs hAu hAs hsec
    go_enter Try.func14, Try.ntmps14
    go_wp2_with fail
    refine name_calls fun W hN => ?_
    have g0 : Blk W w.heap.size #[.int .u64 p, .int .i64 pub, .int .i64 vars, .slice ra R.length rc, .int .i64 sec, .slice ha H.length hc] 28 := by rw [hN]; exact Blk.newAt rfl
    have hB : Below w.heap.size w W := by rw [hN]; exact (Below.refl _ _).alloc (Nat.le_refl _) _
    clear hN
    refine (cC W (hR.mono hB) (hH.mono hB)).mono ?_
    rintro e w1 ⟨rfl, hb1⟩
    go_wp2
    exact bodyPost_ret (v := .tuple #[.slice none 0 0, .int .i64 1]) (by simp [results, Try.results14, go_sem]) rfl ⟨_, rfl, Own.nil _ _ _ _, below2 hB hb1⟩
  | true =>
    rw [Bool.true_and]
    obtain ⟨hT, hs0, hv, hok⟩ := cir_bd hC.symm
    obtain ⟨hvp, hp0, hp1, hp2, _⟩ := tbl_bd hT
    clear hC hT hsec
    by_cases hl1 : (u.length : Int) = pub
    · by_cases hl2 : (s.length : Int) = sec
      · rw [inp_eq ⟨hl1, hl2⟩] at hI
        have cU := fun W h => below_any p ua uc u W h hAu (by omega)
        have cS := fun W h => below_any p sa sc s W h hAs (by omega)
        have hl1' : ((u.length : Int) != pub) = false := by simp [hl1]
        have hl2' : ((s.length : Int) != sec) = false := by simp [hl2]
        have hlen : u.length + s.length + 1 + H.length ≤ 65536 := by omega
        obtain ⟨V, rfl⟩ := Int.eq_ofNat_of_zero_le (show 0 ≤ vars by omega)
        have hV1 : 1 ≤ V := by omega
        have hV2 : V ≤ 65536 := by omega
        have hmk := fun W => run_mkI (P := Try.prog) (t := 32) (e := 22) (k := .u64) (bytes := 8) Try.underlying32 Try.infoU64 (by decide) (L := 0) (C := (V : Int)) 0 V rfl rfl (by omega) (by omega) W
        replace hv := hide hv
        replace hl1 := hide hl1
        replace hl2 := hide hl2
        replace hok := hide hok
        generalize allLt p u = Au at *
        generalize allLt p s = As at *
        obtain ⟨RL, hRL⟩ : ∃ RL, RL = if I = true then runH p (1 :: (u ++ s)) H else [] := ⟨_, rfl⟩
        obtain ⟨RE, hRE⟩ : ∃ RE : Int, RE = if I = true then 0 else 1 := ⟨_, rfl⟩
        rw [← hRL, ← hRE]
        replace hRL := hide hRL
        replace hRE := hide hRE
        replace hI := hide hI
        go_enter Try.func14, Try.ntmps14
        go_wp2_with fail
        refine name_calls fun W hN => ?_
        have g0 : Blk W w.heap.size #[.int .u64 p, .int .i64 pub, .int .i64 (V : Int), .slice ra R.length rc, .int .i64 sec, .slice ha H.length hc] 28 := by rw [hN]; exact Blk.newAt rfl
        have hB : Below w.heap.size w W := by rw [hN]; exact (Below.refl _ _).alloc (Nat.le_refl _) _
        clear hN
        refine (cC W (hR.mono hB) (hH.mono hB)).mono ?_
        rintro e w1 ⟨rfl, hb1⟩
        replace g0 := g0.mono hb1
        replace hB := below2 hB hb1
        clear hb1 cC hR
        have k0 := g0.cell (j := 0) (v := .int .u64 p) rfl; have k1 := g0.cell (j := 1) (v := .int .i64 pub) rfl; have k2 := g0.cell (j := 2) (v := .int .i64 (V : Int)) rfl; have k3 := g0.cell (j := 3) (v := .slice ra R.length rc) rfl; have k4 := g0.cell (j := 4) (v := .int .i64 sec) rfl; have k5 := g0.cell (j := 5) (v := .slice ha H.length hc) rfl
        go_wp2_with fail
        refine (cU w1 (hu.mono hB)).mono ?_
        rintro e w2 ⟨rfl, hb2⟩
        replace g0 := g0.mono hb2
        replace hB := below2 hB hb2
        clear hb2 cU k0 k1 k2 k3 k4 k5
        have k0 := g0.cell (j := 0) (v := .int .u64 p) rfl; have k1 := g0.cell (j := 1) (v := .int .i64 pub) rfl; have k2 := g0.cell (j := 2) (v := .int .i64 (V : Int)) rfl; have k3 := g0.cell (j := 3) (v := .slice ra R.length rc) rfl; have k4 := g0.cell (j := 4) (v := .int .i64 sec) rfl; have k5 := g0.cell (j := 5) (v := .slice ha H.length hc) rfl
        cases Au with
        | false =>
          have e1 := hide (show RL = [] by rw [hRL.out, hI.out]; rfl)
          have e2 := hide (show RE = 1 by rw [hRE.out, hI.out]; rfl)
          clear hI cS hmk
          go_wp2
          exact bodyPost_ret (v := .tuple #[.slice none 0 0, .int .i64 1]) (by simp [results, Try.results14, go_sem]) rfl ⟨_, by rw [e2.out], by rw [e1.out]; exact Own.nil _ _ _ _, hB⟩
        | true =>
          go_wp2_with fail
          refine (cS w2 (hs.mono hB)).mono ?_
          rintro e w3 ⟨rfl, hb3⟩
          replace g0 := g0.mono hb3
          replace hB := below2 hB hb3
          clear hb3 cS k0 k1 k2 k3 k4 k5
          have k0 := g0.cell (j := 0) (v := .int .u64 p) rfl; have k1 := g0.cell (j := 1) (v := .int .i64 pub) rfl; have k2 := g0.cell (j := 2) (v := .int .i64 (V : Int)) rfl; have k3 := g0.cell (j := 3) (v := .slice ra R.length rc) rfl; have k4 := g0.cell (j := 4) (v := .int .i64 sec) rfl; have k5 := g0.cell (j := 5) (v := .slice ha H.length hc) rfl
          cases As with
          | false =>
            have e1 := hide (show RL = [] by rw [hRL.out, hI.out]; rfl)
            have e2 := hide (show RE = 1 by rw [hRE.out, hI.out]; rfl)
            clear hI hmk
            go_wp2
            exact bodyPost_ret (v := .tuple #[.slice none 0 0, .int .i64 1]) (by simp [results, Try.results14, go_sem]) rfl ⟨_, by rw [e2.out], by rw [e1.out]; exact Own.nil _ _ _ _, hB⟩
          | true =>
            have e1 := hide (show RL = runH p (1 :: (u ++ s)) H by rw [hRL.out, hI.out]; rfl)
            have e2 := hide (show RE = 0 by rw [hRE.out, hI.out]; rfl)
            clear hI hRL hRE
            have ownM : Own (w3.alloc (.cells (madeCells #[.int .u64 0] V) 22)) w.heap.size 22 .u64 (.slice (some ⟨w3.heap.size, 0, none⟩) 0 V) [] := Own.of_blk (xs := []) hB.size (Blk.new _ _ _) (by simp) (by simp only [maxLen]; omega) (by simp [madeCells]) rfl
            have g0M := g0.alloc (.cells (madeCells #[.int .u64 0] V) 22)
            have hBM := hB.alloc hB.size (.cells (madeCells #[.int .u64 0] V) 22)
            have hpos := hB.size
            go_wp2_with (at_builtin; refine wpList_appX _ 22 .u64 1 rfl _ _ 32 rfl w.heap.size 8 Try.underlying32 Try.infoU64 (by decide) _ [] _ rfl rfl (by simp) ownM (by simp) hBM.size ?_; intro v4 w4 own4 hg4; refine Hold.mk ?_)
            refine Hold.go ?_
            replace g0 := hg4.blk g0M (own_neq ownM g0M (by decide))
            replace hB := hg4.below hBM ownM (Nat.le_refl _) hBM.size
            clear ownM g0M hBM hg4 hmk k0 k1 k2 k3 k4 k5
            rw [List.nil_append] at own4
            have hu4 := hu.mono hB
            go_wp2_with (at_builtin; refine wpList_app _ rfl _ _ 32 rfl w.heap.size 22 .u64 8 Try.underlying32 Try.infoU64 (by decide) _ [1] u uc _ rfl rfl own4 hu4 (by simp; omega) hB.size ?_; intro v5 w5 own5 hg5; refine Hold.mk ?_)
            refine Hold.go ?_
            replace g0 := hg5.blk g0 (own_neq own4 g0 (by decide))
            replace hB := hg5.below hB own4 (Nat.le_refl _) hB.size
            clear own4 hg5 hu4
            have hs5 := hs.mono hB
            go_wp2_with (at_builtin; refine wpList_app _ rfl _ _ 32 rfl w.heap.size 22 .u64 8 Try.underlying32 Try.infoU64 (by decide) _ ([1] ++ u) s sc _ rfl rfl own5 hs5 (by simp; omega) hB.size ?_; intro v6 w6 own6 hg6; refine Hold.mk ?_)
            refine Hold.go ?_
            replace g0 := hg6.blk g0 (own_neq own5 g0 (by decide))
            replace hB := hg6.below hB own5 (Nat.le_refl _) hB.size
            clear own5 hg6 hs5 hu hs
            obtain ⟨L0, hL0⟩ : ∃ L0, L0 = 1 :: (u ++ s) := ⟨_, rfl⟩
            rw [show [1] ++ u ++ s = L0 by rw [hL0]; simp] at own6
            rw [← hL0] at e1
            have hL0W : AllW L0 := fun x hx => by
              rw [hL0] at hx
              rcases List.mem_cons.1 hx with h1 | h1
              · rw [h1]; decide
              · rcases List.mem_append.1 h1 with h2 | h2
                · exact hAu x h2
                · exact hAs x h2
            have hL0l : L0.length = 1 + u.length + s.length := by rw [hL0]; simp; omega
            clear hAu hAs
            replace hL0 := hide hL0
            have k0 := g0.cell (j := 0) (v := .int .u64 p) rfl; have k1 := g0.cell (j := 1) (v := .int .i64 pub) rfl; have k2 := g0.cell (j := 2) (v := .int .i64 (V : Int)) rfl; have k3 := g0.cell (j := 3) (v := .slice ra R.length rc) rfl; have k4 := g0.cell (j := 4) (v := .int .i64 sec) rfl; have k5 := g0.cell (j := 5) (v := .slice ha H.length hc) rfl
            have hl3 : L0.length + H.length ≤ 65536 := by omega
            clear hlen
            have hg0 := g0.lt
            go_wp2_with fail
            generalize hF : w6.heap.size = bF at *
            have gF : Blk (w6.alloc (.cells #[.int .u64 p] 75)) bF #[.int .u64 p] 75 := Blk.newAt hF.symm
            have S0 : RunSt w (w6.alloc (.cells #[.int .u64 p] 75)) w.heap.size bF #[.int .u64 p, .int .i64 pub, .int .i64 (V : Int), .slice ra R.length rc, .int .i64 sec, .slice ha H.length hc] p v6 L0 := ⟨hB.alloc hB.size _, g0.alloc _, gF, own6.alloc _⟩
            clear hB g0 gF own6 hg0
            go_loopw [9, 65] (fun t9 t65 wr => ∃ k : Nat, k ≤ H.length ∧ t65 = .int .i64 k ∧ RunSt w wr w.heap.size bF #[.int .u64 p, .int .i64 pub, .int .i64 (V : Int), .slice ra R.length rc, .int .i64 sec, .slice ha H.length hc] p t9 (runH p L0 (H.take k))) (fun _ t65 _ => H.length - (intOf t65).toNat)
            case atStart => exact ⟨0, Nat.zero_le _, rfl, S0⟩
            case round =>
              clear S0 k0 k1 k2 k3 k4 k5
              obtain ⟨k, hk, rfl, S⟩ := hrel
              by_cases hlt : k < H.length
              · have hlt' : (k : Int) < H.length := by omega
                have hH' := hH.mono S.b
                obtain ⟨b, off, e, _, hc⟩ := hH'.s (by omega)
                obtain ⟨hc0, hc1, hc2, hc3⟩ := hc k hlt
                obtain ⟨hx, hy, _, _⟩ := hH'.ok _ (getD_mem' hlt default)
                have hst := runH_step p L0 H hlt
                obtain ⟨hlin, hcs⟩ := hint_cases (hok.out k hlt)
                have hMl := runH_len p L0 (H.take k)
                rw [List.length_take] at hMl
                have hMW : AllW (runH p L0 (H.take k)) := runH_mem (fun W h => hval_bd p W h) hL0W _
                obtain ⟨N, hN⟩ : ∃ N, N = runH p L0 (H.take (k + 1)) := ⟨_, rfl⟩
                rw [← hN] at hst
                generalize runH p L0 (H.take k) = M at *
                have hMl2 : M.length ≤ 65536 := by omega
                clear hc hH' hlin hok hMl
                generalize H.getD k default = r at *
                obtain ⟨kk, x, y, bit⟩ := r
                simp only at hc0 hc1 hc2 hc3 hx hy hcs
                obtain ⟨a9, c9, rfl, hM, _, _⟩ := Own.sl S.o
                have hBw := (Below.refl wr.heap.size wr).alloc (Nat.le_refl _) (.cells #[.int .i64 kk, .slice x.ad x.l.length x.cap, .slice y.ad y.l.length y.cap, .int .i64 bit] 42)
                have gT : Blk (wr.alloc (.cells #[.int .i64 kk, .slice x.ad x.l.length x.cap, .slice y.ad y.l.length y.cap, .int .i64 bit] 42)) wr.heap.size #[.int .i64 kk, .slice x.ad x.l.length x.cap, .slice y.ad y.l.length y.cap, .int .i64 bit] 42 := Blk.newAt rfl
                replace S := S.mono hBw
                replace hx := hx.mono hBw
                replace hy := hy.mono hBw
                replace hM := hM.mono hBw
                clear hBw
                subst e
                replace hst := hide hst
                replace hN := hide hN
                go_wp2_with fail
                generalize wr.alloc (.cells #[.int .i64 kk, .slice x.ad x.l.length x.cap, .slice y.ad y.l.length y.cap, .int .i64 bit] 42) = W at *
                have vb := lval_bd p M x.l
                have h1 := fun e => hval1 (p := p) (W := M) (h := ⟨kk, x, y, bit⟩) e
                have h2 := fun e => hval2 (p := p) (W := M) (h := ⟨kk, x, y, bit⟩) e
                have h3 := fun e => hval3 (p := p) (W := M) (h := ⟨kk, x, y, bit⟩) e
                simp only at h1 h2 h3
                refine (tValue_any p x a9 c9 M W hx hM hMW).mono ?_
                rintro e w8 ⟨rfl, hb8⟩
                generalize lval p M x.l = va at *
                replace S := S.mono hb8
                replace hy := hy.mono hb8
                replace hM := hM.mono hb8
                replace gT := gT.mono hb8
                clear hx hb8 hc0 hc1 hc2 hc3
                have t0 := gT.cell (j := 0) (v := .int .i64 kk) rfl
                rcases hcs with ⟨e1, _⟩ | e1 | ⟨e1, e2, e3⟩
                · have hvl := hide (h1 e1)
                  subst e1
                  clear h1 h2 h3
                  have cy := fun P => tValue_any p y a9 c9 M (later w8 P) (hy.mono (below_later _ _)) (hM.mono (below_later _ _)) hMW
                  have vby := lval_bd p M y.l
                  generalize lval p M y.l = vb2 at *
                  have cm := fun P => Mul_any p va vb2 (later w8 P) vb.1 vb.2 vby.1 vby.2
                  generalize fmul p va vb2 = vm at *
                  go_wp2_with fail
                  have f0 := cell_later' (S.f.cell (j := 0) (v := .int .u64 p) rfl)
                  have t2 := cell_later' (gT.cell (j := 2) (v := .slice y.ad y.l.length y.cap) rfl)
                  refine wp_region_later Try.mixed (by kernel_rfl) ?_
                  repeat (first | go_big_quiet_step (first | (go_at_call 42; exact Calls.later_of (cy _)) | (go_at_call 43; exact Calls.later_of (cm _))) | quiet_step (first | (go_at_call 42; exact Calls.later_of (cy _)) | (go_at_call 43; exact Calls.later_of (cm _))))
                  refine wpQuiet_nil ?_
                  intro w5 hb5
                  replace hb5 := below_of_later hb5
                  replace S := S.mono hb5
                  clear hb5 cy cm f0 t2 t0 gT hy hM
                  go_wp2_with (at_builtin; refine wpList_appX _ 22 .u64 _ rfl _ _ 32 rfl w.heap.size 8 Try.underlying32 Try.infoU64 (by decide) _ M _ rfl rfl (by simp) S.o (by omega) S.b.size ?_; intro v9 w9 own9 hg9; refine Hold.mk ?_)
                  refine Hold.go ?_
                  replace S := S.grew hg9 own9
                  clear own9 hg9
                  go_wp2
                  go_roundw
                  case rel => exact ⟨k + 1, by omega, by go_num, by rw [← hN.out, hst.out, hvl.out]; exact S⟩
                  case measure => simp [intOf]; omega
                · have hvl := hide (h2 e1)
                  subst e1
                  clear h1 h2 h3
                  have ib := finv_bd p va
                  have ci := Inv_any p va w8 vb.1 vb.2
                  generalize finv p va = vi at *
                  have f0 := S.f.cell (j := 0) (v := .int .u64 p) rfl
                  go_wp2_with fail
                  refine ci.mono ?_
                  rintro e w5 ⟨rfl, hb5⟩
                  replace S := S.mono hb5
                  clear hb5 ci f0 t0 gT hy hM
                  go_wp2_with (at_builtin; refine wpList_appX _ 22 .u64 _ rfl _ _ 32 rfl w.heap.size 8 Try.underlying32 Try.infoU64 (by decide) _ M _ rfl rfl (by simp) S.o (by omega) S.b.size ?_; intro v9 w9 own9 hg9; refine Hold.mk ?_)
                  refine Hold.go ?_
                  replace S := S.grew hg9 own9
                  clear own9 hg9
                  go_wp2
                  go_roundw
                  case rel => exact ⟨k + 1, by omega, by go_num, by rw [← hN.out, hst.out, hvl.out]; exact S⟩
                  case measure => simp [intOf]; omega
                · have hvl := hide (h3 e1)
                  subst e1
                  clear h1 h2 h3
                  obtain ⟨q, rfl⟩ := Int.eq_ofNat_of_zero_le vb.1
                  obtain ⟨i, rfl⟩ := Int.eq_ofNat_of_zero_le e2
                  have hbt := bit_factU q i (by omega)
                  have hvl2 := hide (show hval p M ⟨3, x, y, (i : Int)⟩ = ((q / 2 ^ i % 2 : Nat) : Int) by
                    rw [hvl.out, Int.toNat_natCast, show ((2 : Int) ^ i) = ((2 ^ i : Nat) : Int) from (Int.natCast_pow 2 i).symm]
                    omega)
                  clear hvl
                  have hvl := hvl2
                  clear hvl2
                  have t3 := gT.cell (j := 3) (v := .int .i64 i) rfl
                  generalize q / 2 ^ i % 2 = bt at *
                  clear hy hM
                  go_wp2_with (at_builtin; refine wpList_appX _ 22 .u64 _ rfl _ _ 32 rfl w.heap.size 8 Try.underlying32 Try.infoU64 (by decide) _ M _ rfl rfl (by simp) S.o (by omega) S.b.size ?_; intro v9 w9 own9 hg9; refine Hold.mk ?_)
                  refine Hold.go ?_
                  replace S := S.grew hg9 own9
                  clear own9 hg9
                  go_wp2
                  go_roundw
                  case rel => exact ⟨k + 1, by omega, by go_num, by rw [← hN.out, hst.out, hvl.out]; exact S⟩
                  case measure => simp [intOf]; omega
              · obtain rfl : k = H.length := by omega
                have hT := hide (show H.take H.length = H from List.take_length)
                obtain ⟨a9, c9, e9, _, _, _⟩ := Own.sl S.o
                subst e9
                go_wp2
                exact bodyPost_ret (v := .tuple #[.slice a9 (runH p L0 (H.take H.length)).length c9, .int .i64 0]) (by simp [results, Try.results14, go_sem]) rfl ⟨_, by rw [e2.out], by rw [e1.out]; have := S.o; rw [hT.out] at this ⊢; exact this, S.b⟩
      · have hl1' : ((u.length : Int) != pub) = false := by simp [hl1]
        have hl2' : ((s.length : Int) != sec) = true := by simpa using hl2
        rw [inp_no fun h => hl2 h.2] at hI
        rw [hI, if_neg (by decide), if_neg (by decide)]
        replace hl1 := hide hl1
        replace hl2 := hide hl2
        clear hI hu hs hAu hAs hv hok
        go_enter Try.func14, Try.ntmps14
        go_wp2_with fail
        refine name_calls fun W hN => ?_
        have g0 : Blk W w.heap.size #[.int .u64 p, .int .i64 pub, .int .i64 vars, .slice ra R.length rc, .int .i64 sec, .slice ha H.length hc] 28 := by rw [hN]; exact Blk.newAt rfl
        have hB : Below w.heap.size w W := by rw [hN]; exact (Below.refl _ _).alloc (Nat.le_refl _) _
        clear hN
        refine (cC W (hR.mono hB) (hH.mono hB)).mono ?_
        rintro e w1 ⟨rfl, hb1⟩
        replace g0 := g0.mono hb1
        have k0 := g0.cell (j := 0) (v := .int .u64 p) rfl; have k1 := g0.cell (j := 1) (v := .int .i64 pub) rfl; have k2 := g0.cell (j := 2) (v := .int .i64 vars) rfl; have k3 := g0.cell (j := 3) (v := .slice ra R.length rc) rfl; have k4 := g0.cell (j := 4) (v := .int .i64 sec) rfl; have k5 := g0.cell (j := 5) (v := .slice ha H.length hc) rfl
        go_wp2
        exact bodyPost_ret (v := .tuple #[.slice none 0 0, .int .i64 1]) (by simp [results, Try.results14, go_sem]) rfl ⟨_, rfl, Own.nil _ _ _ _, below2 hB hb1⟩
    · have hl1' : ((u.length : Int) != pub) = true := by simpa using hl1
      rw [inp_no fun h => hl1 h.1] at hI
      rw [hI, if_neg (by decide), if_neg (by decide)]
      replace hl1 := hide hl1
      clear hI hu hs hAu hAs hv hok
      go_enter Try.func14, Try.ntmps14
      go_wp2_with fail
      refine name_calls fun W hN => ?_
      have g0 : Blk W w.heap.size #[.int .u64 p, .int .i64 pub, .int .i64 vars, .slice ra R.length rc, .int .i64 sec, .slice ha H.length hc] 28 := by rw [hN]; exact Blk.newAt rfl
      have hB : Below w.heap.size w W := by rw [hN]; exact (Below.refl _ _).alloc (Nat.le_refl _) _
      clear hN
      refine (cC W (hR.mono hB) (hH.mono hB)).mono ?_
      rintro e w1 ⟨rfl, hb1⟩
      replace g0 := g0.mono hb1
      have k0 := g0.cell (j := 0) (v := .int .u64 p) rfl; have k1 := g0.cell (j := 1) (v := .int .i64 pub) rfl; have k2 := g0.cell (j := 2) (v := .int .i64 vars) rfl; have k3 := g0.cell (j := 3) (v := .slice ra R.length rc) rfl; have k4 := g0.cell (j := 4) (v := .int .i64 sec) rfl; have k5 := g0.cell (j := 5) (v := .slice ha H.length hc) rfl
      go_wp2
      exact bodyPost_ret (v := .tuple #[.slice none 0 0, .int .i64 1]) (by simp [results, Try.results14, go_sem]) rfl ⟨_, rfl, Own.nil _ _ _ _, below2 hB hb1⟩

end Go.Proofs.Ytlflkddgdbdebaa

/- Circuits: the completion of inputs, of the reference. -/
namespace Go.Proofs.Ytlflkddgdbdebaa
open Go.RowKit

/-- The loop of Complete. -/
structure CompSt (w wr : World) (bC : Nat) (cs : Array Value) (v : Value) (l : List Int) : Prop where
  b : Below w.heap.size w wr
  c : Blk wr bC cs 28
  o : Own wr w.heap.size 22 .u64 v l
theorem CompSt.mono {w wr w2 : World} {bC : Nat} {cs : Array Value} {v : Value} {l : List Int} (h : CompSt w wr bC cs v l) (hb : Below wr.heap.size wr w2) : CompSt w w2 bC cs v l :=
  ⟨below2 h.b hb, h.c.mono hb, h.o.mono hb⟩
theorem CompSt.grew {w wr w2 : World} {bC : Nat} {cs : Array Value} {v v' : Value} {l l' : List Int} (h : CompSt w wr bC cs v l) (hg : Grew wr w2 v v') (ho : Own w2 w.heap.size 22 .u64 v' l') : CompSt w w2 bC cs v' l' :=
  ⟨hg.below h.b h.o (Nat.le_refl _) h.b.size, hg.blk h.c (own_neq h.o h.c (by decide)), ho⟩

set_option maxRecDepth 10000 in
set_option maxHeartbeats 4000000 in
theorem Complete_any (p pub vars : Int) (ra : Option Addr) (R : List Rw) (rc : Nat) (sec : Int) (ha : Option Addr) (H : List Hn) (hc : Nat) (la : Option Addr) (lc : Nat) (l : List Int) (w : World)
    (hH : HintsP w ha hc H) (hl : Sl w .u64 la l) (hA : AllW l) (hC : cirOk p pub vars R sec H = true) (hlen : (l.length : Int) = pub + sec) :
    Calls Try.prog 45 #[.agg #[.int .u64 p, .int .i64 pub, .int .i64 vars, .slice ra R.length rc, .int .i64 sec, .slice ha H.length hc], .slice la l.length lc] w (RetSl w 22 .u64 (runH p (1 :: l) H)) := by
  obtain ⟨hT, hs0, hv, hok⟩ := cir_bd hC
  obtain ⟨hvp, hp0, hp1, hp2, _⟩ := tbl_bd hT
  have hl3 : l.length + 1 + H.length ≤ 65536 := by omega
  clear hC hT
  replace hv := hide hv
  replace hok := hide hok
  replace hlen := hide hlen
  go_enter Try.func45, Try.ntmps45
  have g1 : Blk (w.alloc (.cells #[.int .u64 p, .int .i64 pub, .int .i64 vars, .slice ra R.length rc, .int .i64 sec, .slice ha H.length hc] 28)) w.heap.size #[.int .u64 p, .int .i64 pub, .int .i64 vars, .slice ra R.length rc, .int .i64 sec, .slice ha H.length hc] 28 := Blk.newAt rfl
  have hB1 : Below w.heap.size w (w.alloc (.cells #[.int .u64 p, .int .i64 pub, .int .i64 vars, .slice ra R.length rc, .int .i64 sec, .slice ha H.length hc] 28)) := (Below.refl _ _).alloc (Nat.le_refl _) _
  have own1 : Own ((w.alloc (.cells #[.int .u64 p, .int .i64 pub, .int .i64 vars, .slice ra R.length rc, .int .i64 sec, .slice ha H.length hc] 28)).alloc (.cells #[.int .u64 1] 22)) w.heap.size 22 .u64 (.slice (some ⟨w.heap.size + 1, 0, none⟩) 1 1) [1] := Own.of_blk (xs := [1]) (by omega) (Blk.newAt (by simp)) (by simp) (by simp [maxLen]) rfl rfl
  have hl1 := (hl.mono hB1).alloc (.cells #[.int .u64 1] 22)
  have g2 := g1.alloc (.cells #[.int .u64 1] 22)
  have hB2 := hB1.alloc hB1.size (.cells #[.int .u64 1] 22)
  go_wp2_with (at_builtin; refine wpList_app _ rfl _ _ 32 rfl w.heap.size 22 .u64 8 Try.underlying32 Try.infoU64 (by decide) _ [1] l lc _ rfl rfl own1 hl1 (by simp; omega) hB2.size ?_; intro v4 w4 own4 hg4; refine Hold.mk ?_)
  refine Hold.go ?_
  obtain ⟨L0, hL0⟩ : ∃ L0, L0 = 1 :: l := ⟨_, rfl⟩
  have S0 : CompSt w w4 w.heap.size #[.int .u64 p, .int .i64 pub, .int .i64 vars, .slice ra R.length rc, .int .i64 sec, .slice ha H.length hc] v4 L0 := ⟨hg4.below hB2 own1 (Nat.le_refl _) hB2.size, hg4.blk g2 (own_neq own1 g2 (by decide)), by rw [hL0]; simpa using own4⟩
  have hL0W : AllW L0 := fun x hx => by
    rw [hL0] at hx
    rcases List.mem_cons.1 hx with h1 | h1
    · rw [h1]; decide
    · exact hA x h1
  have hL0l : L0.length = 1 + l.length := by rw [hL0]; simp; omega
  have hres : ∀ e w', RetSl w 22 .u64 (runH p L0 H) e w' → RetSl w 22 .u64 (runH p (1 :: l) H) e w' := fun e w' h => by rw [← hL0]; exact h
  clear hL0 own4 hg4 own1 g1 g2 hB1 hB2 hl1 hl hA
  have hg0 := S0.c.lt
  go_wp2_with fail
  go_loopw [6, 7] (fun t6 t7 wr => ∃ k : Nat, k ≤ H.length ∧ t7 = .int .i64 k ∧ CompSt w wr w.heap.size #[.int .u64 p, .int .i64 pub, .int .i64 vars, .slice ra R.length rc, .int .i64 sec, .slice ha H.length hc] t6 (runH p L0 (H.take k))) (fun _ t7 _ => H.length - (intOf t7).toNat)
  case atStart => exact ⟨0, Nat.zero_le _, rfl, S0⟩
  case round =>
    clear S0 hg0
    obtain ⟨k, hk, rfl, S⟩ := hrel
    have gr := S.c
    have k0 := gr.cell (j := 0) (v := .int .u64 p) rfl; have k1 := gr.cell (j := 1) (v := .int .i64 pub) rfl; have k2 := gr.cell (j := 2) (v := .int .i64 vars) rfl; have k3 := gr.cell (j := 3) (v := .slice ra R.length rc) rfl; have k4 := gr.cell (j := 4) (v := .int .i64 sec) rfl; have k5 := gr.cell (j := 5) (v := .slice ha H.length hc) rfl
    by_cases hlt : k < H.length
    · have hlt' : (k : Int) < H.length := by omega
      have hH' := hH.mono S.b
      obtain ⟨b, off, e, _, hc⟩ := hH'.s (by omega)
      obtain ⟨hc0, hc1, hc2, hc3⟩ := hc k hlt
      obtain ⟨hx, hy, _, _⟩ := hH'.ok _ (getD_mem' hlt default)
      have hst := runH_step p L0 H hlt
      obtain ⟨hlin, hcs⟩ := hint_cases (hok.out k hlt)
      have hMl := runH_len p L0 (H.take k)
      rw [List.length_take] at hMl
      have hMW : AllW (runH p L0 (H.take k)) := runH_mem (fun W h => hval_bd p W h) hL0W _
      obtain ⟨N, hN⟩ : ∃ N, N = runH p L0 (H.take (k + 1)) := ⟨_, rfl⟩
      rw [← hN] at hst
      generalize runH p L0 (H.take k) = M at *
      have hMl2 : M.length ≤ 65536 := by omega
      have hMl3 : (M.length : Int) = 1 + pub + sec + k := by have := hlen.out; omega
      clear hc hH' hok hMl
      generalize H.getD k default = r at *
      obtain ⟨kk, x, y, bit⟩ := r
      simp only at hc0 hc1 hc2 hc3 hx hy hcs hlin
      obtain ⟨a9, c9, rfl, hM, _, _⟩ := Own.sl S.o
      have hBw := (Below.refl wr.heap.size wr).alloc (Nat.le_refl _) (.cells #[.int .i64 kk, .slice x.ad x.l.length x.cap, .slice y.ad y.l.length y.cap, .int .i64 bit] 42)
      have gT : Blk (wr.alloc (.cells #[.int .i64 kk, .slice x.ad x.l.length x.cap, .slice y.ad y.l.length y.cap, .int .i64 bit] 42)) wr.heap.size #[.int .i64 kk, .slice x.ad x.l.length x.cap, .slice y.ad y.l.length y.cap, .int .i64 bit] 42 := Blk.newAt rfl
      replace S := S.mono hBw
      replace hx := hx.mono hBw
      replace hy := hy.mono hBw
      replace hM := hM.mono hBw
      clear hBw
      subst e
      replace hst := hide hst
      replace hN := hide hN
      replace hlin := hide hlin
      replace hMl3 := hide hMl3
      go_wp2_with fail
      generalize wr.alloc (.cells #[.int .i64 kk, .slice x.ad x.l.length x.cap, .slice y.ad y.l.length y.cap, .int .i64 bit] 42) = W at *
      have vb := lval_bd p M x.l
      have h1 := fun e => hval1 (p := p) (W := M) (h := ⟨kk, x, y, bit⟩) e
      have h2 := fun e => hval2 (p := p) (W := M) (h := ⟨kk, x, y, bit⟩) e
      have h3 := fun e => hval3 (p := p) (W := M) (h := ⟨kk, x, y, bit⟩) e
      simp only at h1 h2 h3
      refine (rValue20_any p x a9 c9 M W hx hM hMW (fun i hi => by have := (of_decide_eq_true hlin.out i hi).1; have := hMl3.out; omega)).mono ?_
      rintro e w8 ⟨rfl, hb8⟩
      generalize lval p M x.l = va at *
      replace S := S.mono hb8
      replace hy := hy.mono hb8
      replace hM := hM.mono hb8
      replace gT := gT.mono hb8
      clear hx hb8 hc0 hc1 hc2 hc3 k0 k1 k2 k3 k4 k5 hlin gr
      have t0 := gT.cell (j := 0) (v := .int .i64 kk) rfl
      have t2 := gT.cell (j := 2) (v := .slice y.ad y.l.length y.cap) rfl
      rcases hcs with ⟨e1, hly⟩ | e1 | ⟨e1, e2, e3⟩
      · have hvl := hide (h1 e1)
        subst e1
        have hMl4 := hMl3.out
        clear h1 h2 h3
        go_wp2_with fail
        replace hly := hide hly
        refine (rValue20_any p y a9 c9 M w8 hy hM hMW (fun i hi => by have := (of_decide_eq_true hly.out i hi).1; omega)).mono ?_
        rintro e w5 ⟨rfl, hb5⟩
        have vby := lval_bd p M y.l
        generalize lval p M y.l = vb2 at *
        have cm := fun W => rMul_any p va vb2 W vb.1 vb.2 vby.1 vby.2
        generalize fmul p va vb2 = vm at *
        replace S := S.mono hb5
        clear hb5 t0 t2 gT hy hM hly
        go_wp2_with fail
        refine (cm w5).mono ?_
        rintro e w6 ⟨rfl, hb6⟩
        replace S := S.mono hb6
        clear hb6 cm
        go_wp2_with (at_builtin; refine wpList_appX _ 22 .u64 _ rfl _ _ 32 rfl w.heap.size 8 Try.underlying32 Try.infoU64 (by decide) _ M _ rfl rfl (by simp) S.o (by omega) S.b.size ?_; intro v9 w9 own9 hg9; refine Hold.mk ?_)
        refine Hold.go ?_
        replace S := S.grew hg9 own9
        clear own9 hg9
        go_wp2
        go_roundw
        case rel => exact ⟨k + 1, by omega, by go_num, by rw [← hN.out, hst.out, hvl.out]; exact S⟩
        case measure => simp [intOf]; omega
      · have hvl := hide (h2 e1)
        subst e1
        clear h1 h2 h3 t2
        have ib := finv_bd p va
        have ci := rInv_any p va w8 vb.1 vb.2
        generalize finv p va = vi at *
        go_wp2_with fail
        refine ci.mono ?_
        rintro e w5 ⟨rfl, hb5⟩
        replace S := S.mono hb5
        clear hb5 ci t0 gT hy hM
        go_wp2_with (at_builtin; refine wpList_appX _ 22 .u64 _ rfl _ _ 32 rfl w.heap.size 8 Try.underlying32 Try.infoU64 (by decide) _ M _ rfl rfl (by simp) S.o (by omega) S.b.size ?_; intro v9 w9 own9 hg9; refine Hold.mk ?_)
        refine Hold.go ?_
        replace S := S.grew hg9 own9
        clear own9 hg9
        go_wp2
        go_roundw
        case rel => exact ⟨k + 1, by omega, by go_num, by rw [← hN.out, hst.out, hvl.out]; exact S⟩
        case measure => simp [intOf]; omega
      · have hvl := hide (h3 e1)
        subst e1
        clear h1 h2 h3 t2
        obtain ⟨q, rfl⟩ := Int.eq_ofNat_of_zero_le vb.1
        obtain ⟨i, rfl⟩ := Int.eq_ofNat_of_zero_le e2
        have hbt : ((q : Int) / 2 ^ i).tmod 2 = ((q / 2 ^ i % 2 : Nat) : Int) := by
          rw [show ((2 : Int) ^ i) = ((2 ^ i : Nat) : Int) from (Int.natCast_pow 2 i).symm, ← Int.natCast_ediv]
          rfl
        have hvl2 := hide (show hval p M ⟨3, x, y, (i : Int)⟩ = ((q / 2 ^ i % 2 : Nat) : Int) by
          rw [hvl.out, Int.toNat_natCast, show ((2 : Int) ^ i) = ((2 ^ i : Nat) : Int) from (Int.natCast_pow 2 i).symm]
          omega)
        clear hvl
        have hvl := hvl2
        clear hvl2
        have t3 := gT.cell (j := 3) (v := .int .i64 i) rfl
        have hb2 : q / 2 ^ i % 2 < 2 := Nat.mod_lt _ (by decide)
        generalize q / 2 ^ i % 2 = bt at *
        clear hy hM
        go_wp2_with (at_builtin; refine wpList_appX _ 22 .u64 _ rfl _ _ 32 rfl w.heap.size 8 Try.underlying32 Try.infoU64 (by decide) _ M _ rfl rfl (by simp) S.o (by omega) S.b.size ?_; intro v9 w9 own9 hg9; refine Hold.mk ?_)
        refine Hold.go ?_
        replace S := S.grew hg9 own9
        clear own9 hg9
        go_wp2
        go_roundw
        case rel => exact ⟨k + 1, by omega, by go_num, by rw [← hN.out, hst.out, hvl.out]; exact S⟩
        case measure => simp [intOf]; omega
    · obtain rfl : k = H.length := by omega
      have hT := hide (show H.take H.length = H from List.take_length)
      go_wp2
      go_ret
      exact hres _ _ ⟨_, rfl, by have := S.o; rw [hT.out] at this; exact this, S.b⟩
end Go.Proofs.Ytlflkddgdbdebaa
