/- A tree of leaves: update. -/
import Derived.Test.YthkdaoomnfgooaaTreeA
import Derived.Deep.RegionLaw
namespace Go.Proofs.Ythkdaoomnfgooaa
open Go.RowKit

set_option maxHeartbeats 1000000 in
theorem update_nil (w : World) (base bL bV d : Nat) (vs : Nat → Value) (h : LogS w base bL bV d vs fun k => lev k []) (hd : 1 ≤ d) :
    Calls Try.prog 64 #[.pointer (some ⟨bL, 0, none⟩)] w fun e w' => ∃ v, e = .returned v ∧ LogR w w' base bL bV d vs fun k => lev k [] := by
  have cC := fun (W : World) (h : LogS W base bL bV d vs fun k => lev k []) => Count_any W base bL bV d vs _ h hd
  simp only [lev_zero] at cC
  go_enter Try.func64, Try.ntmps64
  go_wp2_with fail
  refine (cC w h).mono ?_
  rintro e w2 ⟨rfl, hb⟩
  replace h := h.mono hb
  clear cC
  go_wp2
  exact bodyPost_ret (v := .tuple #[]) (by simp [results, Try.results64, go_sem]) rfl ⟨_, rfl, _, h, fun _ hi => .inl hi, .of_below hb⟩

/-- The levels up to j are right. -/
def UpdI (w wr : World) (base bL bV d : Nat) (vs : Nat → Value) (l : List Int) (j : Nat) : Prop :=
  ∃ vs' Ls', LogS wr base bL bV d vs' Ls' ∧ Hid (∀ i, i ≤ j → Ls' i = lev i l) ∧ Hid (∀ i, j < i → i ≤ d → nearly (Ls' i) i l) ∧ Hid (∀ i, inLog bV d vs' i → inLog bV d vs i ∨ w.heap.size ≤ i) ∧ Keep (inLog bV d vs) w wr
theorem updI_next {w wr : World} {base bL bV d j : Nat} {vs vs' : Nat → Value} {l : List Int} {Ls' : Nat → List Int} {v : List Int} (h : LogS wr base bL bV d vs' (upd Ls' (j + 1) v)) (hv : v = lev (j + 1) l)
    (e1 : ∀ i, i ≤ j → Ls' i = lev i l) (e2 : ∀ i, j < i → i ≤ d → nearly (Ls' i) i l) (e3 : ∀ i, inLog bV d vs' i → inLog bV d vs i ∨ w.heap.size ≤ i) (e4 : Keep (inLog bV d vs) w wr) : UpdI w wr base bL bV d vs l (j + 1) := by
  refine ⟨vs', _, h, fun i hi => ?_, fun i h1 h2 => ?_, e3, e4⟩
  · by_cases e : i = j + 1
    · rw [e, upd_same, hv]
    · rw [upd_other _ _ e]; exact e1 i (by omega)
  · rw [upd_other _ _ (by omega)]; exact e2 i (by omega) h2

theorem updI_app {w wA w6 : World} {base bL bV d j k : Nat} {vs vs' : Nat → Value} {l : List Int} {Ls' : Nat → List Int} {v : Value} {xs : List Int} (h : LogS wA base bL bV d vs' Ls') (hk : k = j + 1) (hlt : k ≤ d) (hg : Grew wA w6 (vs' k) v) (ho : Own w6 base 30 .u64 v xs) (hF : xs = lev k l)
    (e1 : ∀ i, i ≤ j → Ls' i = lev i l) (e2 : ∀ i, j < i → i ≤ d → nearly (Ls' i) i l) (e3 : ∀ i, inLog bV d vs' i → inLog bV d vs i ∨ w.heap.size ≤ i) (e4 : Keep (inLog bV d vs) w wA) : UpdI w (w6.setCell ⟨bV, k, none⟩ v) base bL bV d vs l k := by
  subst hk
  refine updI_next (h.app hlt hg ho) hF e1 e2 (fun i hi => ?_) (e4.trans (LogS.keepApp hlt hg) e3)
  rcases LogS.inApp hlt hg i hi with h1 | h1
  · exact e3 i h1
  · exact .inr (Nat.le_trans e4.size h1)

set_option maxRecDepth 10000 in
set_option maxHeartbeats 4000000 in
theorem update_any (w : World) (base bL bV d : Nat) (vs : Nat → Value) (Ls : Nat → List Int) (l : List Int) (h : LogS w base bL bV d vs Ls) (hd : 1 ≤ d) (hd2 : d ≤ 12) (h0 : Ls 0 = l) (hl1 : 1 ≤ l.length) (hl2 : l.length ≤ 4096) (hw : AllW l)
    (hn : ∀ k, 1 ≤ k → k ≤ d → nearly (Ls k) k l) (hbase : base ≤ w.heap.size) :
    Calls Try.prog 64 #[.pointer (some ⟨bL, 0, none⟩)] w fun e w' => ∃ v, e = .returned v ∧ LogR w w' base bL bV d vs fun k => lev k l := by
  have cC := fun (W : World) (h : LogS W base bL bV d vs Ls) => Count_any W base bL bV d vs _ h hd
  rw [h0] at cC
  obtain ⟨p0, hp0⟩ : ∃ p0, p0 = l.length - 1 := ⟨_, rfl⟩
  have hsub : (l.length : Int) - 1 = (p0 : Int) := by omega
  have hwp : IntKind.i64.wrap (p0 : Int) = p0 := by rw [IntKind.wrap_i64]; omega
  have hne : ((l.length : Int) == 0) = false := by simp; intro e; rw [e] at hl1; simp at hl1
  have hne2 : ¬ l = [] := by intro e; rw [e] at hl1; simp at hl1
  replace hp0 := hide hp0
  go_enter Try.func64, Try.ntmps64
  go_wp2_with fail
  refine (cC w h).mono ?_
  rintro e w1 ⟨rfl, hb1⟩
  have h1 := h.mono hb1
  go_wp2_with fail
  refine (cC w1 h1).mono ?_
  rintro e w2 ⟨rfl, hb2⟩
  replace hb2 := below2 hb1 hb2
  replace h1 := h.mono hb2
  clear cC hb1
  go_wp2_with fail
  have I0 : UpdI w w2 base bL bV d vs l 0 := ⟨vs, Ls, h1, fun i hi => by
    obtain rfl : i = 0 := by omega
    rw [h0, lev_zero], fun i hi hd => hn i (by omega) hd, fun i hi => .inl hi, .of_below hb2⟩
  have hpd : p0 / 2 ^ 0 = p0 := by simp
  clear h1 h hn h0 hne
  go_loopw [2, 3] (fun t2 t3 wr => ∃ j k p : Nat, j ≤ d ∧ Hid (k = j + 1) ∧ Hid (p = p0 / 2 ^ j) ∧ t3 = .int .i64 k ∧ t2 = .int .i64 p ∧ p ≤ 4096 ∧ UpdI w wr base bL bV d vs l j) (fun _ t3 _ => d + 1 - (intOf t3).toNat)
  case atStart => exact ⟨0, 1, p0, by omega, rfl, hpd.symm, rfl, rfl, by have := hp0.out; omega, I0⟩
  case round =>
    clear I0 hpd hsub hwp
    obtain ⟨j, k, p, hj, hk, hp, rfl, rfl, hp4, vs', Ls', h, e1, e2, e3, e4⟩ := hrel
    have c0 := h.c0
    by_cases hlt : k ≤ d
    · have hlt' : (k : Int) ≤ d := by omega
      have hk1 := hk.out
      have hkj : (k : Int) - 1 = (j : Int) := by omega
      have hwj : IntKind.i64.wrap (j : Int) = j := by rw [IntKind.wrap_i64]; omega
      obtain ⟨q, hq⟩ : ∃ q, q = p / 2 := ⟨_, rfl⟩
      have hq4 : q ≤ 4096 := by omega
      have hqk : q = p0 / 2 ^ k := by rw [hq, hp.out, hk1, half_pow]
      have hdv : (p : Int).tdiv 2 = (q : Int) := by rw [Int.tdiv_eq_ediv_of_nonneg (by omega)]; omega
      obtain ⟨q0, hq0⟩ : ∃ q0, q0 = 2 * q := ⟨_, rfl⟩
      obtain ⟨q1, hq1⟩ : ∃ q1, q1 = 2 * q + 1 := ⟨_, rfl⟩
      have m0 : 2 * (q : Int) = (q0 : Int) := by omega
      have m1 : (q0 : Int) + 1 = (q1 : Int) := by omega
      have n0 : IntKind.i64.wrap (q0 : Int) = q0 := by rw [IntKind.wrap_i64]; omega
      have n1 : IntKind.i64.wrap (q1 : Int) = q1 := by rw [IntKind.wrap_i64]; omega
      have hnear := e2.out k (by omega) hlt
      have hnl := hnear.1
      have hp0' := hp0.out
      rw [← hp0', ← hqk] at hnl
      have hfix := fix_lev hl1 hnear
      rw [← hp0', ← hqk] at hfix
      have hdg : dig k q l = nd (dig j q0 l) (dig j q1 l) := by rw [hk1, hq0, hq1]; rfl
      have cD := fun (i : Nat) (W : World) (h : LogS W base bL bV d vs' Ls') => digest_any W base bL bV d vs' _ j i h hd2 hj
      rw [e1.out j (Nat.le_refl j)] at cD
      simp only [gd_lev] at cD
      have b0 := dig_bd j q0 l hw
      have b1 := dig_bd j q1 l hw
      have cD0 := cD q0
      have cD1 := cD q1
      rw [hdg] at hfix
      obtain ⟨x, hx⟩ : ∃ x, x = dig j q0 l := ⟨_, rfl⟩
      obtain ⟨y, hy⟩ : ∃ y, y = dig j q1 l := ⟨_, rfl⟩
      rw [← hx] at cD0 b0 hfix
      rw [← hy] at cD1 b1 hfix
      have cH := fun (ad : Option Addr) (W : World) hs => Hash_any big 6 ad 2 [x, y] W (by decide) (by decide) hs (pair_W b0 b1) (by simp)
      have eH : hash big 6 [x, y] = nd x y := rfl
      rw [eH] at cH
      obtain ⟨z, hz⟩ : ∃ z, z = nd x y := ⟨_, rfl⟩
      rw [← hz] at cH hfix
      replace hk1 := hide hk1
      replace hq := hide hq
      replace hqk := hide hqk
      replace hq0 := hide hq0
      replace hq1 := hide hq1
      replace hp0' := hide hp0'
      replace hfix := hide hfix
      clear cD hdg eH hx hy hz b0 b1 hnear
      go_wp2_with fail
      refine (cD0 wr h).mono ?_
      rintro e w3 ⟨rfl, hb3⟩
      clear cD0
      go_wp2_with fail
      refine (cD1 w3 (h.mono hb3)).mono ?_
      rintro e w4 ⟨rfl, hb4⟩
      replace hb4 := below2 hb3 hb4
      clear cD1 hb3
      go_wp2_with fail
      refine name_calls fun W hW => ?_
      have hB : Below wr.heap.size wr W := by rw [hW]; exact hb4.alloc hb4.size _
      have g0 : Blk W w4.heap.size #[.int .u64 x, .int .u64 y] 30 := by rw [hW]; exact Blk.newAt rfl
      have s0 := Sl.blk (k := .u64) [x, y] g0 rfl
      clear hW g0 hb4
      refine (cH _ W s0).mono ?_
      rintro e w5 ⟨rfl, hb5⟩
      replace hB := below2 hB hb5
      replace h := h.mono hB
      replace e4 : Keep (inLog bV d vs) w w5 := e4.trans (T := fun _ => False) (Keep.of_below hB) (fun _ hf => hf.elim)
      have c1 := h.c1
      have cv := h.cv hlt
      have ho := h.own k hlt
      obtain ⟨a, c, hv, hs, _, _⟩ := Own.sl ho
      rw [hv] at cv
      have hkd : k < d + 1 := by omega
      clear cH s0 hb5
      by_cases hin : q < (Ls' k).length
      · have hin' : (q : Int) < (Ls' k).length := by omega
        obtain ⟨g, rfl⟩ : ∃ g : Nat, a = some ⟨g, 0, none⟩ := by
          rcases ho.form with ⟨he, he2⟩ | ⟨g, cp, _, he, _⟩
          · rw [he2] at hin; simp at hin
          · rw [hv] at he; injection he with he _ _; exact ⟨g, he⟩
        rw [hv] at ho
        have hfr := ho.free q
        have hc := ho.cell hin
        have hP := h.put hlt hv q z
        have hF : (Ls' k).set q z = lev k l := by rw [← hfix.out]; unfold fix; rw [if_pos hin]
        have hI : UpdI w (w5.setCell ⟨g, q, none⟩ (.int .u64 z)) base bL bV d vs l k := by
          have hk2 := hk1.out
          subst hk2
          exact updI_next hP hF e1.out e2.out e3.out (e4.trans (T := fun i => i = g) (Keep.set (S := fun i => i = g) rfl _) fun i hi => by subst hi; exact e3.out i (.inr ⟨j + 1, hlt, by rw [hv]; rfl⟩))
        clear hP
        go_wp2
        go_roundw
        case rel => exact ⟨k, k + 1, q, hlt, hide rfl, hide hqk.out, by go_num, rfl, hq4, hI⟩
        case measure => have := hk1.out; simp [intOf]; omega
      · have hin' : ((Ls' k).length : Int) ≤ q := by omega
        rw [hv] at ho
        have hF : Ls' k ++ [z] = lev k l := by rw [← hfix.out]; unfold fix; rw [if_neg hin]
        have hnb : (Value.slice a (Ls' k).length c).ownBlock ≠ some bL := by rw [← hv]; exact fun e => h.neL hlt e rfl
        have hnv : (Value.slice a (Ls' k).length c).ownBlock ≠ some bV := by rw [← hv]; exact fun e => h.neV hlt e rfl
        have hz5 := hbase
        have hw5 := e4.size
        have hll : (Ls' k).length < 1099511627775 := by omega
        replace hF := hide hF
        have hfV := h.kV.free k
        have hk00 : (0 : Int) ≤ (k : Int) := by omega
        have hkd1 : (k : Int) < (d : Int) + 1 := by omega
        have hkd2 : (k : Int) < ((d + 1 : Nat) : Int) := by omega
        clear hs hfix
        go_wp2_with fail
        have cva := cell_below ((Below.refl _ _).alloc (Nat.le_refl _) (.cells #[.int .u64 z] 30)) cv
        have c1a := cell_below ((Below.refl _ _).alloc (Nat.le_refl _) (.cells #[.int .u64 z] 30)) c1
        go_region_law
          ((refine step_app1 30 .u64 z (by rfl) _ _ 22 (by rfl) base 8 Try.underlying22 Try.infoU64 (by decide) _ (Ls' k) (by rfl) ((ho.alloc _)) w5.heap.size (by rfl) ((Blk.newAt rfl).cell (j := 0) rfl) hll (by simp; omega) ?_; intro v6 w6 hown hg; obtain ⟨a6, c6, rfl, _, _, _⟩ := Own.sl hown; have hfr := (hg.blk (h.kV.mono ((Below.refl _ _).alloc (Nat.le_refl _) _).drew) hnv).free k; have hcv6 := hg.cell (cell_below ((Below.refl _ _).alloc (Nat.le_refl _) _).drew cv) hnv; have hc16 := hg.cell (cell_below ((Below.refl _ _).alloc (Nat.le_refl _) _).drew c1) hnb))
        all_goals
          have hbA : Below w5.heap.size w5 (w5.alloc (.cells #[.int .u64 z] 30)).drew := ((Below.refl _ _).alloc (Nat.le_refl _) _).drew
          have hI := updI_app (w := w) (l := l) (vs := vs) (h.mono hbA) hk1.out hlt (by rw [hv]; exact hg) hown hF.out e1.out e2.out e3.out (e4.trans (T := fun _ => False) (Keep.of_below hbA) fun _ hf => hf.elim)
          rw [List.length_append] at hI
          clear hg hown hbA h e4 ho
          go_wp2
          go_roundw
          case rel => exact ⟨k, k + 1, q, hlt, hide rfl, hide hqk.out, by go_num, rfl, hq4, hI⟩
          case measure => have := hk1.out; simp [intOf]; omega
    · have e : j = d := by have := hk.out; omega
      have hlt' : (d : Int) < k := by omega
      go_wp2
      exact bodyPost_end (v := .tuple #[]) (by simp [results, Try.results64, go_sem]) rfl ⟨_, rfl, vs', h.congr fun i hi => e1.out i (by omega), e3, e4⟩

end Go.Proofs.Ythkdaoomnfgooaa

/- A tree of leaves: New, Append. -/
namespace Go.Proofs.Ythkdaoomnfgooaa
open Go.RowKit

theorem run_mkS {P : Program} {t e : TypeId} (ht : P.underlying t = some (.slice e)) (hinfo : (P.info? e).map (fun i => (i.zero, i.size, i.bytes)) = some (some (.slice none 0 0), 1, 24)) (c : Nat) (hc : c < 1099511627776) (w : World) :
    (Instr.makeSlice t (.int .i64 (c : Int)) (.int .i64 (c : Int))).run P w = .ok (.slice (some ⟨w.heap.size, 0, none⟩) c c) (w.alloc (.cells (madeCells #[.slice none 0 0] c) e)) := by
  obtain ⟨i, hi, hz, hsz, hby⟩ : ∃ i, P.info? e = some i ∧ i.zero = some (.slice none 0 0) ∧ i.size = 1 ∧ i.bytes = 24 := by
    cases h : P.info? e with
    | none => rw [h] at hinfo; cases hinfo
    | some i =>
      rw [h] at hinfo
      simp only [Option.map_some, Option.some.injEq, Prod.mk.injEq] at hinfo
      exact ⟨i, rfl, hinfo.1, hinfo.2.1, hinfo.2.2⟩
  have hb : (i.bytes : Int) * (c : Int) ≤ 281474976710656 := by rw [hby]; omega
  have hr := run_make (P := P) w t e i (.slice none 0 0) ht hi hz .i64 .i64 c c (by omega) (by omega) hb (by omega)
  simp only [Int.toNat_natCast, hsz, Nat.mul_one] at hr
  exact hr
theorem Try.infoSl : (Try.prog.info? 22).map (fun i => (i.zero, i.size, i.bytes)) = some (some (.slice none 0 0), 1, 24) := by kernel_rfl
theorem made_nil (c : Nat) : madeCells #[.slice none 0 0] c = ((List.range c).map fun _ => Value.slice none 0 0).toArray := by
  unfold madeCells
  apply Array.ext'
  rw [Array.toList_map]
  refine List.ext_getElem (by simp) fun i h1 h2 => ?_
  have e : i % 1 = 0 := Nat.mod_one i
  simp [e]

/-- What New returns. -/
def RetT (w : World) (d : Nat) (e : Ending) (w' : World) : Prop := ∃ bL bV vs, e = .returned (.tuple #[.pointer (some ⟨bL, 0, none⟩), .int .i64 0]) ∧ (LogS w' w.heap.size bL bV d vs fun k => lev k []) ∧ Below w.heap.size w w'
set_option maxRecDepth 10000 in
set_option maxHeartbeats 1000000 in
theorem TNew_any (d : Nat) (w : World) (h1 : 1 ≤ d) (h2 : d ≤ 12) :
    Calls Try.prog 44 #[.int .i64 d] w (RetT w d) := by
  have hmk := run_mkS (P := Try.prog) Try.underlying88 Try.infoSl (d + 1) (by omega)
  have h1' : (1 : Int) ≤ d := by omega
  have h2' : (d : Int) ≤ 12 := by omega
  rw [made_nil] at hmk
  obtain ⟨cs, hcs⟩ : ∃ cs, cs = ((List.range (d + 1)).map fun _ => Value.slice none 0 0).toArray := ⟨_, rfl⟩
  rw [← hcs] at hmk
  obtain ⟨n, hn⟩ : ∃ n, n = d + 1 := ⟨_, rfl⟩
  rw [← hn] at hmk
  have hdn : (d : Int) + 1 = (n : Int) := by omega
  have hwn : IntKind.i64.wrap (n : Int) = n := by rw [IntKind.wrap_i64]; omega
  replace hn := hide hn
  replace hcs := hide hcs
  have hL : ∀ W : World, LogS ((W.alloc (.cells cs 22)).alloc (.cells #[.int .i64 d, .slice (some ⟨W.heap.size, 0, none⟩) n n] 90)) W.heap.size (W.heap.size + 1) W.heap.size d (fun _ => .slice none 0 0) (fun k => lev k []) := fun W => by
    rw [hn.out, hcs.out]
    exact ⟨Blk.newAt (by simp), (Blk.newAt rfl).alloc _, fun k _ => by rw [lev_nil]; exact Own.nil _ _ _ _, fun _ _ _ _ _ _ e => (by cases e), Nat.le_succ _, Nat.le_refl _⟩
  go_enter Try.func44, Try.ntmps44
  go_wp2
  exact bodyPost_ret (v := .tuple #[.pointer (some ⟨w.heap.size + 1, 0, none⟩), .int .i64 0]) (by simp [results, Try.results44, go_sem]) rfl ⟨_, _, _, rfl, hL w, ((Below.refl _ _).alloc (Nat.le_refl _) _).alloc (by simp) _⟩
theorem TNew_bad (d : Int) (w : World) (h : d < 1 ∨ 12 < d) :
    Calls Try.prog 44 #[.int .i64 d] w fun e w' => e = .returned (.tuple #[.pointer none, .int .i64 1]) ∧ Below w.heap.size w w' := by
  rcases h with h | h
  · go_enter Try.func44, Try.ntmps44
    go_wp2
    exact bodyPost_ret (v := .tuple #[.pointer none, .int .i64 1]) (by simp [results, Try.results44, go_sem]) rfl ⟨rfl, Below.refl _ _⟩
  · have h1 : 1 ≤ d := by omega
    go_enter Try.func44, Try.ntmps44
    go_wp2
    exact bodyPost_ret (v := .tuple #[.pointer none, .int .i64 1]) (by simp [results, Try.results44, go_sem]) rfl ⟨rfl, Below.refl _ _⟩

theorem LogR.trans {w w1 w2 : World} {base bL bV d : Nat} {vs vs1 : Nat → Value} {Ls : Nat → List Int} (h1 : ∀ i, inLog bV d vs1 i → inLog bV d vs i ∨ w.heap.size ≤ i) (k1 : Keep (inLog bV d vs) w w1) (h : LogR w1 w2 base bL bV d vs1 Ls) : LogR w w2 base bL bV d vs Ls := by
  obtain ⟨vs2, h2, i2, k2⟩ := h
  exact ⟨vs2, h2, fun i hi => by
    rcases i2 i hi with h3 | h3
    · exact h1 i h3
    · exact .inr (Nat.le_trans k1.size h3), k1.trans k2 h1⟩

def tappE (d : Nat) (l : List Int) (x : Int) : Int := if x < big then (if l.length = 2 ^ d then 16 else 0) else 1
def tappL (d : Nat) (l : List Int) (x : Int) : List Int := if x < big then (if l.length = 2 ^ d then l else l ++ [x]) else l

set_option maxRecDepth 10000 in
set_option maxHeartbeats 4000000 in
theorem TAppend_any (w : World) (base bL bV d : Nat) (vs : Nat → Value) (l : List Int) (x : Int) (h : LogS w base bL bV d vs fun k => lev k l) (hd : 1 ≤ d) (hd2 : d ≤ 12) (hx : 0 ≤ x ∧ x < 18446744073709551616) (hl : l.length ≤ 2 ^ d) (hw : AllW l) (hbase : base ≤ w.heap.size) :
    Calls Try.prog 45 #[.pointer (some ⟨bL, 0, none⟩), .int .u64 x] w fun e w' => e = .returned (.int .i64 (tappE d l x)) ∧ LogR w w' base bL bV d vs fun k => lev k (tappL d l x) := by
  have hbig : big = 18446744069414584321 := rfl
  have hd' : (1 : Int) ≤ d := by omega
  have c0 := h.c0
  by_cases hxb : x < big
  · obtain ⟨p1, p2⟩ := pow_le12 hd2
    have epow : ((2 : Int) ^ d) = ((2 ^ d : Nat) : Int) := (Int.natCast_pow 2 _).symm
    obtain ⟨M, hM⟩ : ∃ M : Nat, M = 2 ^ d := ⟨_, rfl⟩
    have hwp : IntKind.i64.wrap ((2 : Int) ^ d) = M := by rw [epow, ← hM, IntKind.wrap_i64]; omega
    have hx' : x < 18446744069414584321 := by rw [hbig] at hxb; exact hxb
    have cC := fun (W : World) (h : LogS W base bL bV d vs fun k => lev k l) => Count_any W base bL bV d vs _ h hd
    simp only [lev_zero] at cC
    have k0 := cell_later' c0
    by_cases hf : l.length = 2 ^ d
    · have e1 : tappE d l x = 16 := by unfold tappE; rw [if_pos hxb, if_pos hf]
      have e2 : tappL d l x = l := by unfold tappL; rw [if_pos hxb, if_pos hf]
      have hfe : ((l.length : Int) == (M : Int)) = true := by rw [hf, ← hM]; simp
      rw [e1, e2]
      clear e1 e2 hf epow hM p1 p2 hbig hxb
      go_enter Try.func45, Try.ntmps45
      go_wp2_with fail
      refine wp_region_later Try.mixed (by kernel_rfl) ?_
      repeat (first | go_big_quiet_step (first | (go_at_call 49; exact Calls.later_of (cC _ (h.mono (below_later _ _))))) | quiet_step (first | (go_at_call 49; exact Calls.later_of (cC _ (h.mono (below_later _ _))))))
      refine wpQuiet_nil ?_
      intro w2 hb2
      replace hb2 := below_of_later hb2
      clear k0 cC
      go_wp2
      go_ret
      exact ⟨rfl, _, h.mono hb2, fun _ hi => .inl hi, .of_below hb2⟩
    · have e1 : tappE d l x = 0 := by unfold tappE; rw [if_pos hxb, if_neg hf]
      have e2 : tappL d l x = l ++ [x] := by unfold tappL; rw [if_pos hxb, if_neg hf]
      have hfe : ((l.length : Int) == (M : Int)) = false := by simp; omega
      have hl4 : l.length < 4096 := by omega
      rw [e1, e2]
      have cU := fun (W : World) (vs : Nat → Value) (Ls : Nat → List Int) h h0 hn hbase => update_any W base bL bV d vs Ls (l ++ [x]) h hd hd2 h0 (by simp) (by simp; omega) (fun y hy => by
        rcases List.mem_append.1 hy with h1 | h1
        · exact hw y h1
        · rw [List.mem_singleton.1 h1]; exact hx) hn hbase
      clear e1 e2 hf epow hM p1 p2 hbig hxb hl
      go_enter Try.func45, Try.ntmps45
      go_wp2_with fail
      refine wp_region_later Try.mixed (by kernel_rfl) ?_
      repeat (first | go_big_quiet_step (first | (go_at_call 49; exact Calls.later_of (cC _ (h.mono (below_later _ _))))) | quiet_step (first | (go_at_call 49; exact Calls.later_of (cC _ (h.mono (below_later _ _))))))
      refine wpQuiet_nil ?_
      intro w5 hb5
      replace hb5 := below_of_later hb5
      clear k0 cC c0
      have hz5 := Nat.le_trans hbase hb5.size
      have h5 := h.mono hb5
      have c1 := h5.c1
      have cv := h5.cv (Nat.zero_le d)
      have ho := h5.own 0 (Nat.zero_le d)
      rw [lev_zero] at ho
      obtain ⟨a, c, hv, _, _, _⟩ := Own.sl ho
      rw [hv] at cv ho
      have hnb : (Value.slice a l.length c).ownBlock ≠ some bL := by rw [← hv]; exact fun e => h5.neL (Nat.zero_le d) e rfl
      have hnv : (Value.slice a l.length c).ownBlock ≠ some bV := by rw [← hv]; exact fun e => h5.neV (Nat.zero_le d) e rfl
      have hll : l.length < 1099511627775 := by omega
      have hk00 : (0 : Int) < (d : Int) + 1 := by omega
      have hkd2 : 0 < d + 1 := by omega
      go_wp2_with fail
      have cva := cell_below ((Below.refl _ _).alloc (Nat.le_refl _) (.cells #[.int .u64 x] 30)) cv
      have c1a := cell_below ((Below.refl _ _).alloc (Nat.le_refl _) (.cells #[.int .u64 x] 30)) c1
      go_region_law
          ((refine step_app1 30 .u64 x (by rfl) _ _ 22 (by rfl) base 8 Try.underlying22 Try.infoU64 (by decide) _ l (by rfl) ((ho.alloc _)) w5.heap.size (by rfl) ((Blk.newAt rfl).cell (j := 0) rfl) hll (by simp; omega) ?_; intro v6 v6w hown hg; obtain ⟨a6, c6, rfl, _, _, _⟩ := Own.sl hown; have hfr := (hg.blk (h5.kV.mono ((Below.refl _ _).alloc (Nat.le_refl _) _).drew) hnv).free 0; have hcv6 := hg.cell (cell_below ((Below.refl _ _).alloc (Nat.le_refl _) _).drew cv) hnv; have hc16 := hg.cell (cell_below ((Below.refl _ _).alloc (Nat.le_refl _) _).drew c1) hnb))
      all_goals
        have hbA : Below w5.heap.size w5 (w5.alloc (.cells #[.int .u64 x] 30)).drew := ((Below.refl _ _).alloc (Nat.le_refl _) _).drew
        have hg' : Grew (w5.alloc (.cells #[.int .u64 x] 30)).drew v6w (vs 0) (.slice a6 (l ++ [x]).length c6) := by rw [hv]; exact hg
        have LA := (h5.mono hbA).app (Nat.zero_le d) hg' hown
        have KA : Keep (inLog bV d vs) w _ := (Keep.of_below (below2 hb5 hbA)).trans (LogS.keepApp (bV := bV) (Nat.zero_le d) hg') fun i hi => .inl hi
        have IA := LogS.inApp (bV := bV) (Nat.zero_le d) hg'
        have e6 : (l ++ [x]).length = l.length + 1 := by simp
        rw [e6] at LA KA IA
        have hzA := Nat.le_trans hbase KA.size
        have hsz := (below2 hb5 hbA).size
        replace IA : ∀ i, inLog bV d _ i → inLog bV d vs i ∨ w.heap.size ≤ i := fun i hi => (IA i hi).imp id (Nat.le_trans hsz)
        have c0a := LA.c0
        clear hg hg' hown hbA h5 ho hfr hcv6 hc16 cva c1a c1 cv e6 hsz
        generalize v6w.setCell ⟨bV, 0, none⟩ (.slice a6 (l.length + 1) c6) = W at *
        go_wp2_with fail
        refine (cU W _ _ LA (upd_same _ _ _) (fun k hk1 _ => by rw [upd_other _ _ (by omega)]; exact nearly_app k l x) hzA).mono ?_
        rintro e w7 ⟨v7, rfl, R7⟩
        clear cU LA
        go_wp2
        go_ret
        exact ⟨rfl, R7.trans IA KA⟩
  · have e1 : tappE d l x = 1 := by unfold tappE; rw [if_neg hxb]
    have e2 : tappL d l x = l := by unfold tappL; rw [if_neg hxb]
    have hx' : 18446744069414584321 ≤ x := by omega
    rw [e1, e2]
    clear e1 e2 hbig hxb
    go_enter Try.func45, Try.ntmps45
    go_wp2
    go_ret
    exact ⟨rfl, _, h, fun _ hi => .inl hi, Keep.refl _ _⟩

end Go.Proofs.Ythkdaoomnfgooaa

/- A tree of leaves: Truncate. -/
namespace Go.Proofs.Ythkdaoomnfgooaa
open Go.RowKit

theorem Own.cut {w : World} {base : Nat} {E : TypeId} {k : IntKind} {a : Option Addr} {c : Nat} {xs : List Int} (h : Own w base E k (.slice a xs.length c) xs) {n : Nat} (hn : n ≤ xs.length) : Own w base E k (.slice a n c) (xs.take n) := by
  rcases h.form with ⟨h0, h1⟩ | ⟨g, cap, cur, h0, h1, h2, h3, h4, h5, h6⟩
  · injection h0 with e1 e2 e3
    subst e1 e3 h1
    obtain rfl : n = 0 := by simpa using hn
    exact Own.nil _ _ _ _
  · injection h0 with e1 e2 e3
    subst e1 e3
    have hl : (xs.take n).length = n := by rw [List.length_take]; omega
    have := Own.of_blk (w := w) (k := k) (xs := xs.take n) h1 h2 (by omega) h4 h5 (by
      have h7 : (cur.toList.take xs.length).take n = (xs.map (Value.int k)).take n := by rw [h6]
      rw [List.take_take, Nat.min_eq_left hn] at h7
      rw [hl, List.map_take]; exact h7)
    rw [hl] at this
    exact this

def tcutE (l : List Int) (p : Int) : Int := if 0 ≤ p ∧ p ≤ l.length then 0 else 8
def tcutL (l : List Int) (p : Int) : List Int := if 0 ≤ p ∧ p ≤ l.length then l.take p.toNat else l

/-- The levels up to j are cut. -/
def cutL (l : List Int) (n j : Nat) : Nat → List Int := fun k => if k < j then (lev k l).take (sz k n) else lev k l
theorem cutL_zero (l : List Int) (n k : Nat) : cutL l n 0 k = lev k l := by unfold cutL; rw [if_neg (by omega)]
theorem cutL_at (l : List Int) (n j : Nat) : cutL l n j j = lev j l := by unfold cutL; rw [if_neg (by omega)]
theorem cutL_next (l : List Int) (n j k : Nat) : upd (cutL l n j) j ((lev j l).take (sz j n)) k = cutL l n (j + 1) k := by
  unfold upd cutL
  by_cases e : k = j
  · rw [if_pos e, if_pos (by omega), e]
  · rw [if_neg e]
    by_cases h : k < j
    · rw [if_pos h, if_pos (by omega)]
    · rw [if_neg h, if_neg (by omega)]

set_option maxRecDepth 10000 in
set_option maxHeartbeats 4000000 in
theorem TTruncate_any (w : World) (base bL bV d : Nat) (vs : Nat → Value) (l : List Int) (p : Int) (h : LogS w base bL bV d vs fun k => lev k l) (hd : 1 ≤ d) (hd2 : d ≤ 12) (hl : l.length ≤ 4096) (hw : AllW l) (hbase : base ≤ w.heap.size) :
    Calls Try.prog 51 #[.pointer (some ⟨bL, 0, none⟩), .int .i64 p] w fun e w' => e = .returned (.int .i64 (tcutE l p)) ∧ LogR w w' base bL bV d vs fun k => lev k (tcutL l p) := by
  have cC := fun (W : World) (h : LogS W base bL bV d vs fun k => lev k l) => Count_any W base bL bV d vs _ h hd
  simp only [lev_zero] at cC
  by_cases h0 : p < 0
  · have e1 : tcutE l p = 8 := by unfold tcutE; rw [if_neg (by omega)]
    have e2 : tcutL l p = l := by unfold tcutL; rw [if_neg (by omega)]
    rw [e1, e2]
    clear cC e1 e2
    go_enter Try.func51, Try.ntmps51
    go_wp2
    go_ret
    exact ⟨rfl, _, h, fun _ hi => .inl hi, Keep.refl _ _⟩
  by_cases h1 : (l.length : Int) < p
  · have e1 : tcutE l p = 8 := by unfold tcutE; rw [if_neg (by omega)]
    have e2 : tcutL l p = l := by unfold tcutL; rw [if_neg (by omega)]
    have h0' : 0 ≤ p := by omega
    rw [e1, e2]
    clear e1 e2
    go_enter Try.func51, Try.ntmps51
    go_wp2_with fail
    refine (cC w h).mono ?_
    rintro e w2 ⟨rfl, hb⟩
    clear cC
    go_wp2
    go_ret
    exact ⟨rfl, _, h.mono hb, fun _ hi => .inl hi, .of_below hb⟩
  · obtain ⟨n, rfl⟩ := Int.eq_ofNat_of_zero_le (show 0 ≤ p by omega)
    have hn : n ≤ l.length := by omega
    have e1 : tcutE l n = 0 := by unfold tcutE; rw [if_pos (by omega)]
    have e2 : tcutL l n = l.take n := by unfold tcutL; rw [if_pos (by omega), Int.toNat_natCast]
    have hn1 : ¬ l.length < n := by omega
    have hn' : (n : Int) ≤ l.length := by omega
    have hszle := fun k => sz_le hn k
    rw [e1, e2]
    have cU : ∀ (W : World) (vs : Nat → Value) (h : LogS W base bL bV d vs fun k => (lev k l).take (sz k n)) (hbase : base ≤ W.heap.size), Calls Try.prog 64 #[.pointer (some ⟨bL, 0, none⟩)] W fun e w' => ∃ v, e = .returned v ∧ LogR W w' base bL bV d vs fun k => lev k (l.take n) := by
      intro W vs h hbase
      rcases Nat.eq_zero_or_pos n with rfl | hp
      · have : LogS W base bL bV d vs fun k => lev k [] := h.congr fun k _ => by rw [sz_zero, List.take_zero, lev_nil]
        exact update_nil W base bL bV d vs this hd
      · refine update_any W base bL bV d vs _ (l.take n) h hd hd2 (by rw [lev_zero]; rfl) (by rw [List.length_take]; omega) (by rw [List.length_take]; omega) (fun y hy => hw y (List.mem_of_mem_take hy)) (fun k _ _ => nearly_cut k l n hp hn) hbase
    clear e1 e2 h0 h1
    go_enter Try.func51, Try.ntmps51
    go_wp2_with fail
    refine (cC w h).mono ?_
    rintro e w2 ⟨rfl, hb⟩
    have h2 := h.mono hb
    have c1 := h2.c1
    clear cC
    go_wp2_with fail
    clear c1
    have h3 : LogS w2 base bL bV d vs (cutL l n 0) := h2.congr fun k _ => (cutL_zero l n k).symm
    have hs0 : sz 0 n = n := rfl
    go_loopw [5, 21] (fun t5 t21 wr => ∃ (j s : Nat) (vs' : Nat → Value), j ≤ d + 1 ∧ Hid (s = sz j n) ∧ s ≤ 4096 ∧ t21 = .int .i64 j ∧ t5 = .int .i64 s ∧ LogS wr base bL bV d vs' (cutL l n j) ∧ Hid (∀ i, inLog bV d vs' i → inLog bV d vs i) ∧ Keep (inLog bV d vs) w wr) (fun _ t21 _ => d + 1 - (intOf t21).toNat)
    case atStart => exact ⟨0, n, vs, by omega, hide rfl, by omega, rfl, rfl, h3, hide fun _ hi => hi, .of_below hb⟩
    case round =>
      clear h3 h2 hb h
      obtain ⟨j, s, vs', hj, hs, hs4, rfl, rfl, h, e3, e4⟩ := hrel
      by_cases hlt : j < d + 1
      · have hlt' : (j : Int) < (d : Int) + 1 := by omega
        have hj0 : (0 : Int) ≤ (j : Int) := by omega
        have hjd : j ≤ d := by omega
        have c1 := h.c1
        have cv := h.cv hjd
        have ho := h.own j hjd
        rw [cutL_at] at ho
        obtain ⟨a, c, hv, _, hlc, _⟩ := Own.sl ho
        rw [hv] at cv ho
        have hsl : s ≤ (lev j l).length := by rw [lev_len, hs.out]; exact hszle j
        have hsc : s ≤ c := by omega
        have hscI : (s : Int) ≤ c := by omega
        obtain ⟨q, hq⟩ : ∃ q, q = (s + 1) / 2 := ⟨_, rfl⟩
        have hq4 : q ≤ 4096 := by omega
        have hqs : q = sz (j + 1) n := by rw [hq, hs.out]; rfl
        have hdv : ((s : Int) + 1).tdiv 2 = (q : Int) := by rw [Int.tdiv_eq_ediv_of_nonneg (by omega)]; omega
        have oc := ho.cut hsl
        rw [hs.out] at oc
        have hob : (Value.slice a (sz j n) c).ownBlock = (vs' j).ownBlock := by rw [hv]; cases a <;> rfl
        have L2 : ∀ W : World, (LogS W base bL bV d vs' (cutL l n j)) → Own W base 30 .u64 (.slice a (sz j n) c) ((lev j l).take (sz j n)) → LogS (W.setCell ⟨bV, j, none⟩ (.slice a s c)) base bL bV d (upd vs' j (.slice a s c)) (cutL l n (j + 1)) := fun W hW hO => by
          have := hW.store hjd hO (fun i hi hij g eg => by rw [hob]; exact hW.ne i j hi hjd hij g eg)
          rw [← hs.out] at this
          exact this.congr fun k _ => by rw [hs.out]; exact cutL_next l n j k
        replace hq := hide hq
        replace hqs := hide hqs
        have k1 := cell_later' c1
        have k2 := cell_later' cv
        generalize (lev j l).length = m at *
        clear c1 cv
        go_wp2_with fail
        refine Rel.wp_region_later_tail 14 Try.mixed (by kernel_rfl) ?_
        simp only [List.take_succ_cons, List.take_zero, List.drop_succ_cons, List.drop_zero]
        repeat (first | go_big_quiet_step (first | fail) | quiet_step (first | fail))
        refine wpQuiet_nil ?_
        intro w3 hb3
        replace hb3 := below_of_later hb3
        replace h := h.mono hb3
        have HL := L2 w3 h (oc.mono hb3)
        have HK : Keep (inLog bV d vs) w (w3.setCell ⟨bV, j, none⟩ (.slice a s c)) := (e4.trans (T := fun _ => False) (Keep.of_below hb3) fun _ hf => hf.elim).trans (T := fun i => i = bV) (Keep.set (S := fun i => i = bV) rfl _) fun i hi => by subst hi; exact .inl (.inl rfl)
        have HI : ∀ i, inLog bV d (upd vs' j (.slice a s c)) i → inLog bV d vs i := fun i hi => by
          rcases inLog_upd hi with h1 | h1
          · exact e3.out i h1
          · exact e3.out i (.inr ⟨j, hjd, by rw [← hob, ← hs.out]; exact h1⟩)
        replace HI := hide HI
        have cv := h.cv hjd
        rw [hv] at cv
        have hfr := h.kV.free j
        clear k1 k2 L2 oc hob hb3 e3 e4 ho h
        go_wp2
        go_roundw
        case rel => exact ⟨j + 1, q, _, by omega, hide hqs.out, hq4, by go_num, rfl, HL, HI, HK⟩
        case measure => simp [intOf]; omega
      · have e : j = d + 1 := by omega
        have hge : (d : Int) + 1 ≤ j := by omega
        have hzA := Nat.le_trans hbase e4.size
        have LA : LogS wr base bL bV d vs' fun k => (lev k l).take (sz k n) := h.congr fun k hk => by unfold cutL; rw [if_pos (by omega)]
        clear h
        replace e := hide e
        go_wp2_with fail
        refine (cU wr _ LA hzA).mono ?_
        rintro e w7 ⟨v7, rfl, R7⟩
        clear cU LA
        go_wp2
        go_ret
        exact ⟨rfl, R7.trans (fun i hi => .inl (e3.out i hi)) e4⟩

end Go.Proofs.Ythkdaoomnfgooaa
