/- The parser: newParser, end, result; Program of awake23's text. -/
import Derived.Test.YtalmgeefkcebdaaGreatDoorQ20
import Derived.Test.YtalmgeefkcebdaaGreatDoorQ23
import Derived.MapKept
namespace Go.Proofs.YtalmgeefkcebdaaGreatDoor
open Go.RowKit

def RetNP (w : World) (e : Ending) (w' : World) : Prop := ∃ q g, e = .returned (.pointer (some ⟨q, 0, none⟩)) ∧ PZ w w' q g TL 0
set_option maxRecDepth 10000 in
set_option maxHeartbeats 4000000 in
theorem newParser_txt (m : Int) (w : World) (hm : w.cell? ⟨5, 0, none⟩ = some (.int .i64 m)) : Calls Tryz.prog 26 #[.string txt] w (RetNP w) := by
  have cT := Tokens_txt m w hm
  have hl : TL.length = 18 := TL_len
  obtain ⟨s, hs⟩ : ∃ s, s = txt := ⟨_, rfl⟩
  rw [← hs] at cT
  rw [← hs]
  replace hs := hide hs
  replace hl := hide hl
  go_enter Tryz.func26, Tryz.ntmps26
  go_wp2_with fail
  refine cT.mono ?_
  rintro e w1 ⟨v, rfl, ow, hb1⟩
  have ow : OwnG tkL w1 w.heap.size 149 v TL := ow
  rcases ow.form with ⟨_, h2⟩ | ⟨g, cap, cur, rfl, g1, g2, g3, g4, g5, g6⟩
  · rw [h2] at hl
    exact absurd hl.out (by decide)
  · have htk : ∃ cs, Blk w1 g cs 149 ∧ ∀ i j u, i < TL.length → (tkV (TL.getD i default))[j]? = some u → cs[i * 4 + j]? = some u := ⟨cur, g2, fun i j u hi hu => by
      have hj : j < 4 := by
        by_cases h : j < 4
        · exact h
        · have : (tkV (TL.getD i default)).length ≤ j := by show 4 ≤ j; omega
          rw [List.getElem?_eq_none this] at hu
          cases hu
      have e := tkL.flat_get TL default hi (j := j) hj
      have e2 : (TL.flatMap tkL.f)[i * 4 + j]? = some u := e.trans hu
      rw [← g6, List.getElem?_take] at e2
      split at e2
      · simpa using e2
      · cases e2⟩
    have hl18 : TL.length = 18 := hl.out
    rw [hl18]
    rw [hl18] at g3
    have hb2 : Below w1.heap.size w1 (w1.alloc (.cells #[.slice (some ⟨g, 0, none⟩) 18 cap, .int .i64 0, .int .i64 0, .int .i64 0, .int .i64 0, .bool false, .int .i64 0] 147)) := (Below.refl _ _).alloc (Nat.le_refl _) _
    have hP : PZ w (w1.alloc (.cells #[.slice (some ⟨g, 0, none⟩) 18 cap, .int .i64 0, .int .i64 0, .int .i64 0, .int .i64 0, .bool false, .int .i64 0] 147)) w1.heap.size g TL 0 := by
      obtain ⟨cs, t1, t2⟩ := htk
      exact ⟨18, cap, below2 hb1 hb2, hb1.size, by rw [Nat.zero_mul]; exact Blk.new _ _ _, ⟨cs, t1.mono hb2, t2⟩, by rw [hl18], by decide, g3, by simp only [maxLen] at g4; exact g4⟩
    clear htk g2 g5 g6 ow cT hl18
    go_wp2
    exact bodyPost_ret (v := .pointer (some ⟨w1.heap.size, 0, none⟩)) (by simp [results, Tryz.results26, go_sem]) rfl ⟨_, g, rfl, hP⟩
theorem end_any {w0 w : World} {q g k : Nat} {L : List Tk4} (h : PZ w0 w q g L k) (hk : (L.getD k default).k = 0) :
    Calls Tryz.prog 31 #[.pointer (some ⟨q, 0, none⟩)] w (RetUn1 w) := by
  obtain ⟨m, c, h⟩ := h
  obtain ⟨n0, n1, _, _⟩ := h.now
  have k0 := h.blk.cell (j := 0) (v := .slice (some ⟨g, k * 4, none⟩) m c) rfl
  have hm := h.pos
  have hrefl := Below.refl w.heap.size w
  rw [hk] at n0
  generalize L.getD k default = d at *
  clear hk
  go_enter Tryz.func31, Tryz.ntmps31
  go_wp2
  exact bodyPost_ret (v := .tuple #[]) (by simp [results, Tryz.results31, go_sem]) rfl ⟨rfl, hrefl⟩
def RetR0 (w : World) (e : Ending) (w' : World) : Prop := e = .returned (.tuple #[.int .i64 0, .int .i64 0]) ∧ Below w.heap.size w w'
set_option maxRecDepth 10000 in
theorem result_any {w0 w : World} {q g k : Nat} {L : List Tk4} (h : PZ w0 w q g L k) :
    Calls Tryz.prog 32 #[.pointer (some ⟨q, 0, none⟩)] w (RetR0 w) := by
  obtain ⟨m, c, h⟩ := h
  have gb := h.blk
  have k1 := cell_later' (gb.cell (j := 1) (v := .int .i64 0) rfl); have k2 := cell_later' (gb.cell (j := 2) (v := .int .i64 0) rfl); have k3 := cell_later' (gb.cell (j := 3) (v := .int .i64 0) rfl); have k4 := cell_later' (gb.cell (j := 4) (v := .int .i64 0) rfl)
  clear h
  go_enter Tryz.func32, Tryz.ntmps32
  go_wp2_with fail
  refine wp_region_later Tryz.mixed (by kernel_rfl) ?_
  repeat (first | go_big_quiet_step (first | fail) | quiet_step (first | fail))
  refine wpQuiet_nil ?_
  intro w3 hb3
  replace hb3 := below_of_later hb3
  replace gb := gb.mono hb3
  clear k1 k2 k3 k4
  have k3 := gb.cell (j := 3) (v := .int .i64 0) rfl; have k5 := gb.cell (j := 5) (v := .bool false) rfl
  go_wp2
  exact bodyPost_ret (v := .tuple #[.int .i64 0, .int .i64 0]) (by simp [results, Tryz.results32, go_sem]) rfl ⟨rfl, hb3⟩
/-- The declarations of the text. -/
def ds0 : List (Bool × ByteArray) := [(true, nX), (false, nY)]
theorem dcl0 {w0 : World} {q g : Nat} (W : World) (h : PZ w0 W q g TL 0) : Calls Tryz.prog 29 #[.pointer (some ⟨q, 0, none⟩)] W (RetPZ w0 W q g TL 5 (deV true nX)) := by
  have := decl_any h (by decide +kernel) true (by decide +kernel) (by kernel_rfl) (by decide +kernel) (by decide +kernel) (by decide +kernel) (by decide +kernel) (by decide +kernel) (by decide +kernel) (by decide +kernel)
  rw [show (TL.getD (0 + 1) default).t = nX from by kernel_rfl] at this
  exact this
theorem dcl1 {w0 : World} {q g : Nat} (W : World) (h : PZ w0 W q g TL 5) : Calls Tryz.prog 29 #[.pointer (some ⟨q, 0, none⟩)] W (RetPZ w0 W q g TL 10 (deV false nY)) := by
  have := decl_any h (by decide +kernel) false (by decide +kernel) (by kernel_rfl) (by decide +kernel) (by decide +kernel) (by decide +kernel) (by decide +kernel) (by decide +kernel) (by decide +kernel) (by decide +kernel)
  rw [show (TL.getD (5 + 1) default).t = nY from by kernel_rfl] at this
  exact this
theorem nmOkX : NmOk nX := ⟨by decide +kernel, by decide +kernel, by decide +kernel, by decide +kernel, by decide +kernel, by decide +kernel⟩
theorem nmOkY : NmOk nY := ⟨by decide +kernel, by decide +kernel, by decide +kernel, by decide +kernel, by decide +kernel, by decide +kernel⟩
theorem T0_ok : T0.ok := ⟨.inr ⟨.inr rfl, rfl⟩, by decide, ⟨.inr ⟨.inl rfl, rfl⟩, by decide, nmOkY, nmOkY⟩, nmOkX⟩
theorem T0_dep : T0.dep ≤ 40 := by decide
theorem body10 {w0 : World} {q g : Nat} (hO : POps w0) (h2 : 2 < w0.heap.size) (W : World) (h : PZ w0 W q g TL 10) : Calls Tryz.prog 30 #[.pointer (some ⟨q, 0, none⟩), .bool true] W (RetBd w0 W q g TL 17 T0) :=
  body_any h T0 T0_ok T0_dep (by decide +kernel) (by decide +kernel) (by decide +kernel) (by kernel_rfl) fun W2 p2 => stmt_any p2 T0 (by decide +kernel) (by decide +kernel) (by decide +kernel) (by decide +kernel) (fun W3 p3 => expr11 hO h2 W3 p3) (by decide +kernel) (by decide +kernel)

def XDc (T : TypeId) : Prop := T = 34
theorem Tryz.infoDe : (Tryz.prog.info? 34).map (fun i => (i.zero, i.size, i.bytes)) = some (some (.agg #[.bool false, .string ⟨#[]⟩, .int .i64 0, .int .i64 0, .int .i64 0]), 5, 48) := by kernel_rfl
theorem dep_of {w : World} {base : Nat} {v : Value} {d : Bool × ByteArray} {ds : List (Bool × ByteArray)} (h : OwnG deL w base 34 v (d :: ds)) : ∃ b c, v = .slice (some ⟨b, 0, none⟩) (d :: ds).length c ∧ base ≤ b ∧ b < w.heap.size ∧ DeP w b (d :: ds) := by
  rcases h.form with ⟨_, h2⟩ | ⟨g, cap, cur, rfl, h1, h2, h3, h4, h5, h6⟩
  · cases h2
  · have key : ∀ i, i < (d :: ds).length → ∀ j u, (deL.f ((d :: ds).getD i (false, ⟨#[]⟩)))[j]? = some u → j < 5 → w.cell? ⟨g, i * 5 + j, none⟩ = some u := fun i hi j u hu hj => h2.cell (by
      have e := deL.flat_get (d :: ds) (false, ⟨#[]⟩) hi (j := j) hj
      have e2 : ((d :: ds).flatMap deL.f)[i * 5 + j]? = some u := e.trans hu
      rw [← h6, List.getElem?_take] at e2
      split at e2
      · simpa using e2
      · cases e2)
    exact ⟨g, cap, rfl, h1, h2.lt, fun i hi => ⟨key i hi 0 _ rfl (by decide), key i hi 1 _ rfl (by decide), key i hi 2 _ rfl (by decide), key i hi 3 _ rfl (by decide), key i hi 4 _ rfl (by decide)⟩⟩
theorem StP.setN {w : World} {b b0 j : Nat} {u : Value} {ev : Ev} (h : StP w b ev) (hn : b ≠ b0) : StP (w.setCell ⟨b0, j, none⟩ u) b ev := fun i v hv => by
  rw [World.cell?_setCell_far _ _ _ _ (fun e => hn (by simpa using e.symm))]
  exact h i v hv
/-- What the parser of a program holds, behind j declarations. -/
structure PJ (w w0 wr : World) (q g b6 j : Nat) : Prop where
  ps : PZ w0 wr q g TL (j * 5)
  ga : Blk wr w.heap.size #[.slice none 0 0, .slice none 0 0, .slice none 0 0] 41
  own : ∃ (da : Option Addr) (dc : Nat), Blk wr b6 #[.slice none 0 0, .slice da j dc, .slice none 0 0] 41 ∧ OwnG deL wr w0.heap.size 34 (.slice da j dc) (ds0.take j)
  below : Below w.heap.size w wr
  lo : w.heap.size ≤ w0.heap.size
theorem PJ.mono {w w0 wr w' : World} {q g b6 j : Nat} (h : PJ w w0 wr q g b6 j) (hb : Below wr.heap.size wr w') : PJ w w0 w' q g b6 j :=
  ⟨h.ps.mono hb, h.ga.mono hb, by obtain ⟨da, dc, h1, h2⟩ := h.own; exact ⟨da, dc, h1.mono hb, h2.mono hb⟩, below2 h.below hb, h.lo⟩
theorem xpPg : ¬ XPr 41 := by unfold XPr; decide
/-- The program that is read: its parts, in memory. -/
def RetProg (w : World) (e : Ending) (w' : World) : Prop := ∃ bd cd bb bc ev, e = .returned (.tuple #[.agg #[.slice none 0 0, .slice (some ⟨bd, 0, none⟩) 2 cd, .slice (some ⟨bb, 0, none⟩) 1 bc], .int .i64 0, .int .i64 0]) ∧ DeP w' bd ds0 ∧ StP w' bb ev ∧ Rep w' (fun _ => True) T0 ev ∧ Below w.heap.size w w'
/-- How many tokens are left. -/
def msr (q : Nat) (w : World) : Nat := match w.cell? ⟨q, 0, none⟩ with | some (.slice _ n _) => n | _ => 0
theorem msr_of {w0 w : World} {q g k : Nat} (h : PZ w0 w q g TL k) : msr q w = 18 - k := by
  obtain ⟨m, c, h⟩ := h
  have := h.len
  rw [TL_len] at this
  unfold msr
  rw [h.blk.cell (j := 0) (v := .slice (some ⟨g, k * 4, none⟩) m c) rfl]
  show m = 18 - k
  omega
set_option maxRecDepth 10000 in
set_option maxHeartbeats 16000000 in
theorem Program_txt (m : Int) (w : World) (hm : w.cell? ⟨5, 0, none⟩ = some (.int .i64 m)) (hO : POps w) (h2 : 5 < w.heap.size) : Calls Tryz.prog 10 #[.string txt] w (RetProg w) := by
  have cN := fun W h => newParser_txt m W h
  obtain ⟨s, hs⟩ : ∃ s, s = txt := ⟨_, rfl⟩
  rw [← hs] at cN
  rw [← hs]
  replace hs := hide hs
  go_enter Tryz.func10, Tryz.ntmps10
  go_wp2_with fail
  refine name_calls fun W hN => ?_
  have hbW : Below w.heap.size w W := by rw [hN]; exact (Below.refl _ _).alloc (Nat.le_refl _) _
  have gA : Blk W w.heap.size #[.slice none 0 0, .slice none 0 0, .slice none 0 0] 41 := by rw [hN]; exact Blk.newAt rfl
  clear hN
  have hOW : POps W := by
    have hw : ∀ (a : Addr) v, a.block = 2 → w.cell? a = some v → W.cell? a = some v := fun a v _ hv => cell_below hbW hv
    exact ⟨hO.l0.mono hw, hO.l1.mono hw, hO.l2.mono hw, hO.l3.mono hw, hO.l4.mono hw⟩
  have hWz := hbW.size
  refine (cN W (cell_below hbW hm)).mono ?_
  rintro e w1 ⟨q, g, rfl, p1⟩
  have hb1 : Below W.heap.size W w1 := by obtain ⟨m, c, h⟩ := p1; exact h.below
  replace gA := gA.mono hb1
  have hB1 := below2 hbW hb1
  clear cN
  have J0 : PJ w W (w1.alloc (.cells #[.slice none 0 0, .slice none 0 0, .slice none 0 0] 41)) q g w1.heap.size 0 := by
    have hb2 : Below w1.heap.size w1 (w1.alloc (.cells #[.slice none 0 0, .slice none 0 0, .slice none 0 0] 41)) := (Below.refl _ _).alloc (Nat.le_refl _) _
    exact ⟨p1.mono hb2, gA.mono hb2, ⟨none, 0, Blk.new _ _ _, OwnG.nil _ _ _ _⟩, below2 hB1 hb2, hWz⟩
  have h6 : W.heap.size < w1.heap.size := by
    obtain ⟨m, c, h⟩ := p1
    have := h.blk.lt
    have := h.lo
    omega
  have hne := p1.lts
  clear gA p1 hb1 hB1 hbW hm hO
  go_wp2_with fail
  have hne6 : w1.heap.size ≠ q ∧ w1.heap.size ≠ g := ⟨by omega, by omega⟩
  go_loopw [] (fun wr => PJ w W wr q g w1.heap.size 0) (fun _ => 0)
  case atStart => exact J0
  case round =>
    clear J0
    have J := hrel
    clear hrel
    go_wp2_with fail
    refine (at_any J.ps ⟨#[102, 110]⟩ (by decide +kernel) false (by decide +kernel)).mono ?_
    rintro e w2 ⟨rfl, hb2⟩
    replace J := J.mono hb2
    clear hb2
    go_wp2_with fail
    go_loopw [] (fun wr => ∃ j : Nat, j ≤ 2 ∧ PJ w W wr q g w1.heap.size j) (fun wr => msr q wr)
    case atStart => exact ⟨0, by omega, J⟩
    case round =>
      clear J
      obtain ⟨j, hj, J⟩ := hrel
      have hws := msr_of J.ps
      rcases (show j = 0 ∨ j = 1 ∨ j = 2 by omega) with rfl | rfl | rfl
      · go_wp2_with fail
        refine (at_any J.ps ⟨#[112, 117, 98, 108, 105, 99]⟩ (by decide +kernel) true (by decide +kernel)).mono ?_
        rintro e w2 ⟨rfl, hb2⟩
        replace J := J.mono hb2
        clear hb2
        go_wp2_with fail
        refine Rel.region_any Tryz.mixed fun w4 hb4 => ?_
        replace J := J.mono hb4
        clear hb4
        obtain ⟨ps, ga, ⟨da, dc, gb, ow⟩, hbel, hlo⟩ := J
        refine Rel.any_held (fun W => W.cell? ⟨w1.heap.size, 1, none⟩ = some (.slice da 0 dc)) 7 (gb.cell (j := 1) rfl) fun hH0 => ?_
        refine Rel.tk (v := ?_) 0 ?_ ?_
        rotate_left
        · (intro W hSw; (try dsimp only at hSw); go_simp; try with_reducible rfl)
        try simp only [Act.put, List.setIfInBounds_toArray, List.set_cons_zero, List.set_cons_succ]
        refine Rel.tk (v := ?_) 1 ?_ ?_
        rotate_left
        · (intro W hSw; (try dsimp only at hSw); go_simp; try with_reducible rfl)
        try simp only [Act.put, List.setIfInBounds_toArray, List.set_cons_zero, List.set_cons_succ]
        refine Rel.tk (v := ?_) 2 ?_ ?_
        rotate_left
        · (intro W hSw; (try dsimp only at hSw); go_simp; try with_reducible rfl)
        try simp only [Act.put, List.setIfInBounds_toArray, List.set_cons_zero, List.set_cons_succ]
        refine Rel.heldNext 3 rfl (by kernel_rfl) fun K hK => ?_
        go_simp
        refine (dcl0 w4 ps).mono ?_
        rintro e w5 ⟨rfl, p5, k5⟩
        replace ga := k5.typ _ _ _ ga xpPg
        replace gb := k5.typ _ _ _ gb xpPg
        replace ow := k5.own xpDe ow
        have hB5 : Below w.heap.size w w5 := hbel.trans (k5.below.mono hlo)
        unfold deV
        clear k5 hbel ps
        refine hK.out _ _ (gb.cell (j := 1) rfl) (fun hH1 => ?_)
        clear hK K
        try simp only [Act.put, List.setIfInBounds_toArray, List.set_cons_zero, List.set_cons_succ]
        refine Rel.heldNext 4 rfl (by kernel_rfl) fun K hK => ?_
        go_simp
        have bA := (Below.refl w5.heap.size w5).alloc (Nat.le_refl _) (.cells #[.bool true, .string nX, .int .i64 1, .int .i64 0, .int .i64 0] 34)
        replace ga := ga.mono bA
        replace gb := gb.mono bA
        replace ow := ow.mono bA
        replace p5 := p5.mono bA
        replace hB5 := below2 hB5 bA
        clear bA
        refine hK.out _ _ (gb.cell (j := 1) rfl) (fun hH2 => ?_)
        clear hK K
        try simp only [Act.put, List.setIfInBounds_toArray, List.set_cons_zero, List.set_cons_succ]
        refine Rel.heldNext 5 rfl (by kernel_rfl) fun K hK => ?_
        refine step_appX deL (ds0.take 0) [(true, nX)] rfl _ _ 35 rfl W.heap.size 34 (.agg #[.bool false, .string ⟨#[]⟩, .int .i64 0, .int .i64 0, .int .i64 0]) 48 Tryz.underlying35 Tryz.infoDe rfl (by decide) _ 1 1 (some ⟨w5.heap.size, 0, none⟩) rfl rfl rfl ow (SlG.one (Blk.new _ _ _) rfl) (by decide) p5.size ?_
        intro v' wD own' hg'
        have kA : KX XDc W.heap.size _ wD := KX.grew ow hg' rfl p5.size
        replace ga := kA.typ _ _ _ ga (by unfold XDc; decide)
        replace gb := kA.typ _ _ _ gb (by unfold XDc; decide)
        have p6 := p5.kx kA (by unfold XDc; decide) (by unfold XDc; decide)
        have hB6 := hB5.trans (kA.below.mono hlo)
        have own6 : OwnG deL wD W.heap.size 34 v' (ds0.take 1) := own'
        obtain ⟨va, vc, ve, _⟩ := own6.sl
        rw [show (ds0.take 1).length = 1 from rfl] at ve
        subst ve
        clear own' hg' ow kA p5 hB5
        have f1 := gb.free 1
        refine hK.out _ _ (gb.cell (j := 1) rfl) (fun hH3 => ?_)
        clear hK K
        try simp only [Act.put, List.setIfInBounds_toArray, List.set_cons_zero, List.set_cons_succ]
        refine Rel.tk (v := ?_) 6 ?_ ?_
        rotate_left
        · (intro W hSw; (try dsimp only at hSw); go_simp; try with_reducible rfl)
        try simp only [Act.put, List.setIfInBounds_toArray, List.set_cons_zero, List.set_cons_succ]
        refine Rel.heldLast 7 rfl (by kernel_rfl) rfl (by kernel_rfl) fun K hK => ?_
        go_simp
        refine hK.out _ _ ?_
        clear hK K hH0 hH1 hH2 hH3
        have hlt6 := gb.lt
        have hw1z : W.heap.size ≤ w1.heap.size := Nat.le_of_lt h6
        have hqg := p6.lts
        have hq6 : w1.heap.size ≠ q ∧ w1.heap.size ≠ g := hne6
        have J2 : PJ w W (wD.setCell ⟨w1.heap.size, 1, none⟩ (.slice va 1 vc)) q g w1.heap.size 1 := ⟨p6.setN hw1z hq6.1 hq6.2, ga.other (by omega) _ _, ⟨va, vc, gb.set 1 (.slice va 1 vc), own6.other (own6.neq gb (by decide)) _⟩, hB6.setCell (show w.heap.size ≤ w1.heap.size by omega) _, hlo⟩
        clear p6 ga gb own6 hB6 f1
        go_wp2
        go_roundw
        case rel => exact ⟨1, by omega, J2⟩
        case measure => rw [msr_of J2.ps, hws]; decide
      · go_wp2_with fail
        refine (at_any J.ps ⟨#[112, 117, 98, 108, 105, 99]⟩ (by decide +kernel) false (by decide +kernel)).mono ?_
        rintro e w2 ⟨rfl, hb2⟩
        replace J := J.mono hb2
        clear hb2
        go_wp2_with fail
        refine (at_any J.ps ⟨#[115, 101, 99, 114, 101, 116]⟩ (by decide +kernel) true (by decide +kernel)).mono ?_
        rintro e w2' ⟨rfl, hb2⟩
        replace J := J.mono hb2
        clear hb2
        go_wp2_with fail
        refine Rel.region_any Tryz.mixed fun w4 hb4 => ?_
        replace J := J.mono hb4
        clear hb4
        obtain ⟨ps, ga, ⟨da, dc, gb, ow⟩, hbel, hlo⟩ := J
        refine Rel.any_held (fun W => W.cell? ⟨w1.heap.size, 1, none⟩ = some (.slice da 1 dc)) 7 (gb.cell (j := 1) rfl) fun hH0 => ?_
        refine Rel.tk (v := ?_) 0 ?_ ?_
        rotate_left
        · (intro W hSw; (try dsimp only at hSw); go_simp; try with_reducible rfl)
        try simp only [Act.put, List.setIfInBounds_toArray, List.set_cons_zero, List.set_cons_succ]
        refine Rel.tk (v := ?_) 1 ?_ ?_
        rotate_left
        · (intro W hSw; (try dsimp only at hSw); go_simp; try with_reducible rfl)
        try simp only [Act.put, List.setIfInBounds_toArray, List.set_cons_zero, List.set_cons_succ]
        refine Rel.tk (v := ?_) 2 ?_ ?_
        rotate_left
        · (intro W hSw; (try dsimp only at hSw); go_simp; try with_reducible rfl)
        try simp only [Act.put, List.setIfInBounds_toArray, List.set_cons_zero, List.set_cons_succ]
        refine Rel.heldNext 3 rfl (by kernel_rfl) fun K hK => ?_
        go_simp
        refine (dcl1 w4 ps).mono ?_
        rintro e w5 ⟨rfl, p5, k5⟩
        replace ga := k5.typ _ _ _ ga xpPg
        replace gb := k5.typ _ _ _ gb xpPg
        replace ow := k5.own xpDe ow
        have hB5 : Below w.heap.size w w5 := hbel.trans (k5.below.mono hlo)
        unfold deV
        clear k5 hbel ps
        refine hK.out _ _ (gb.cell (j := 1) rfl) (fun hH1 => ?_)
        clear hK K
        try simp only [Act.put, List.setIfInBounds_toArray, List.set_cons_zero, List.set_cons_succ]
        refine Rel.heldNext 4 rfl (by kernel_rfl) fun K hK => ?_
        go_simp
        have bA := (Below.refl w5.heap.size w5).alloc (Nat.le_refl _) (.cells #[.bool false, .string nY, .int .i64 1, .int .i64 0, .int .i64 0] 34)
        replace ga := ga.mono bA
        replace gb := gb.mono bA
        replace ow := ow.mono bA
        replace p5 := p5.mono bA
        replace hB5 := below2 hB5 bA
        clear bA
        refine hK.out _ _ (gb.cell (j := 1) rfl) (fun hH2 => ?_)
        clear hK K
        try simp only [Act.put, List.setIfInBounds_toArray, List.set_cons_zero, List.set_cons_succ]
        refine Rel.heldNext 5 rfl (by kernel_rfl) fun K hK => ?_
        refine step_appX deL (ds0.take 1) [(false, nY)] rfl _ _ 35 rfl W.heap.size 34 (.agg #[.bool false, .string ⟨#[]⟩, .int .i64 0, .int .i64 0, .int .i64 0]) 48 Tryz.underlying35 Tryz.infoDe rfl (by decide) _ 1 1 (some ⟨w5.heap.size, 0, none⟩) rfl rfl rfl ow (SlG.one (Blk.new _ _ _) rfl) (by decide) p5.size ?_
        intro v' wD own' hg'
        have kA : KX XDc W.heap.size _ wD := KX.grew ow hg' rfl p5.size
        replace ga := kA.typ _ _ _ ga (by unfold XDc; decide)
        replace gb := kA.typ _ _ _ gb (by unfold XDc; decide)
        have p6 := p5.kx kA (by unfold XDc; decide) (by unfold XDc; decide)
        have hB6 := hB5.trans (kA.below.mono hlo)
        have own6 : OwnG deL wD W.heap.size 34 v' (ds0.take 2) := own'
        obtain ⟨va, vc, ve, _⟩ := own6.sl
        rw [show (ds0.take 2).length = 2 from rfl] at ve
        subst ve
        clear own' hg' ow kA p5 hB5
        have f1 := gb.free 1
        refine hK.out _ _ (gb.cell (j := 1) rfl) (fun hH3 => ?_)
        clear hK K
        try simp only [Act.put, List.setIfInBounds_toArray, List.set_cons_zero, List.set_cons_succ]
        refine Rel.tk (v := ?_) 6 ?_ ?_
        rotate_left
        · (intro W hSw; (try dsimp only at hSw); go_simp; try with_reducible rfl)
        try simp only [Act.put, List.setIfInBounds_toArray, List.set_cons_zero, List.set_cons_succ]
        refine Rel.heldLast 7 rfl (by kernel_rfl) rfl (by kernel_rfl) fun K hK => ?_
        go_simp
        refine hK.out _ _ ?_
        clear hK K hH0 hH1 hH2 hH3
        have hlt6 := gb.lt
        have hw1z : W.heap.size ≤ w1.heap.size := Nat.le_of_lt h6
        have hqg := p6.lts
        have hq6 : w1.heap.size ≠ q ∧ w1.heap.size ≠ g := hne6
        have J2 : PJ w W (wD.setCell ⟨w1.heap.size, 1, none⟩ (.slice va 2 vc)) q g w1.heap.size 2 := ⟨p6.setN hw1z hq6.1 hq6.2, ga.other (by omega) _ _, ⟨va, vc, gb.set 1 (.slice va 2 vc), own6.other (own6.neq gb (by decide)) _⟩, hB6.setCell (show w.heap.size ≤ w1.heap.size by omega) _, hlo⟩
        clear p6 ga gb own6 hB6 f1
        go_wp2
        go_roundw
        case rel => exact ⟨2, by omega, J2⟩
        case measure => rw [msr_of J2.ps, hws]; decide
      · go_wp2_with fail
        refine (at_any J.ps ⟨#[112, 117, 98, 108, 105, 99]⟩ (by decide +kernel) false (by decide +kernel)).mono ?_
        rintro e w2 ⟨rfl, hb2⟩
        replace J := J.mono hb2
        clear hb2
        go_wp2_with fail
        refine (at_any J.ps ⟨#[115, 101, 99, 114, 101, 116]⟩ (by decide +kernel) false (by decide +kernel)).mono ?_
        rintro e w3 ⟨rfl, hb3⟩
        replace J := J.mono hb3
        clear hb3 hws
        have hw13 : w1.heap.size < w3.heap.size := by
          obtain ⟨da, dc, gb, _⟩ := J.own
          exact gb.lt
        go_wp2_with fail
        refine (body10 hOW (by omega) w3 J.ps).mono ?_
        rintro e w4 ⟨bb, bc, ev, rfl, hbb, sS, hR, p4, k4⟩
        obtain ⟨_, ga, ⟨da, dc, gb, ow⟩, hbel, hlo⟩ := J
        have hw0 := ga.lt
        replace ga := k4.typ _ _ _ ga xpPg
        replace gb := k4.typ _ _ _ gb xpPg
        replace ow := k4.own xpDe ow
        have hB4 : Below w.heap.size w w4 := hbel.trans (k4.below.mono hlo)
        have b2 := gb.cell (j := 2) (v := .slice none 0 0) rfl
        have bf := gb.free
        have n1 : ¬ (fun b => w3.heap.size ≤ b) w1.heap.size := by show ¬ w3.heap.size ≤ w1.heap.size; omega
        have n0 : ¬ (fun b => w3.heap.size ≤ b) w.heap.size := by show ¬ w3.heap.size ≤ w.heap.size; omega
        have ga5 := ga.other (b := w.heap.size) (c := w1.heap.size) (by omega) 2 (.slice (some ⟨bb, 0, none⟩) 1 bc)
        have ow5 := ow.other (j := 2) (ow.neq gb (by decide)) (.slice (some ⟨bb, 0, none⟩) 1 bc)
        have gb5 := gb.set 2 (.slice (some ⟨bb, 0, none⟩) 1 bc)
        have p5 := p4.setN (b := w1.heap.size) (j := 2) (u := .slice (some ⟨bb, 0, none⟩) 1 bc) (by omega) hne6.1 hne6.2
        have sS5 := sS.setN (b0 := w1.heap.size) (j := 2) (u := .slice (some ⟨bb, 0, none⟩) 1 bc) (by omega)
        have hR5 := hR.setN (b0 := w1.heap.size) (j := 2) (u := .slice (some ⟨bb, 0, none⟩) 1 bc) n1
        have hB5 := hB4.setCell (show w.heap.size ≤ (⟨w1.heap.size, 2, none⟩ : Addr).block by show w.heap.size ≤ w1.heap.size; omega) (.slice (some ⟨bb, 0, none⟩) 1 bc)
        clear k4 hbel
        go_wp2_with fail
        clear ga gb ow p4 sS hR hB4 b2 bf
        refine (end_any p5 (by kernel_rfl)).mono ?_
        rintro e w6 ⟨rfl, hb6⟩
        replace p5 := p5.mono hb6
        go_wp2_with fail
        refine (result_any p5).mono ?_
        rintro e w7 ⟨rfl, hb7⟩
        have hb67 := below2 hb6 hb7
        have ga7 := ga5.mono hb67
        have gb7 := gb5.mono hb67
        have ow7 := ow5.mono hb67
        have sS7 := sS5.mono hb67
        have hR7 := hR5.mono hb67
        have hB7 := below2 hB5 hb67
        clear ga5 gb5 ow5 sS5 hR5 hB5 hb6 hb7 hb67 p5
        have y0 := gb7.cell (j := 0) (v := .slice none 0 0) rfl; have y1 := gb7.cell (j := 1) (v := .slice da 2 dc) rfl; have y2 := gb7.cell (j := 2) (v := .slice (some ⟨bb, 0, none⟩) 1 bc) rfl
        have a0 := ga7.cell (j := 0) (v := .slice none 0 0) rfl; have a1 := ga7.cell (j := 1) (v := .slice none 0 0) rfl; have a2 := ga7.cell (j := 2) (v := .slice none 0 0) rfl
        have af := ga7.free
        obtain ⟨W9, hW9⟩ : ∃ W9, W9 = ((w7.setCell ⟨w.heap.size, 0, none⟩ (.slice none 0 0)).setCell ⟨w.heap.size, 1, none⟩ (.slice da 2 dc)).setCell ⟨w.heap.size, 2, none⟩ (.slice (some ⟨bb, 0, none⟩) 1 bc) := ⟨_, rfl⟩
        have gF : Blk W9 w.heap.size #[.slice none 0 0, .slice da 2 dc, .slice (some ⟨bb, 0, none⟩) 1 bc] 41 := by rw [hW9]; exact ((ga7.set 0 _).set 1 _).set 2 _
        have owF : OwnG deL W9 W.heap.size 34 (.slice da 2 dc) (ds0.take 2) := by
          rw [hW9]
          have q1 := ow7.other (j := 0) (ow7.neq ga7 (by decide)) (.slice none 0 0)
          have q2 := q1.other (j := 1) (ow7.neq ga7 (by decide)) (.slice da 2 dc)
          exact q2.other (j := 2) (ow7.neq ga7 (by decide)) _
        have sSF : StP W9 bb ev := by rw [hW9]; exact ((sS7.setN (by omega)).setN (by omega)).setN (by omega)
        have hRF : Rep W9 (fun _ => True) T0 ev := by rw [hW9]; exact (((hR7.setN n0).setN n0).setN n0).imp (fun _ _ _ => trivial)
        have hBF : Below w.heap.size w W9 := by
          rw [hW9]
          refine Below.setCell ?_ (Nat.le_refl w.heap.size) _
          refine Below.setCell ?_ (Nat.le_refl w.heap.size) _
          exact Below.setCell hB7 (Nat.le_refl w.heap.size) _
        clear ga7 gb7 ow7 sS7 hR7 hB7
        go_wp2
        rw [← hW9]
        clear y0 y1 y2 a0 a1 a2 af hW9
        obtain ⟨bd, cd, ve, hbd, hbd2, dD⟩ := dep_of owF
        cases ve
        have z0 := gF.cell (j := 0) (v := .slice none 0 0) rfl; have z1 := gF.cell (j := 1) (v := .slice (some ⟨bd, 0, none⟩) 2 dc) rfl; have z2 := gF.cell (j := 2) (v := .slice (some ⟨bb, 0, none⟩) 1 bc) rfl
        exact bodyPost_ret (v := .tuple #[.agg #[.slice none 0 0, .slice (some ⟨bd, 0, none⟩) 2 dc, .slice (some ⟨bb, 0, none⟩) 1 bc], .int .i64 0, .int .i64 0]) (by simp [results, Tryz.results10, go_sem, z0, z1, z2]) rfl ⟨bd, dc, bb, bc, ev, rfl, dD, sSF, hRF, hBF⟩

/-- The map in block b holds the list. -/
def Mp (w : World) (b : Nat) (L : List (ByteArray × Value)) : Prop := ∃ es clock, w.heap[b]? = some (.map es clock) ∧ es.toList.map (fun e => (e.key, e.val)) = L.map (fun p => (Value.string p.1, p.2))
def getM : List (ByteArray × Value) → ByteArray → Option Value
  | [], _ => none
  | p :: r, s => match s == p.1 with
    | true => some p.2
    | false => getM r s
theorem find_now : ∀ (L : List (ByteArray × Value)) (l : List MapEntry) (i : Nat) (s : ByteArray), l.map (fun e => (e.key, e.val)) = L.map (fun p => (Value.string p.1, p.2)) →
    (getM L s = none → Instr.findNow .string (.string s) l i = some none) ∧ ∀ v, getM L s = some v → ∃ j, Instr.findNow .string (.string s) l i = some (some (j, v))
  | [], [], i, s, _ => ⟨fun _ => rfl, fun v h => by cases h⟩
  | [], _ :: _, _, _, h => by cases h
  | _ :: _, [], _, _, h => by cases h
  | p :: r, e :: l, i, s, h => by
    rw [List.map_cons, List.map_cons] at h
    obtain ⟨h1, h2⟩ := List.cons.inj h
    obtain ⟨h3, h4⟩ := Prod.mk.inj h1
    have ih := find_now r l (i + 1) s h2
    have e1 : Instr.sameNow .string (.string s) e.key = some (s == p.1) := by rw [h3]; rfl
    cases hb : (s == p.1) with
    | true =>
      rw [hb] at e1
      have e2 : getM (p :: r) s = some p.2 := by unfold getM; rw [hb]
      have e3 : Instr.findNow .string (.string s) (e :: l) i = some (some (i, p.2)) := by
        unfold Instr.findNow
        rw [e1, h4]
      exact ⟨fun h => (by rw [e2] at h; cases h), fun v h => (by rw [e2] at h; cases h; exact ⟨i, e3⟩)⟩
    | false =>
      rw [hb] at e1
      have e2 : getM (p :: r) s = getM r s := by
        show (match s == p.1 with | true => some p.2 | false => getM r s) = getM r s
        rw [hb]
      have e3 : Instr.findNow .string (.string s) (e :: l) i = Instr.findNow .string (.string s) l (i + 1) := by
        show (match Instr.sameNow .string (.string s) e.key with | some true => some (some (i, e.val)) | some false => Instr.findNow .string (.string s) l (i + 1) | none => none) = _
        rw [e1]
      rw [e2, e3]
      exact ih
section
variable {P : Program} {w w' : World} {t k e : TypeId} {b : Nat} {L : List (ByteArray × Value)} {s : ByteArray}
theorem Mp.mono (h : Mp w b L) (hb : Below w.heap.size w w') : Mp w' b L := by
  obtain ⟨es, c, h1, h2⟩ := h
  exact ⟨es, c, map_below h1 hb, h2⟩
theorem Mp.lt (h : Mp w b L) : b < w.heap.size := by
  obtain ⟨es, c, h1, h2⟩ := h
  exact (Array.getElem?_eq_some_iff.1 h1).1
theorem Mp.setC {c j : Nat} {u : Value} (h : Mp w b L) (hn : b ≠ c) : Mp (w.setCell ⟨c, j, none⟩ u) b L := by
  obtain ⟨es, c, h1, h2⟩ := h
  exact ⟨es, c, map_setCell h1 hn u, h2⟩
theorem Mp.set {c j : Nat} {u : Value} {cs : Array Value} {T : TypeId} (h : Mp w b L) (g : Blk w c cs T) : Mp (w.setCell ⟨c, j, none⟩ u) b L := by
  obtain ⟨es, c, h1, h2⟩ := h
  exact ⟨es, c, map_setCell h1 (map_ne h1 g) u, h2⟩
theorem Mp.grew {α : Type} {Y : Lay α} {base : Nat} {T : TypeId} {v v' : Value} {xs : List α} (h : Mp w b L) (ho : OwnG Y w base T v xs) (hg : Grew w w' v v') : Mp w' b L := by
  obtain ⟨es, c, h1, h2⟩ := h
  exact ⟨es, c, map_grew h1 ho hg, h2⟩
theorem Mp.made (w : World) : Mp (w.alloc (.map #[] 0)) w.heap.size [] := ⟨#[], 0, (MapKept.heap_alloc w _).1, rfl⟩
/-- The map in block b is written; nothing else. -/
structure PutM (w w' : World) (b : Nat) : Prop where
  os : w'.os = w.os
  tape : w'.tape = w.tape
  output : w'.output = w.output
  size : w'.heap.size = w.heap.size
  far : ∀ i, i ≠ b → w'.heap[i]? = w.heap[i]?
  map : ∃ es c, w.heap[b]? = some (.map es c)
theorem PutM.blk {c : Nat} {cs : Array Value} {T : TypeId} (h : PutM w w' b) (g : Blk w c cs T) : Blk w' c cs T := by
  obtain ⟨es, c', hm⟩ := h.map
  have := map_ne hm g
  unfold Blk at *
  rw [h.far c (Ne.symm this)]; exact g
theorem PutM.below {n : Nat} {a : World} (h : PutM w w' b) (hB : Below n a w) (hn : n ≤ b) : Below n a w' :=
  ⟨h.os.trans hB.os, h.tape.trans hB.tape, h.output.trans hB.output, by rw [h.size]; exact hB.size, fun k hk => by rw [h.far k (by omega)]; exact hB.block k hk⟩
theorem PutM.own {α : Type} {Y : Lay α} {base : Nat} {T : TypeId} {v : Value} {xs : List α} (h : PutM w w' b) (ho : OwnG Y w base T v xs) : OwnG Y w' base T v xs := by
  rcases ho.form with ⟨rfl, rfl⟩ | ⟨g, cap, cur, rfl, g1, g2, g3, g4, g5, g6⟩
  · exact OwnG.nil _ _ _ _
  · exact OwnG.of_blk g1 (h.blk g2) g3 g4 g5 g6
theorem PutM.kx {X : TypeId → Prop} {base : Nat} (h : PutM w w' b) (hb : base ≤ b) : KX X base w w' := ⟨h.below (Below.refl _ _) hb, fun _ _ _ g _ => h.blk g⟩
theorem run_find (hk : P.underlying k = some .string) {es : Array MapEntry} {r : Option (Nat × Value)} (h : Instr.findNow .string (.string s) es.toList 0 = some r) (w : World) : (Instr.findKey k (.string s) es.toList).run P w = .ok r w := by
  simp [Instr.findKey, run_underlying hk, h, Result.andThen]
theorem run_look (ht : P.underlying t = some (.map k e)) (hk : P.underlying k = some .string) (h : Mp w b L) (c : Bool) {v : Value} (hv : getM L s = some v) :
    (Instr.lookup t (.map (some b)) (.string s) c).run P w = .ok (if c then .tuple #[v, .bool true] else v) w := by
  obtain ⟨es, clock, hb, hl⟩ := h
  obtain ⟨j, hf⟩ := (find_now L es.toList 0 s hl).2 v hv
  have hc : (Instr.checkKey es.isEmpty 10000 k (.string s)).run P w = .ok () w := MapKept.run_checkKey (k := .string s) hk (by simp [MapKept.IsKey]) _ 9999
  simp [Instr.lookup, run_underlying ht, MapKept.run_getObj_map hb, hc, run_find hk hf, Result.andThen]
theorem run_look0 (ht : P.underlying t = some (.map k e)) (hk : P.underlying k = some .string) (h : Mp w b L) (c : Bool) {z : Value} (hz : (zeroValue e).run P w = .ok z w) (hv : getM L s = none) :
    (Instr.lookup t (.map (some b)) (.string s) c).run P w = .ok (if c then .tuple #[z, .bool false] else z) w := by
  obtain ⟨es, clock, hb, hl⟩ := h
  have hf := (find_now L es.toList 0 s hl).1 hv
  have hc : (Instr.checkKey es.isEmpty 10000 k (.string s)).run P w = .ok () w := MapKept.run_checkKey (k := .string s) hk (by simp [MapKept.IsKey]) _ 9999
  simp [Instr.lookup, run_underlying ht, MapKept.run_getObj_map hb, hc, run_find hk hf, hz, Result.andThen]
theorem run_put (ht : P.underlying t = some (.map k e)) (hk : P.underlying k = some .string) (h : Mp w b L) (hv : getM L s = none) (v : Value) :
    ∃ w', (Instr.mapUpdate t (.map (some b)) (.string s) v).run P w = .ok () w' ∧ Mp w' b (L ++ [(s, v)]) ∧ PutM w w' b := by
  obtain ⟨es, clock, hb, hl⟩ := h
  have hlt := (Array.getElem?_eq_some_iff.1 hb).1
  have hf := (find_now L es.toList 0 s hl).1 hv
  have hc : (Instr.checkKey false 10000 k (.string s)).run P w = .ok () w := MapKept.run_checkKey (k := .string s) hk (by simp [MapKept.IsKey]) _ 9999
  refine ⟨{ w with heap := w.heap.setIfInBounds b (.map (es.push ⟨.string s, v, clock⟩) (clock + 1)) }, ?_, ⟨es.push ⟨.string s, v, clock⟩, clock + 1, ?_, ?_⟩, ⟨rfl, rfl, rfl, by simp, fun i hi => ?_, es, clock, hb⟩⟩
  · simp [Instr.mapUpdate, run_underlying ht, MapKept.run_getObj_map hb, hc, run_find hk hf, MapKept.run_setObj_map _ hb, Result.andThen]
  · show (w.heap.setIfInBounds b _)[b]? = _
    simp [hlt]
  · rw [Array.toList_push, List.map_append, List.map_append, hl]; rfl
  · show (w.heap.setIfInBounds b _)[i]? = _
    rw [Array.getElem?_setIfInBounds, if_neg (Ne.symm hi)]
/-- m[k] = v of a key that is not there, in a plain region. -/
theorem wpList_put {ops : Array Oper} {rest : List Oper} {o : Oper} {a : Act} {Q : Exit → Act → World → Prop}
    (ht : P.underlying t = some (.map k e)) (hk : P.underlying k = some .string) (hg : o.guard = none) (m x v : Operand) (hop : o.op = Op.mapUpdate t m x v) (val : Value)
    (hm : a.eval m = .map (some b)) (hx : a.eval x = .string s) (hv : a.eval v = val) (h : Mp w b L) (hn : getM L s = none)
    (hK : ∀ w', Mp w' b (L ++ [(s, val)]) → PutM w w' b → wpList P ops Q rest (a.put o.dst undef) w') : wpList P ops Q (o :: rest) a w := by
  refine wpList_plain hg fun K' hK' => ?_
  obtain ⟨w', hrun, r1, r2⟩ := run_put ht hk h hn val
  unfold Oper.wp
  simp [execOp, hop, hm, hx, hv, hrun, Result.andThen]
  exact hK' _ _ (hK w' r1 r2)
/-- .. at a step of a region that draws. -/
theorem step_put {ops : Array Oper} {o : Oper} {a : Act} {K : Act → World → Prop} {Q : Exit → Act → World → Prop} {E' : Prop}
    (ht : P.underlying t = some (.map k e)) (hk : P.underlying k = some .string) (hg : o.guard = none) (m x v : Operand) (hop : o.op = Op.mapUpdate t m x v) (val : Value)
    (hm : a.eval m = .map (some b)) (hx : a.eval x = .string s) (hv : a.eval v = val) (h : Mp w b L) (hn : getM L s = none)
    (hK : ∀ w', Mp w' b (L ++ [(s, val)]) → PutM w w' b → K (a.put o.dst undef) w') : if Region.wanted o (yielded ops a.tmps) = true then Oper.wp P o a w K Q else E' := by
  rw [if_pos (by simp only [Region.wanted, hg])]
  obtain ⟨w', hrun, r1, r2⟩ := run_put ht hk h hn val
  unfold Oper.wp
  simp [execOp, hop, hm, hx, hv, hrun, Result.andThen]
  exact hK w' r1 r2
end
def strL : Lay ByteArray := ⟨fun s => [.string s], 1, fun _ => rfl, by decide, fun x u hu => by cases hu with | head => rfl | tail _ h => cases h⟩
theorem Tryz.infoStr : (Tryz.prog.info? 9).map (fun i => (i.zero, i.size, i.bytes)) = some (some (.string ⟨#[]⟩), 1, 16) := by kernel_rfl
end Go.Proofs.YtalmgeefkcebdaaGreatDoor

