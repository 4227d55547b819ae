/- types: statement, body, program; steps. -/
import Derived.Test.YtalmgeefkcebdaaGreatDoorQ25
import Derived.Laws.StructEq
namespace Go.Proofs.YtalmgeefkcebdaaGreatDoor
open Go.RowKit

set_option maxRecDepth 10000 in
set_option maxHeartbeats 4000000 in
theorem tstmt_any (ev : Ev) (w : World) (q : Nat) (cE : ∀ W, Below w.heap.size w W → Calls Tryz.prog 197 #[.pointer (some ⟨q, 0, none⟩), evV ev] W (RetTy W 2)) :
    Calls Tryz.prog 196 #[.pointer (some ⟨q, 0, none⟩), stV ev] w fun e w' => e = .returned (.int .i64 0) ∧ Below w.heap.size w w' := by
  have hq : ∀ W, Sem.run Tryz.prog (binOp .neq 32 (.agg #[.int .i64 2, .int .i64 0, .int .i64 0]) (.agg #[.int .i64 2, .int .i64 0, .int .i64 0])) W = .ok (.bool false) W := fun W => by kernel_rfl
  have cT := fun W => tscalar_any 2 W
  unfold stV stC evV at *
  go_enter Tryz.func196, Tryz.ntmps196
  go_wp2_with fail
  refine name_calls fun W hN => ?_
  have hB : Below w.heap.size w W := by rw [hN]; exact (Below.refl _ _).alloc (Nat.le_refl _) _
  have gA : Blk W w.heap.size #[.int .i64 2, .string ⟨#[]⟩, .bool false, .int .i64 0, .int .i64 0, .int .i64 0, .int .i64 ev.op, .int .u64 ev.val, .string ev.nm, .slice ev.ad ev.n ev.c, .int .i64 0, .int .i64 0, .slice none 0 0] 38 := by rw [hN]; exact Blk.newAt rfl
  clear hN
  refine (cE W hB).mono ?_
  rintro e w1 ⟨rfl, hb1⟩
  replace gA := gA.mono hb1
  replace hB := below2 hB hb1
  clear hb1 cE
  have s0 := gA.cell (j := 0) (v := .int .i64 2) rfl
  have slt := gA.lt
  go_wp2_with fail
  refine name_world fun w2 hN => ?_
  have hB2 : Below w.heap.size w w2 := by rw [hN]; exact hB.alloc hB.size _
  have gT : Blk w2 w1.heap.size #[.int .i64 2, .int .i64 0, .int .i64 0] 32 := by rw [hN]; exact Blk.newAt rfl
  clear hN s0 gA hB slt
  have t0 := cell_later' (gT.cell (j := 0) (v := .int .i64 2) rfl); have t1 := cell_later' (gT.cell (j := 1) (v := .int .i64 0) rfl); have t2 := cell_later' (gT.cell (j := 2) (v := .int .i64 0) rfl)
  refine wp_region_later Tryz.mixed (by kernel_rfl) ?_
  repeat (first | go_big_quiet_step (first | (go_at_call 216; exact Calls.later_of (cT _))) | quiet_step (first | (go_at_call 216; exact Calls.later_of (cT _))))
  refine wpQuiet_nil ?_
  intro w3 hb3
  replace hb3 := below_of_later hb3
  clear t0 t1 t2
  go_wp2
  go_ret
  exact ⟨rfl, below2 hB2 hb3⟩
set_option maxRecDepth 10000 in
set_option maxHeartbeats 4000000 in
theorem tbody_any {w0 w : World} {q f g : Nat} {N : List ByteArray} (h : CK w0 w q f g N) (hl : N.length < 1000000) (b c : Nat) (ev : Ev) (hS : StP w b ev)
    (cE : ∀ W, Below w.heap.size w W → Calls Tryz.prog 197 #[.pointer (some ⟨q, 0, none⟩), evV ev] W (RetTy W 2)) :
    Calls Tryz.prog 148 #[.pointer (some ⟨q, 0, none⟩), .slice (some ⟨b, 0, none⟩) 1 c] w (RetCk w0 w q f g N (.int .i64 0)) := by
  have cS := fun W (hb : Below w.heap.size w W) => tstmt_any ev W q (fun W2 hb2 => cE W2 (below2 hb hb2))
  have cL := fun W h => leave_any (w0 := w0) (w := W) (q := q) (f := f) (g := g) (N := N) h hl
  obtain ⟨oa, oc, gq, _⟩ := h.blk
  have q2 := gq.cell (j := 2) (v := .slice oa N.length oc) rfl
  have hz := h.below.size
  have hrefl := Below.refl w.heap.size w
  obtain ⟨n, hn⟩ : ∃ n, N.length = n := ⟨_, rfl⟩
  rw [hn] at q2 cL
  replace hn := hide hn
  unfold stV stC at cS
  clear cE gq
  go_enter Tryz.func148, Tryz.ntmps148
  go_wp2_with fail
  go_loopw [16] (fun t16 wr => ∃ i : Nat, i ≤ 1 ∧ t16 = .int .i64 i ∧ Below w.heap.size w wr) (fun t16 _ => 1 - (intOf t16).toNat)
  case atStart => exact ⟨0, by omega, rfl, hrefl⟩
  case round =>
    clear hrefl q2
    obtain ⟨i, hi, rfl, hB⟩ := hrel
    rcases (show i = 0 ∨ i = 1 by omega) with rfl | rfl
    · have S' := hS.mono hB
      have s0 := S' 0 (.int .i64 2) rfl
      have s1 := S' 1 (.string ⟨#[]⟩) rfl
      have s2 := S' 2 (.bool false) rfl
      have s3 := S' 3 (.int .i64 0) rfl
      have s4 := S' 4 (.int .i64 0) rfl
      have s5 := S' 5 (.int .i64 0) rfl
      have s6 := S' 6 (.int .i64 ev.op) rfl
      have s7 := S' 7 (.int .u64 ev.val) rfl
      have s8 := S' 8 (.string ev.nm) rfl
      have s9 := S' 9 (.slice ev.ad ev.n ev.c) rfl
      have s10 := S' 10 (.int .i64 0) rfl
      have s11 := S' 11 (.int .i64 0) rfl
      have s12 := S' 12 (.slice none 0 0) rfl
      have hB1 : Below w.heap.size w (wr.alloc (.cells #[.int .i64 2, .string ⟨#[]⟩, .bool false, .int .i64 0, .int .i64 0, .int .i64 0, .int .i64 ev.op, .int .u64 ev.val, .string ev.nm, .slice ev.ad ev.n ev.c, .int .i64 0, .int .i64 0, .slice none 0 0] 38)) := hB.alloc hB.size _
      clear S'
      go_wp2_with fail
      refine (cS _ hB1).mono ?_
      rintro e w2 ⟨rfl, hb2⟩
      have hB2 := below2 hB1 hb2
      clear s0 s1 s2 s3 s4 s5 s6 s7 s8 s9 s10 s11 s12 hb2 hB1
      go_wp2
      go_roundw
      case rel => exact ⟨1, by omega, rfl, hB2⟩
      case measure => simp [intOf]
    · go_wp2_with fail
      refine (cL wr (h.mono hB)).mono ?_
      rintro e w2 ⟨rfl, h2, k2⟩
      have kF : KX XCk w0.heap.size w w2 := (KX.of_below hB hz).trans k2
      clear cL cS hS
      go_wp2
      go_ret
      exact ⟨rfl, h2, kF⟩
/-- The names that are declared. -/
def nms (ds : List (Bool × ByteArray)) : List ByteArray := ds.map (·.2)
set_option maxRecDepth 10000 in
set_option maxHeartbeats 8000000 in
theorem tprogram_any {w0 w : World} {q f g : Nat} (h : CK w0 w q f g []) (ds : List (Bool × ByteArray)) (n : Nat) (hl : ds.length = n) (hn : n ≤ 100) (hnew : ∀ j, j < n → getM (syL ((nms ds).take j)) (ds.getD j (false, ⟨#[]⟩)).2 = none)
    (bd cd b c : Nat) (ev : Ev) (hD : DeP w0 bd ds) (hS : StP w0 b ev)
    (cE : ∀ W, CK w0 W q f g (nms ds) → Calls Tryz.prog 197 #[.pointer (some ⟨q, 0, none⟩), evV ev] W (RetTy W 2)) :
    Calls Tryz.prog 86 #[.pointer (some ⟨q, 0, none⟩), .agg #[.slice none 0 0, .slice (some ⟨bd, 0, none⟩) n cd, .slice (some ⟨b, 0, none⟩) 1 c]] w (RetCk w0 w q f g (nms ds) (.int .i64 0)) := by
  have hnl : (nms ds).length = n := by rw [← hl]; exact List.length_map _
  have hgd : ∀ j, j < n → (nms ds).take (j + 1) = (nms ds).take j ++ [(ds.getD j (false, ⟨#[]⟩)).2] := fun j hj => by
    have hj2 : j < ds.length := by omega
    have e : (nms ds)[j]? = some (ds.getD j (false, ⟨#[]⟩)).2 := by
      unfold nms
      rw [List.getElem?_map, List.getD_eq_getElem?_getD, List.getElem?_eq_getElem hj2]
      rfl
    rw [List.take_add_one, e]
    rfl
  have cB := fun W (h : CK w0 W q f g (nms ds)) => tbody_any h (by omega) b c ev (hS.mono h.below) (fun W2 h2 => cE W2 (h.mono h2))
  have hz := h.below.size
  have hrefl := KX.refl XCk w0.heap.size w
  have hnI : (n : Int) ≤ 100 := by omega
  replace hl := hide hl
  replace hnl := hide hnl
  clear cE
  go_enter Tryz.func86, Tryz.ntmps86
  go_wp2_with fail
  refine name_world fun W hN => ?_
  have hbW : Below w.heap.size w W := by rw [hN]; exact (Below.refl _ _).alloc (Nat.le_refl _) _
  have gA : Blk W w.heap.size #[.slice none 0 0, .slice (some ⟨bd, 0, none⟩) n cd, .slice (some ⟨b, 0, none⟩) 1 c] 41 := by rw [hN]; exact Blk.newAt rfl
  clear hN
  replace h := h.mono hbW
  have kW : KX XCk w0.heap.size w W := KX.of_below hbW hz
  clear hrefl
  go_loopw [14] (fun t14 wr => t14 = .int .i64 0 ∧ wr = W) (fun _ _ => 0)
  case atStart => exact ⟨rfl, rfl⟩
  case round =>
    obtain ⟨rfl, rfl⟩ := hrel
    have a1 := gA.cell (j := 1) (v := .slice (some ⟨bd, 0, none⟩) n cd) rfl
    go_wp2_with fail
    go_loopw [28] (fun t28 wr => ∃ j : Nat, j ≤ n ∧ t28 = .int .i64 j ∧ CK w0 wr q f g ((nms ds).take j) ∧ KX XCk w0.heap.size w wr ∧ Blk wr w.heap.size #[.slice none 0 0, .slice (some ⟨bd, 0, none⟩) n cd, .slice (some ⟨b, 0, none⟩) 1 c] 41) (fun t28 _ => n - (intOf t28).toNat)
    case atStart => exact ⟨0, by omega, rfl, h, kW, gA⟩
    case round =>
      clear a1 gA kW h
      obtain ⟨j, hj, rfl, C, k, gA⟩ := hrel
      by_cases hlt : j < n
      · have hltI : (j : Int) < n := by omega
        have hil : j < ds.length := by rw [hl.out]; exact hlt
        obtain ⟨c0, c1, c2, c3, c4⟩ := hD.mono C.below j hil
        have ht := hgd j hlt
        have hw := hnew j hlt
        have htl : ((nms ds).take j).length < 1000000 := by rw [List.length_take]; omega
        generalize ds.getD j (false, ⟨#[]⟩) = d at *
        have bA : Below wr.heap.size wr (wr.alloc (.cells #[.bool d.1, .string d.2, .int .i64 1, .int .i64 0, .int .i64 0] 34)) := (Below.refl _ _).alloc (Nat.le_refl _) _
        have hwz := C.below.size
        have C1 := C.mono bA
        have k1 := k.trans (KX.of_below (X := XCk) bA hwz)
        have g1 := gA.mono bA
        have gD : Blk (wr.alloc (.cells #[.bool d.1, .string d.2, .int .i64 1, .int .i64 0, .int .i64 0] 34)) wr.heap.size #[.bool d.1, .string d.2, .int .i64 1, .int .i64 0, .int .i64 0] 34 := Blk.new _ _ _
        have cD := declare_any C1 d.2 hw htl
        unfold symV at cD
        clear C k gA bA
        go_wp2_with fail
        refine cD.mono ?_
        rintro e w2 ⟨rfl, C2, k2⟩
        have hw2 := C1.below.size
        have k3 := k1.trans k2
        have g2 := k2.typ _ _ _ g1 (by unfold XCk; decide)
        have gD2 := k2.typ _ _ _ gD (by unfold XCk; decide)
        clear cD C1 k1 g1 gD c0 c1 c2 c3 c4 k2
        have c2 := gD2.cell (j := 2) (v := .int .i64 1) rfl; have c3 := gD2.cell (j := 3) (v := .int .i64 0) rfl; have c4 := gD2.cell (j := 4) (v := .int .i64 0) rfl
        go_wp2_with fail
        refine (note_any q w2).mono ?_
        rintro e w3 ⟨rfl, hb3⟩
        have C3 := C2.mono hb3
        have k4 := k3.trans (KX.of_below (X := XCk) hb3 C2.below.size)
        have g3 := g2.mono hb3
        rw [← ht] at C3
        clear C2 k3 g2 gD2 c2 c3 c4 hb3
        go_wp2
        go_roundw
        case rel => exact ⟨j + 1, by omega, by go_num, C3, k4, g3⟩
        case measure => simp [intOf]; omega
      · obtain rfl : j = n := by omega
        rw [List.take_of_length_le (by rw [hnl.out]; exact Nat.le_refl _)] at C
        have a2 := gA.cell (j := 2) (v := .slice (some ⟨b, 0, none⟩) 1 c) rfl
        clear hnew hgd hD
        go_wp2_with fail
        refine (cB wr C).mono ?_
        rintro e w2 ⟨rfl, C2, k2⟩
        have kF := k.trans k2
        clear a2 gA k k2 C cB
        go_wp2
        go_ret
        exact ⟨rfl, C2, kF⟩

set_option maxRecDepth 10000 in
set_option maxHeartbeats 16000000 in
theorem callSteps_any (h : Nat) : ∀ (t : Tr), t.ok → ∀ (w : World) (P : Nat → Prop) (ev : Ev), Rep w P t ev → Calls Tryz.prog 150 #[evV ev, .map (some h)] w fun e w' => e = .returned (.int .i64 0) ∧ Below w.heap.size w w'
  | .nm s, _, w, P, ev, hR => by
    have hR : ev = ⟨2, 0, s, none, 0, 0⟩ := hR
    subst hR
    unfold evV
    go_enter Tryz.func150, Tryz.ntmps150
    go_wp2_with fail
    refine name_world fun W hN => ?_
    have hB : Below w.heap.size w W := by rw [hN]; exact (Below.refl _ _).alloc (Nat.le_refl _) _
    clear hN
    go_loopw [5, 19] (fun t5 t19 wr => t5 = .int .i64 0 ∧ t19 = .int .i64 0 ∧ wr = W) (fun _ _ _ => 0)
    case atStart => exact ⟨rfl, rfl, rfl⟩
    case round =>
      obtain ⟨rfl, rfl, rfl⟩ := hrel
      go_wp2
      go_ret
      exact ⟨rfl, hB⟩
  | .bin op val l r, ⟨hop, _, okl, okr⟩, w, P, ev, hR => by
    obtain ⟨b, x, y, rfl, _, g, hl, hr⟩ := hR
    have cX := fun W (hb : Below w.heap.size w W) => callSteps_any h l okl W P x (hl.mono hb)
    have cY := fun W (hb : Below w.heap.size w W) => callSteps_any h r okr W P y (hr.mono hb)
    have hop5 : (op == 5) = false := beq_eq_false_iff_ne.2 (by omega)
    unfold evV at *
    clear hl hr okl okr hop
    go_enter Tryz.func150, Tryz.ntmps150
    go_wp2_with fail
    refine name_world fun W hN => ?_
    have hB : Below w.heap.size w W := by rw [hN]; exact (Below.refl _ _).alloc (Nat.le_refl _) _
    clear hN
    go_loopw [5, 19] (fun t5 t19 wr => ∃ i : Nat, i ≤ 2 ∧ t5 = .int .i64 0 ∧ t19 = .int .i64 i ∧ Below w.heap.size w wr) (fun _ t19 _ => 2 - (intOf t19).toNat)
    case atStart => exact ⟨0, by omega, rfl, rfl, hB⟩
    case round =>
      clear hB
      obtain ⟨i, hi, rfl, rfl, hB⟩ := hrel
      have g' := g.mono hB
      rcases (show i = 0 ∨ i = 1 ∨ i = 2 by omega) with rfl | rfl | rfl
      · have c0 := g'.cell (j := 0) (v := .int .i64 x.op) rfl; have c1 := g'.cell (j := 1) (v := .int .u64 x.val) rfl; have c2 := g'.cell (j := 2) (v := .string x.nm) rfl; have c3 := g'.cell (j := 3) (v := .slice x.ad x.n x.c) rfl
        have hB1 : Below w.heap.size w (wr.alloc (.cells #[.int .i64 x.op, .int .u64 x.val, .string x.nm, .slice x.ad x.n x.c] 29)) := hB.alloc hB.size _
        go_wp2_with fail
        refine (cX _ hB1).mono ?_
        rintro e w2 ⟨rfl, hb2⟩
        have hB2 := below2 hB1 hb2
        clear c0 c1 c2 c3 g'
        go_wp2
        go_roundw
        case rel => exact ⟨1, by omega, rfl, rfl, hB2⟩
        case measure => simp [intOf]
      · have c0 := g'.cell (j := 4) (v := .int .i64 y.op) rfl; have c1 := g'.cell (j := 5) (v := .int .u64 y.val) rfl; have c2 := g'.cell (j := 6) (v := .string y.nm) rfl; have c3 := g'.cell (j := 7) (v := .slice y.ad y.n y.c) rfl
        have hB1 : Below w.heap.size w (wr.alloc (.cells #[.int .i64 y.op, .int .u64 y.val, .string y.nm, .slice y.ad y.n y.c] 29)) := hB.alloc hB.size _
        go_wp2_with fail
        refine (cY _ hB1).mono ?_
        rintro e w2 ⟨rfl, hb2⟩
        have hB2 := below2 hB1 hb2
        clear c0 c1 c2 c3 g'
        go_wp2
        go_roundw
        case rel => exact ⟨2, by omega, rfl, rfl, hB2⟩
        case measure => simp [intOf]
      · go_wp2
        go_ret
        exact ⟨rfl, hB⟩
set_option maxRecDepth 10000 in
set_option maxHeartbeats 4000000 in
theorem bodySteps_any (h : Nat) (t : Tr) (ok : t.ok) (w : World) (P : Nat → Prop) (ev : Ev) (hR : Rep w P t ev) (b c : Nat) (hS : StP w b ev) :
    Calls Tryz.prog 149 #[.slice (some ⟨b, 0, none⟩) 1 c, .map (some h)] w fun e w' => e = .returned (.int .i64 1) ∧ Below w.heap.size w w' := by
  have cS := fun W (hb : Below w.heap.size w W) => callSteps_any h t ok W P ev (hR.mono hb)
  have hrefl := Below.refl w.heap.size w
  unfold evV at cS
  clear hR ok
  go_enter Tryz.func149, Tryz.ntmps149
  go_wp2_with fail
  go_loopw [5, 10] (fun t5 t10 wr => ∃ i : Nat, i ≤ 1 ∧ t5 = .int .i64 i ∧ t10 = .int .i64 i ∧ Below w.heap.size w wr) (fun _ t10 _ => 1 - (intOf t10).toNat)
  case atStart => exact ⟨0, by omega, rfl, rfl, hrefl⟩
  case round =>
    clear hrefl
    obtain ⟨i, hi, rfl, rfl, hB⟩ := hrel
    rcases (show i = 0 ∨ i = 1 by omega) with rfl | rfl
    · have S' := hS.mono hB
      have s0 := S' 0 (.int .i64 2) rfl
      have s1 := S' 1 (.string ⟨#[]⟩) rfl
      have s2 := S' 2 (.bool false) rfl
      have s3 := S' 3 (.int .i64 0) rfl
      have s4 := S' 4 (.int .i64 0) rfl
      have s5 := S' 5 (.int .i64 0) rfl
      have s6 := S' 6 (.int .i64 ev.op) rfl
      have s7 := S' 7 (.int .u64 ev.val) rfl
      have s8 := S' 8 (.string ev.nm) rfl
      have s9 := S' 9 (.slice ev.ad ev.n ev.c) rfl
      have s10 := S' 10 (.int .i64 0) rfl
      have s11 := S' 11 (.int .i64 0) rfl
      have s12 := S' 12 (.slice none 0 0) rfl
      have hB1 : Below w.heap.size w (wr.alloc (.cells #[.int .i64 2, .string ⟨#[]⟩, .bool false, .int .i64 0, .int .i64 0, .int .i64 0, .int .i64 ev.op, .int .u64 ev.val, .string ev.nm, .slice ev.ad ev.n ev.c, .int .i64 0, .int .i64 0, .slice none 0 0] 38)) := hB.alloc hB.size _
      clear S'
      go_wp2_with fail
      refine (cS _ hB1).mono ?_
      rintro e w2 ⟨rfl, hb2⟩
      have hB2 := below2 hB1 hb2
      clear s0 s1 s2 s3 s4 s5 s6 s7 s8 s9 s10 s11 s12 hb2 hB1
      go_wp2
      go_roundw
      case rel => exact ⟨1, by omega, rfl, rfl, hB2⟩
      case measure => simp [intOf]
    · go_wp2
      go_ret
      exact ⟨rfl, hB⟩
set_option maxRecDepth 10000 in
set_option maxHeartbeats 4000000 in
theorem programSteps_any (t : Tr) (ok : t.ok) (w : World) (P : Nat → Prop) (ev : Ev) (hR : Rep w P t ev) (ad : Option Addr) (n cd b c : Nat) (hS : StP w b ev) :
    Calls Tryz.prog 87 #[.agg #[.slice none 0 0, .slice ad n cd, .slice (some ⟨b, 0, none⟩) 1 c]] w fun e w' => e = .returned (.int .i64 1) ∧ Below w.heap.size w w' := by
  have cS := fun W h (hb : Below w.heap.size w W) => bodySteps_any h t ok W P ev (hR.mono hb) b c (hS.mono hb)
  have hmm := @run_makeMap Tryz.prog
  clear hR ok
  go_enter Tryz.func87, Tryz.ntmps87
  go_wp2_with fail
  refine name_world fun W hN => ?_
  have hB : Below w.heap.size w W := by rw [hN]; exact ((Below.refl _ _).alloc (Nat.le_refl _) _).alloc (by simp) _
  have gA : Blk W w.heap.size #[.slice none 0 0, .slice ad n cd, .slice (some ⟨b, 0, none⟩) 1 c] 41 := by rw [hN]; exact (Blk.newAt rfl).alloc _
  clear hN hmm
  go_loopw [10] (fun t10 wr => t10 = .int .i64 0 ∧ wr = W) (fun _ _ => 0)
  case atStart => exact ⟨rfl, rfl⟩
  case round =>
    obtain ⟨rfl, rfl⟩ := hrel
    have a2 := gA.cell (j := 2) (v := .slice (some ⟨b, 0, none⟩) 1 c) rfl
    go_wp2_with fail
    refine (cS wr _ hB).mono ?_
    rintro e w2 ⟨rfl, hb2⟩
    clear a2 gA cS
    go_wp2
    go_ret
    exact ⟨rfl, below2 hB hb2⟩
/-- A program in memory: declarations of elements, one check. -/
structure PgP (w : World) (v : Value) (ds : List (Bool × ByteArray)) (t : Tr) : Prop where
  ex : ∃ bd cd b c ev, v = .agg #[.slice none 0 0, .slice (some ⟨bd, 0, none⟩) ds.length cd, .slice (some ⟨b, 0, none⟩) 1 c] ∧ DeP w bd ds ∧ StP w b ev ∧ Rep w (fun _ => True) t ev
theorem PgP.mono {w w' : World} {v : Value} {ds : List (Bool × ByteArray)} {t : Tr} (h : PgP w v ds t) (hb : Below w.heap.size w w') : PgP w' v ds t := by
  obtain ⟨bd, cd, b, c, ev, h1, h2, h3, h4⟩ := h.ex
  exact ⟨bd, cd, b, c, ev, h1, h2.mono hb, h3.mono hb, h4.mono hb⟩
/-- What the types ask of it. -/
structure PgOk (ds : List (Bool × ByteArray)) (t : Tr) : Prop where
  ok : t.ok
  dep : t.dep ≤ 40
  nm : ∀ d ∈ ds, NmOk d.2
  len : ds.length ≤ 100
  new : ∀ j, j < ds.length → getM (syL ((nms ds).take j)) (ds.getD j (false, ⟨#[]⟩)).2 = none
  inn : t.inn (nms ds)
  kind : t.kind = 2
set_option maxRecDepth 10000 in
set_option maxHeartbeats 8000000 in
theorem examine17_any (v : Value) (ds : List (Bool × ByteArray)) (t : Tr) (o : PgOk ds t) (w : World) (h : PgP w v ds t) :
    Calls Tryz.prog 42 #[v] w fun e w' => e = .returned (.tuple #[.int .i64 0, .int .i64 1, .int .i64 0]) ∧ Below w.heap.size w w' := by
  obtain ⟨bd, cd, b, c, ev, rfl, hD, hS, hR⟩ := h.ex
  obtain ⟨n, hn⟩ : ∃ n, ds.length = n := ⟨_, rfl⟩
  have cV := fun W (hb : Below w.heap.size w W) => Valid15_any t o.ok o.dep W _ ev (hR.mono hb) (some ⟨bd, 0, none⟩) n cd b c (hS.mono hb) (fun W2 hb2 => everyD_any W2 bd n cd ds hn (by have := o.len; omega) (hD.mono (below2 hb hb2)) o.nm)
  have cP := fun W q f g (hC : CK w W q f g []) => tprogram_any hC ds n hn (by have := o.len; omega) (fun j hj => o.new j (by omega)) bd cd b c ev hD hS (fun W2 C2 => by
    obtain ⟨oa, oc, gq, _⟩ := C2.blk
    have := texpr_any t (nms ds) o.inn W2 _ ev (hR.mono C2.below) q f g _ gq C2.mp
    rw [o.kind] at this
    exact this)
  have cS := fun W (hb : Below w.heap.size w W) => programSteps_any t o.ok W _ ev (hR.mono hb) (some ⟨bd, 0, none⟩) n cd b c (hS.mono hb)
  have hmm := @run_makeMap Tryz.prog
  rw [hn]
  replace hn := hide hn
  clear o hD hS hR h
  go_enter Tryz.func42, Tryz.ntmps42
  go_wp2_with fail
  refine name_calls fun W hN => ?_
  have hB : Below w.heap.size w W := by rw [hN]; exact (Below.refl _ _).alloc (Nat.le_refl _) _
  have gA : Blk W w.heap.size #[.slice none 0 0, .slice (some ⟨bd, 0, none⟩) n cd, .slice (some ⟨b, 0, none⟩) 1 c] 41 := by rw [hN]; exact Blk.newAt rfl
  clear hN
  refine (cV W hB).mono ?_
  rintro e w1 ⟨rfl, hb1⟩
  replace gA := gA.mono hb1
  replace hB := below2 hB hb1
  clear hb1 cV
  have a0 := gA.cell (j := 0) (v := .slice none 0 0) rfl; have a1 := gA.cell (j := 1) (v := .slice (some ⟨bd, 0, none⟩) n cd) rfl; have a2 := gA.cell (j := 2) (v := .slice (some ⟨b, 0, none⟩) 1 c) rfl
  have gA3 := ((gA.alloc (.map #[] 0)).alloc (.map #[] 0)).alloc (.cells #[.map (some w1.heap.size), .map (some (w1.heap.size + 1)), .slice none 0 0, .int .i64 0] 179)
  have m0 := gA3.cell (j := 0) (v := .slice none 0 0) rfl; have m1 := gA3.cell (j := 1) (v := .slice (some ⟨bd, 0, none⟩) n cd) rfl; have m2 := gA3.cell (j := 2) (v := .slice (some ⟨b, 0, none⟩) 1 c) rfl
  clear gA3 a0 a1 a2
  go_wp2_with fail
  refine name_calls fun W2 hN2 => ?_
  have hb2 : Below w1.heap.size w1 W2 := by rw [hN2]; exact (((Below.refl _ _).alloc (Nat.le_refl _) _).alloc (by simp) _).alloc (by simp; omega) _
  have hC : CK w W2 (w1.heap.size + 1 + 1) w1.heap.size (w1.heap.size + 1) [] := by
    have hz := hB.size
    refine ⟨⟨none, 0, ?_, OwnG.nil _ _ _ _⟩, ?_, by omega, by omega, below2 hB hb2⟩
    · rw [hN2]; exact Blk.newAt (by simp)
    · have := Mp.made (w1.alloc (.map #[] 0))
      rw [show (w1.alloc (.map #[] 0)).heap.size = w1.heap.size + 1 by simp] at this
      rw [hN2]
      exact this.mono ((Below.refl _ _).alloc (Nat.le_refl _) _)
  replace gA := gA.mono hb2
  clear hN2 hmm m0 m1 m2 hb2 hB
  refine (cP W2 _ _ _ hC).mono ?_
  rintro e w3 ⟨rfl, C3, k3⟩
  replace gA := k3.typ _ _ _ gA (by unfold XCk; decide)
  have hB3 := C3.below
  obtain ⟨oa, oc, gq, _⟩ := C3.blk
  have a0 := gA.cell (j := 0) (v := .slice none 0 0) rfl; have a1 := gA.cell (j := 1) (v := .slice (some ⟨bd, 0, none⟩) n cd) rfl; have a2 := gA.cell (j := 2) (v := .slice (some ⟨b, 0, none⟩) 1 c) rfl
  clear cP hC C3 k3
  go_wp2_with fail
  refine (cS w3 hB3).mono ?_
  rintro e w4 ⟨rfl, hb4⟩
  replace gq := gq.mono hb4
  have q3 := gq.cell (j := 3) (v := .int .i64 0) rfl
  clear a0 a1 a2 gA gq cS
  go_wp2
  exact bodyPost_ret (v := .tuple #[.int .i64 0, .int .i64 1, .int .i64 0]) (by simp [results, Tryz.results42, go_sem]) rfl ⟨rfl, below2 hB3 hb4⟩
set_option maxHeartbeats 4000000 in
theorem Check17_any (v : Value) (ds : List (Bool × ByteArray)) (t : Tr) (o : PgOk ds t) (w : World) (h : PgP w v ds t) :
    Calls Tryz.prog 15 #[v] w fun e w' => e = .returned (.int .i64 0) ∧ Below w.heap.size w w' := by
  have cE := fun W (hb : Below w.heap.size w W) => examine17_any v ds t o W (h.mono hb)
  obtain ⟨bd, cd, b, c, ev, rfl, _, _, _⟩ := h.ex
  generalize ds.length = n at *
  clear o h
  go_enter Tryz.func15, Tryz.ntmps15
  go_wp2_with fail
  refine name_calls fun W hN => ?_
  have hB : Below w.heap.size w W := by rw [hN]; exact (Below.refl _ _).alloc (Nat.le_refl _) _
  clear hN
  refine (cE W hB).mono ?_
  rintro e w1 ⟨rfl, hb1⟩
  go_wp2
  go_ret
  exact ⟨rfl, below2 hB hb1⟩
set_option maxHeartbeats 4000000 in
theorem Fits17_any (v : Value) (ds : List (Bool × ByteArray)) (t : Tr) (o : PgOk ds t) (p : Int) (hv : vld p = true) (w : World) (h : PgP w v ds t) :
    Calls Tryz.prog 16 #[v, .int .u64 p] w fun e w' => e = .returned (.bool true) ∧ Below w.heap.size w w' := by
  have cE := fun W (hb : Below w.heap.size w W) => examine17_any v ds t o W (h.mono hb)
  have cV := fun W => valid_any p W
  rw [hv] at cV
  have hp : (1 : Int) < p := by rcases vld_cases hv with h | h | h | h | h | h | h <;> omega
  obtain ⟨bd, cd, b, c, ev, rfl, _, _, _⟩ := h.ex
  generalize ds.length = n at *
  clear o h hv
  go_enter Tryz.func16, Tryz.ntmps16
  go_wp2_with fail
  refine name_calls fun W hN => ?_
  have hB : Below w.heap.size w W := by rw [hN]; exact (Below.refl _ _).alloc (Nat.le_refl _) _
  clear hN
  refine (cE W hB).mono ?_
  rintro e w1 ⟨rfl, hb1⟩
  go_wp2_with fail
  refine (cV w1).mono ?_
  rintro e w2 ⟨rfl, hb2⟩
  go_wp2
  go_ret
  exact ⟨by first | rfl | simp, below2 (below2 hB hb1) hb2⟩
/-- How many inputs are public, how many are secret. -/
def pubN (ds : List (Bool × ByteArray)) : Nat := (ds.filter fun d => d.1).length
def secN (ds : List (Bool × ByteArray)) : Nat := (ds.filter fun d => !d.1).length
theorem take_getD {ds : List (Bool × ByteArray)} {j : Nat} (hj : j < ds.length) : ds.take (j + 1) = ds.take j ++ [ds.getD j (false, ⟨#[]⟩)] := by
  have e : ds[j]? = some (ds.getD j (false, ⟨#[]⟩)) := by rw [List.getD_eq_getElem?_getD, List.getElem?_eq_getElem hj]; rfl
  rw [List.take_add_one, e]
  rfl
theorem pubN_snoc (l : List (Bool × ByteArray)) (d : Bool × ByteArray) : pubN (l ++ [d]) = pubN l + if d.1 = true then 1 else 0 := by
  unfold pubN
  rw [List.filter_append, List.length_append]
  cases h : d.1 <;> simp [h]
theorem secN_snoc (l : List (Bool × ByteArray)) (d : Bool × ByteArray) : secN (l ++ [d]) = secN l + if d.1 = true then 0 else 1 := by
  unfold secN
  rw [List.filter_append, List.length_append]
  cases h : d.1 <;> simp [h]
set_option maxRecDepth 10000 in
set_option maxHeartbeats 8000000 in
theorem Inputs17_any (v : Value) (ds : List (Bool × ByteArray)) (t : Tr) (o : PgOk ds t) (w : World) (h : PgP w v ds t) :
    Calls Tryz.prog 17 #[v] w fun e w' => e = .returned (.tuple #[.int .i64 (pubN ds : Nat), .int .i64 (secN ds : Nat)]) ∧ Below w.heap.size w w' := by
  have cE := fun W (hb : Below w.heap.size w W) => Check17_any v ds t o W (h.mono hb)
  obtain ⟨bd, cd, b, c, ev, rfl, hD, _, _⟩ := h.ex
  have hlen := o.len
  obtain ⟨n, hn⟩ : ∃ n, ds.length = n := ⟨_, rfl⟩
  rw [hn] at cE hlen ⊢
  have hnI : (n : Int) ≤ 100 := by omega
  replace hn := hide hn
  clear o h
  go_enter Tryz.func17, Tryz.ntmps17
  go_wp2_with fail
  refine name_calls fun W hN => ?_
  have hB : Below w.heap.size w W := by rw [hN]; exact (Below.refl _ _).alloc (Nat.le_refl _) _
  have gA : Blk W w.heap.size #[.slice none 0 0, .slice (some ⟨bd, 0, none⟩) n cd, .slice (some ⟨b, 0, none⟩) 1 c] 41 := by rw [hN]; exact Blk.newAt rfl
  clear hN
  refine (cE W hB).mono ?_
  rintro e w1 ⟨rfl, hb1⟩
  replace gA := gA.mono hb1
  replace hB := below2 hB hb1
  have a1 := gA.cell (j := 1) (v := .slice (some ⟨bd, 0, none⟩) n cd) rfl
  clear hb1 cE
  go_wp2_with fail
  go_loopw [4, 5, 15] (fun t4 t5 t15 wr => ∃ j : Nat, j ≤ n ∧ t15 = .int .i64 j ∧ t4 = .int .i64 (pubN (ds.take j) : Nat) ∧ t5 = .int .i64 (secN (ds.take j) : Nat) ∧ Below w.heap.size w wr) (fun _ _ t15 _ => n - (intOf t15).toNat)
  case atStart => exact ⟨0, by omega, rfl, rfl, rfl, hB⟩
  case round =>
    clear a1 gA hB
    obtain ⟨j, hj, rfl, rfl, rfl, hB⟩ := hrel
    by_cases hlt : j < n
    · have hltI : (j : Int) < n := by omega
      have hil : j < ds.length := by rw [hn.out]; exact hlt
      obtain ⟨c0, c1, c2, c3, c4⟩ := hD.mono hB j hil
      have hp : pubN (ds.take (j + 1)) = pubN (ds.take j) + if (ds.getD j (false, ⟨#[]⟩)).1 = true then 1 else 0 := by rw [take_getD hil, pubN_snoc]
      have hq : secN (ds.take (j + 1)) = secN (ds.take j) + if (ds.getD j (false, ⟨#[]⟩)).1 = true then 0 else 1 := by rw [take_getD hil, secN_snoc]
      have hPb : pubN (ds.take j) ≤ j := Nat.le_trans (List.length_filter_le _ _) (by rw [List.length_take]; omega)
      have hQb : secN (ds.take j) ≤ j := Nat.le_trans (List.length_filter_le _ _) (by rw [List.length_take]; omega)
      generalize ds.getD j (false, ⟨#[]⟩) = d at *
      obtain ⟨P, hP⟩ : ∃ P, pubN (ds.take j) = P := ⟨_, rfl⟩
      obtain ⟨Q, hQ⟩ : ∃ Q, secN (ds.take j) = Q := ⟨_, rfl⟩
      rw [hP] at hp hPb
      rw [hQ] at hq hQb
      rw [hP, hQ]
      have hPI : (P : Int) ≤ 100 := by omega
      have hQI : (Q : Int) ≤ 100 := by omega
      have hB1 : Below w.heap.size w (wr.alloc (.cells #[.bool d.1, .string d.2, .int .i64 1, .int .i64 0, .int .i64 0] 34)) := hB.alloc hB.size _
      obtain ⟨d1, d2⟩ := d
      clear hP hQ hPb hQb
      replace hp := hide hp
      replace hq := hide hq
      cases d1 with
      | true =>
        go_wp2
        go_roundw
        case rel => exact ⟨j + 1, by omega, by go_num, by rw [hp.out]; go_num, by rw [hq.out]; go_num, hB1⟩
        case measure => simp [intOf]; omega
      | false =>
        go_wp2
        go_roundw
        case rel => exact ⟨j + 1, by omega, by go_num, by rw [hp.out]; go_num, by rw [hq.out]; go_num, hB1⟩
        case measure => simp [intOf]; omega
    · obtain rfl : j = n := by omega
      rw [List.take_of_length_le (by rw [hn.out]; exact Nat.le_refl _)]
      obtain ⟨P, hP⟩ : ∃ P, pubN ds = P := ⟨_, rfl⟩
      obtain ⟨Q, hQ⟩ : ∃ Q, secN ds = Q := ⟨_, rfl⟩
      rw [hP, hQ]
      replace hP := hide hP
      replace hQ := hide hQ
      go_wp2
      exact bodyPost_ret (v := .tuple #[.int .i64 (P : Int), .int .i64 (Q : Int)]) (by simp [results, Tryz.results17, go_sem]) rfl ⟨by rw [hP.out, hQ.out], hB⟩






end Go.Proofs.YtalmgeefkcebdaaGreatDoor

