/- Gadgets: Constant, Add, Scale, Sub of the reference. -/
import Derived.Test.YtlgjnidphldiiaaQGadT
namespace Go.Proofs.Ytlgjnidphldiiaa
open Go.RowKit

theorem drop_cons {x : Lin} {k : Nat} (h : k < x.length) : x.drop k = x.getD k (0, 0) :: x.drop (k + 1) := by
  rw [List.drop_eq_getElem_cons h, List.getD_eq_getElem?_getD, List.getElem?_eq_getElem h]
  rfl

set_option maxHeartbeats 1000000 in
theorem rConstant20_any (p n : Int) (w : World) (hn : 0 ≤ n ∧ n < 18446744073709551616) :
    Calls Try.prog 25 #[.int .u64 p, .int .u64 n] w (RetLn w (keepT (0, fred p n))) := by
  have cV := fun W => rValid_any p W
  have hb := fred_bd p n
  have he : fred p n = if vld p then n % p else 0 := rfl
  cases hv : vld p with
  | false =>
    rw [hv] at cV he
    rw [he, if_neg (by decide)]
    clear hb he
    go_enter Try.func25, Try.ntmps25
    go_wp2_with fail
    refine (cV _).mono ?_
    rintro e w2 ⟨rfl, hb⟩
    go_wp2
    go_ret
    exact RetLn.nil w hb
  | true =>
    have hp := vld_pos hv
    rw [hv] at cV he
    rw [if_pos rfl] at he
    rw [he] at hb ⊢
    have cT := fun W => rTerm_any 0 (n % p) W (by decide) (wfU hb)
    have hp0 : 0 < p := by omega
    clear he
    go_enter Try.func25, Try.ntmps25
    go_wp2_with fail
    refine (cV _).mono ?_
    rintro e w2 ⟨rfl, hb2⟩
    go_wp2_with fail
    refine (cT w2).mono ?_
    rintro e w3 ⟨s, rfl, es, hs, hb3⟩
    clear cT cV
    go_wp2
    go_ret
    exact ⟨s, rfl, es, hs, below2 hb2 hb3⟩

/-- The loops of Add and Scale. -/
structure AdSt (w wr : World) (v : Value) (S : Lin) (B : Nat) : Prop where
  b : Below w.heap.size w wr
  o : OwnG tmL wr w.heap.size 100 v S
  sw : LinW S
  len : S.length ≤ B
theorem AdSt.mono {w wr w2 : World} {v : Value} {S : Lin} {B : Nat} (h : AdSt w wr v S B) (hb : Below wr.heap.size wr w2) : AdSt w w2 v S B := ⟨below2 h.b hb, h.o.mono hb, h.sw, h.len⟩
theorem AdSt.app {w wr w2 : World} {v v' : Value} {S T : Lin} {B : Nat} (h : AdSt w wr v S B) (ho : OwnG tmL w2 w.heap.size 100 v' (S ++ T)) (hg : Grew wr w2 v v') (hw : LinW T) (hl : T.length ≤ 1) : AdSt w w2 v' (S ++ T) (B + 1) :=
  ⟨hg.belowG h.b h.o (Nat.le_refl _) h.b.size, ho, fun q hq => by
    rcases List.mem_append.1 hq with h1 | h1
    · exact h.sw q h1
    · exact hw q h1, by have := h.len; simp; omega⟩
theorem AdSt.fin {w wr : World} {v : Value} {S : Lin} {B : Nat} (h : AdSt w wr v S B) : RetLn w S (.returned v) wr := by
  obtain ⟨s, e, es, hs⟩ := h.o.lin h.sw
  exact ⟨s, by rw [e], hide es, hs, h.b⟩

set_option maxRecDepth 10000 in
set_option maxHeartbeats 4000000 in
theorem rScale_any (p n : Int) (x : Lc) (w : World) (hx : LcOk w x) (hl : vld p = true → x.l.length ≤ 100000000) (hn : 0 ≤ n ∧ n < 18446744073709551616) :
    Calls Try.prog 31 #[.int .u64 p, .slice x.ad x.l.length x.cap, .int .u64 n] w (RetLn w (if vld p then rscale p x.l n else [])) := by
  have cV := fun W => rValid_any p W
  cases hv : vld p with
  | false =>
    rw [hv] at cV
    rw [if_neg (by decide)]
    go_enter Try.func31, Try.ntmps31
    go_wp2_with fail
    refine (cV _).mono ?_
    rintro e w2 ⟨rfl, hb⟩
    go_wp2
    go_ret
    exact RetLn.nil w hb
  | true =>
    have hl := hl hv
    rw [hv] at cV
    rw [if_pos rfl]
    obtain ⟨C, hC⟩ : ∃ C, C = rscale p x.l n := ⟨_, rfl⟩
    rw [← hC]
    replace hC := hide hC
    clear hv
    go_enter Try.func31, Try.ntmps31
    go_wp2_with fail
    refine (cV _).mono ?_
    rintro e w2 ⟨rfl, hb⟩
    have S0 : AdSt w w2 (.slice none 0 0) [] 0 := ⟨hb, OwnG.nil _ _ _ _, (fun t ht => by cases ht), Nat.le_refl _⟩
    have hC0 : Hid ([] ++ rscale p (x.l.drop 0) n = C) := hide (by rw [hC.out]; rfl)
    clear hC hb cV
    go_wp2_with fail
    go_loopw [7, 8] (fun t7 t8 wr => ∃ (i : Nat) (S : Lin), i ≤ x.l.length ∧ t8 = .int .i64 i ∧ Hid (S ++ rscale p (x.l.drop i) n = C) ∧ AdSt w wr t7 S i) (fun _ t8 _ => x.l.length - (intOf t8).toNat)
    case atStart => exact ⟨0, [], Nat.zero_le _, rfl, hC0, S0⟩
    case round =>
      clear S0 hC0
      obtain ⟨i, S, hi, rfl, hS, A⟩ := hrel
      by_cases hlt : i < x.l.length
      · have hlt' : (i : Int) < x.l.length := by omega
        obtain ⟨b1, o1, e1, _, p0, p1⟩ := (hx.sl.mono A.b).get hlt
        have hw := hx.wl.get hlt
        have hS' := hS.out
        rw [drop_cons hlt, rscale_cons] at hS'
        rw [e1]
        generalize x.l.getD i (0, 0) = t at *
        obtain ⟨v, c⟩ := t
        simp only at p0 p1 hw hS'
        replace p0 := cell_later' p0
        replace p1 := cell_later' p1
        have hi0 : (0 : Int) ≤ i := by omega
        have hwi : IntKind.i64.wrap (i : Int) = i := by rw [IntKind.wrap_i64]; omega
        have cM := fun P => rMul_any p c n (later wr P) hw.2.1 hw.2.2 hn.1 hn.2
        have hmb := fmul_bd p c n
        generalize fmul p c n = m at *
        have cT := fun P => rTerm_any v m (later wr P) (wfI hw.1) (wfU hmb)
        replace hS := hide hS'
        clear hS'
        go_wp2_with fail
        refine Rel.wp_region_mix 15 [] [(14, IsLn (keepT (v, m)))] Try.mixed (by kernel_rfl) (by kernel_rfl) ?_ ?_
        rotate_left
        simp only [List.take_succ_cons, List.take_zero, List.drop_succ_cons, List.drop_zero, List.map_cons, List.map_nil]
        repeat (first | (refine Rel.wpA_b (by rfl) ?_) | (refine Rel.wpA_step (by rfl) fun K hK => ?_; go_simp; first | (refine hK _ ?_; clear hK K) | (apply Exists.intro; refine ⟨fun _ => ?_, hK _ ?_⟩; (first | (go_at_call 78; exact cM _)); clear hK K)))
        refine Rel.wpA_nil ?_
        rotate_left
        · intro z hz v u u' h1 h2
          simp only [List.mem_cons, List.not_mem_nil, or_false] at hz
          subst hz
          exact IsLn.mono h1 h2
        refine Rel.wpB_step _ rfl rfl (fun p' hq => ?_) (fun v14 => ?_)
        · refine rU_of' (fr := false) (r := .ok (.enter 73 #[.int .i64 v, .int .u64 m]) (later wr p')) (by kernel_rfl) (by kernel_rfl) ?_
          exact rU_ln (cT p')
        refine Rel.wpB_nil ?_
        intro p' hctx hfr
        simp only [List.nil_append, List.mem_cons, List.not_mem_nil, or_false, forall_eq] at hctx
        obtain ⟨s, rfl, es, hs⟩ := hctx
        have hb3 := below_later wr p'
        clear hfr p0 p1 cM cT hwi
        generalize later wr p' = w3 at *
        replace A := A.mono hb3
        have hsl : s.l.length ≤ 1 := by rw [es.out]; unfold keepT; split <;> simp
        have hAl := A.len
        refine wpList_appG _ tmL S s.l rfl _ _ 44 rfl w.heap.size 100 _ _ Try.underlying44 Try.infoTm rfl (by decide) _ s.cap s.l.length s.ad rfl rfl rfl A.o hs.ok.sl.slg (by omega) A.b.size ?_
        intro v4 w4 own4 hg4
        have A4 := A.app own4 hg4 hs.ok.wl hsl
        rw [show s.l = keepT (v, m) from es.out] at A4
        replace hS : Hid (S ++ keepT (v, m) ++ rscale p (x.l.drop (i + 1)) n = C) := hide (by rw [List.append_assoc]; exact hS.out)
        clear A own4 hg4 hs es hsl hb3
        go_wp2
        go_roundw
        case rel => exact ⟨i + 1, _, by omega, by go_num, hS, A4⟩
        case measure => simp [intOf]; omega
      · obtain rfl : i = x.l.length := by omega
        have hS' := hS.out
        rw [List.drop_length, rscale_nil, List.append_nil] at hS'
        replace hS' := hide hS'
        go_wp2
        go_ret
        have := A.fin
        rw [hS'.out] at this
        exact this
theorem AdSt.up {w wr : World} {v : Value} {S : Lin} {B B2 : Nat} (h : AdSt w wr v S B) (hB : B ≤ B2) : AdSt w wr v S B2 := ⟨h.b, h.o, h.sw, Nat.le_trans h.len hB⟩

set_option maxRecDepth 10000 in
set_option maxHeartbeats 16000000 in
theorem rAddL_any (p : Int) (x y : Lc) (w : World) (hx : LcOk w x) (hy : LcOk w y) (hl : vld p = true → x.l.length + y.l.length ≤ 100000000) :
    Calls Try.prog 27 #[.int .u64 p, .slice x.ad x.l.length x.cap, .slice y.ad y.l.length y.cap] w (RetLn w (if vld p then radd p x.l y.l else [])) := by
  have cV := fun W => rValid_any p W
  cases hv : vld p with
  | false =>
    rw [hv] at cV
    rw [if_neg (by decide)]
    go_enter Try.func27, Try.ntmps27
    go_wp2_with fail
    refine (cV _).mono ?_
    rintro e w2 ⟨rfl, hb⟩
    go_wp2
    go_ret
    exact RetLn.nil w hb
  | true =>
    have hl := hl hv
    rw [hv] at cV
    rw [if_pos rfl]
    obtain ⟨C, hC⟩ : ∃ C, C = radd p x.l y.l := ⟨_, rfl⟩
    rw [← hC]
    replace hC := hide hC
    clear hv
    go_enter Try.func27, Try.ntmps27
    go_wp2_with fail
    refine (cV _).mono ?_
    rintro e w2 ⟨rfl, hb⟩
    have S0 : AdSt w w2 (.slice none 0 0) [] 0 := ⟨hb, OwnG.nil _ _ _ _, (fun t ht => by cases ht), Nat.le_refl _⟩
    have hC0 : Hid ([] ++ radd p (x.l.drop 0) (y.l.drop 0) = C) := hide (by rw [hC.out]; rfl)
    clear hC hb cV
    go_wp2_with fail
    go_loopw [7, 8, 9] (fun t7 t8 t9 wr => ∃ (i k : Nat) (S : Lin), i ≤ x.l.length ∧ k ≤ y.l.length ∧ t8 = .int .i64 i ∧ t9 = .int .i64 k ∧ Hid (S ++ radd p (x.l.drop i) (y.l.drop k) = C) ∧ AdSt w wr t7 S (i + k)) (fun _ t8 t9 _ => (x.l.length - (intOf t8).toNat) + (y.l.length - (intOf t9).toNat))
    case atStart => exact ⟨0, 0, [], Nat.zero_le _, Nat.zero_le _, rfl, rfl, hC0, S0⟩
    case round =>
      clear S0 hC0
      obtain ⟨i, k, S, hi, hk, rfl, rfl, hS, A⟩ := hrel
      by_cases hil : i < x.l.length
      · by_cases hkl : k < y.l.length
        · obtain ⟨bx, ox, ex, _, px0, px1⟩ := (hx.sl.mono A.b).get hil
          have wx := hx.wl.get hil
          have hil' : (i : Int) < x.l.length := by omega
          have ni : ((i : Int) == x.l.length) = false := by simp; omega
          obtain ⟨bby, oy, ey, _, py0, py1⟩ := (hy.sl.mono A.b).get hkl
          have wy := hy.wl.get hkl
          have hkl' : (k : Int) < y.l.length := by omega
          have nk : ((k : Int) == y.l.length) = false := by simp; omega
          have hS' := hS.out
          have dx := drop_cons hil
          have dy := drop_cons hkl
          rw [dx, dy, radd] at hS'
          rw [ex, ey]
          generalize x.l.getD i (0, 0) = t at *
          generalize y.l.getD k (0, 0) = t2 at *
          obtain ⟨v, c⟩ := t
          obtain ⟨u, d⟩ := t2
          simp only at px0 px1 py0 py1 wx wy hS' dx dy
          have rx0 := cell_later' px0
          have ry0 := cell_later' py0
          have hi0 : (0 : Int) ≤ i := by omega
          have hk0 : (0 : Int) ≤ k := by omega
          have hwi : IntKind.i64.wrap (i : Int) = i := by rw [IntKind.wrap_i64]; omega
          have hwk : IntKind.i64.wrap (k : Int) = k := by rw [IntKind.wrap_i64]; omega
          by_cases hvu : v < u
          · replace hS : Hid (S ++ ((v, c) :: radd p (x.l.drop (i + 1)) (y.l.drop k)) = C) := hide (by rw [dy]; rw [if_pos hvu] at hS'; exact hS')
            clear hS' dx dy
            go_wp2_with fail
            refine wp_region_later Try.mixed (by kernel_rfl) ?_
            repeat (first | go_big_quiet_step (first | fail) | quiet_step (first | fail))
            refine wpQuiet_nil ?_
            intro w6 hb6
            replace hb6 := below_of_later hb6
            replace A := A.mono hb6
            replace px0 := cell_below hb6 px0
            replace px1 := cell_below hb6 px1
            clear rx0 ry0 hwi hwk
            have hAl := A.len
            go_wp2_with (at_builtin; refine wpList_appG _ tmL S [(v, c)] rfl _ _ 44 rfl w.heap.size 100 _ _ Try.underlying44 Try.infoTm rfl (by decide) _ 1 1 _ rfl rfl rfl (A.o.alloc _) (SlG.one (Blk.newAt rfl) rfl) (by simp; omega) (by have := A.b.size; simp; omega) ?_; intro v4 w4 own4 hg4; refine Hold.mk ?_)
            refine Hold.go ?_
            have A4 := (A.mono ((Below.refl _ _).alloc (Nat.le_refl _) _)).app own4 hg4 (fun q hq => by rw [List.mem_singleton] at hq; subst hq; exact ⟨wfI wx.1, wfU wx.2⟩) (by simp)
            replace hS : Hid (S ++ [(v, c)] ++ radd p (x.l.drop (i + 1)) (y.l.drop k) = C) := hide (by rw [List.append_assoc]; exact hS.out)
            clear A own4 hg4
            go_wp2
            go_roundw
            case rel => exact ⟨i + 1, k, _, by omega, by omega, by go_num, rfl, hS, A4.up (by omega)⟩
            case measure => simp [intOf]; omega
          · by_cases huv : u < v
            · have hvu2 : u ≤ v := by omega
              replace hS : Hid (S ++ ((u, d) :: radd p (x.l.drop i) (y.l.drop (k + 1))) = C) := hide (by rw [dx]; rw [if_neg hvu, if_pos huv] at hS'; exact hS')
              clear hS' dx dy
              go_wp2_with fail
              refine wp_region_later Try.mixed (by kernel_rfl) ?_
              repeat (first | go_big_quiet_step (first | fail) | quiet_step (first | fail))
              refine wpQuiet_nil ?_
              intro w5 hb5
              replace hb5 := below_of_later hb5
              replace A := A.mono hb5
              replace rx0 := cell_later' (cell_below hb5 px0)
              replace ry0 := cell_later' (cell_below hb5 py0)
              go_wp2_with fail
              refine wp_region_later Try.mixed (by kernel_rfl) ?_
              repeat (first | go_big_quiet_step (first | fail) | quiet_step (first | fail))
              refine wpQuiet_nil ?_
              intro w6 hb6
              replace hb6 := below_of_later hb6
              replace A := A.mono hb6
              replace py0 := cell_below hb6 (cell_below hb5 py0)
              replace py1 := cell_below hb6 (cell_below hb5 py1)
              clear rx0 ry0 hwi hwk
              have hAl := A.len
              go_wp2_with (at_builtin; refine wpList_appG _ tmL S [(u, d)] rfl _ _ 44 rfl w.heap.size 100 _ _ Try.underlying44 Try.infoTm rfl (by decide) _ 1 1 _ rfl rfl rfl (A.o.alloc _) (SlG.one (Blk.newAt rfl) rfl) (by simp; omega) (by have := A.b.size; simp; omega) ?_; intro v4 w4 own4 hg4; refine Hold.mk ?_)
              refine Hold.go ?_
              have A4 := (A.mono ((Below.refl _ _).alloc (Nat.le_refl _) _)).app own4 hg4 (fun q hq => by rw [List.mem_singleton] at hq; subst hq; exact ⟨wfI wy.1, wfU wy.2⟩) (by simp)
              replace hS : Hid (S ++ [(u, d)] ++ radd p (x.l.drop i) (y.l.drop (k + 1)) = C) := hide (by rw [List.append_assoc]; exact hS.out)
              clear A own4 hg4
              go_wp2
              go_roundw
              case rel => exact ⟨i, k + 1, _, by omega, by omega, rfl, by go_num, hS, A4.up (by omega)⟩
              case measure => simp [intOf]; omega
            · obtain rfl : v = u := by omega
              clear hvu huv
              replace hS : Hid (S ++ (keepT (v, fadd p c d) ++ radd p (x.l.drop (i + 1)) (y.l.drop (k + 1))) = C) := hide (by rw [if_neg (Int.lt_irrefl _), if_neg (Int.lt_irrefl _)] at hS'; exact hS')
              clear hS' dx dy
              go_wp2_with fail
              refine wp_region_later Try.mixed (by kernel_rfl) ?_
              repeat (first | go_big_quiet_step (first | fail) | quiet_step (first | fail))
              refine wpQuiet_nil ?_
              intro w5 hb5
              replace hb5 := below_of_later hb5
              replace A := A.mono hb5
              replace px0 := cell_below hb5 px0
              replace px1 := cell_below hb5 px1
              replace py0 := cell_below hb5 py0
              replace py1 := cell_below hb5 py1
              replace rx0 := cell_later' px0
              replace ry0 := cell_later' py0
              go_wp2_with fail
              refine wp_region_later Try.mixed (by kernel_rfl) ?_
              repeat (first | go_big_quiet_step (first | fail) | quiet_step (first | fail))
              refine wpQuiet_nil ?_
              intro w6 hb6
              replace hb6 := below_of_later hb6
              replace A := A.mono hb6
              replace px0 := cell_later' (cell_below hb6 px0)
              replace px1 := cell_later' (cell_below hb6 px1)
              replace py1 := cell_later' (cell_below hb6 py1)
              clear rx0 ry0 py0
              have cM := fun P => rAdd_any p c d (later w6 P) wx.2.1 wx.2.2 wy.2.1 wy.2.2
              have hmb := fadd_bd p c d
              generalize fadd p c d = m at *
              have cT := fun P => rTerm_any v m (later w6 P) (wfI wx.1) (wfU hmb)
              go_wp2_with fail
              refine Rel.wp_region_mix 19 [] [(18, IsLn (keepT (v, m)))] Try.mixed (by kernel_rfl) (by kernel_rfl) ?_ ?_
              rotate_left
              simp only [List.take_succ_cons, List.take_zero, List.drop_succ_cons, List.drop_zero, List.map_cons, List.map_nil]
              repeat (first | (refine Rel.wpA_b (by rfl) ?_) | (refine Rel.wpA_step (by rfl) fun K hK => ?_; go_simp; first | (refine hK _ ?_; clear hK K) | (apply Exists.intro; refine ⟨fun _ => ?_, hK _ ?_⟩; (first | (go_at_call 54; exact cM _)); clear hK K)))
              refine Rel.wpA_nil ?_
              rotate_left
              · intro z hz v u u' h1 h2
                simp only [List.mem_cons, List.not_mem_nil, or_false] at hz
                subst hz
                exact IsLn.mono h1 h2
              refine Rel.wpB_step _ rfl rfl (fun p' hq => ?_) (fun v18 => ?_)
              · refine rU_of' (fr := false) (r := .ok (.enter 73 #[.int .i64 v, .int .u64 m]) (later w6 p')) (by kernel_rfl) (by kernel_rfl) ?_
                exact rU_ln (cT p')
              refine Rel.wpB_nil ?_
              intro p' hctx hfr
              simp only [List.nil_append, List.mem_cons, List.not_mem_nil, or_false, forall_eq] at hctx
              obtain ⟨s, rfl, es, hs⟩ := hctx
              have hb3 := below_later w6 p'
              clear hfr px0 px1 py1 cM cT hwi hwk
              generalize later w6 p' = w3 at *
              replace A := A.mono hb3
              have hsl : s.l.length ≤ 1 := by rw [es.out]; unfold keepT; split <;> simp
              have hAl := A.len
              refine wpList_appG _ tmL S s.l rfl _ _ 44 rfl w.heap.size 100 _ _ Try.underlying44 Try.infoTm rfl (by decide) _ s.cap s.l.length s.ad rfl rfl rfl A.o hs.ok.sl.slg (by omega) A.b.size ?_
              intro v4 w4 own4 hg4
              have A4 := A.app own4 hg4 hs.ok.wl hsl
              rw [show s.l = keepT (v, m) from es.out] at A4
              replace hS : Hid (S ++ keepT (v, m) ++ radd p (x.l.drop (i + 1)) (y.l.drop (k + 1)) = C) := hide (by rw [List.append_assoc]; exact hS.out)
              clear hs es hsl hb3
              clear A own4 hg4
              go_wp2
              go_roundw
              case rel => exact ⟨i + 1, k + 1, _, by omega, by omega, by go_num, by go_num, hS, A4.up (by omega)⟩
              case measure => simp [intOf]; omega
        · obtain rfl : k = y.l.length := by omega
          obtain ⟨bx, ox, ex, _, px0, px1⟩ := (hx.sl.mono A.b).get hil
          have wx := hx.wl.get hil
          have hil' : (i : Int) < x.l.length := by omega
          have ni : ((i : Int) == x.l.length) = false := by simp; omega
          have nk : ((y.l.length : Int) == y.l.length) = true := by simp
          have hS' := hS.out
          rw [drop_cons hil, List.drop_length, radd] at hS'
          rw [ex]
          generalize x.l.getD i (0, 0) = t at *
          obtain ⟨v, c⟩ := t
          simp only at px0 px1 wx hS'
          replace hS : Hid (S ++ ((v, c) :: radd p (x.l.drop (i + 1)) []) = C) := hide hS'
          clear hS'
          go_wp2_with fail
          refine wp_region_later Try.mixed (by kernel_rfl) ?_
          repeat (first | go_big_quiet_step (first | fail) | quiet_step (first | fail))
          refine wpQuiet_nil ?_
          intro w6 hb6
          replace hb6 := below_of_later hb6
          replace A := A.mono hb6
          replace px0 := cell_below hb6 px0
          replace px1 := cell_below hb6 px1
          have hAl := A.len
          go_wp2_with (at_builtin; refine wpList_appG _ tmL S [(v, c)] rfl _ _ 44 rfl w.heap.size 100 _ _ Try.underlying44 Try.infoTm rfl (by decide) _ 1 1 _ rfl rfl rfl (A.o.alloc _) (SlG.one (Blk.newAt rfl) rfl) (by simp; omega) (by have := A.b.size; simp; omega) ?_; intro v4 w4 own4 hg4; refine Hold.mk ?_)
          refine Hold.go ?_
          have A4 := (A.mono ((Below.refl _ _).alloc (Nat.le_refl _) _)).app own4 hg4 (fun q hq => by rw [List.mem_singleton] at hq; subst hq; exact ⟨wfI wx.1, wfU wx.2⟩) (by simp)
          replace hS : Hid (S ++ [(v, c)] ++ radd p (x.l.drop (i + 1)) [] = C) := hide (by rw [List.append_assoc]; exact hS.out)
          clear A own4 hg4
          go_wp2
          go_roundw
          case rel => exact ⟨i + 1, y.l.length, _, by omega, by omega, by go_num, rfl, by rw [List.drop_length]; exact hS, A4.up (by omega)⟩
          case measure => simp [intOf]; omega
      · obtain rfl : i = x.l.length := by omega
        by_cases hkl : k < y.l.length
        · obtain ⟨bby, oy, ey, _, py0, py1⟩ := (hy.sl.mono A.b).get hkl
          have wy := hy.wl.get hkl
          have hkl' : (k : Int) < y.l.length := by omega
          have nk : ((k : Int) == y.l.length) = false := by simp; omega
          have ni : ((x.l.length : Int) == x.l.length) = true := by simp
          have hS' := hS.out
          rw [drop_cons hkl, List.drop_length, radd] at hS'
          rw [ey]
          generalize y.l.getD k (0, 0) = t at *
          obtain ⟨u, d⟩ := t
          simp only at py0 py1 wy hS'
          replace hS : Hid (S ++ ((u, d) :: radd p [] (y.l.drop (k + 1))) = C) := hide hS'
          clear hS'
          go_wp2_with fail
          refine wp_region_later Try.mixed (by kernel_rfl) ?_
          repeat (first | go_big_quiet_step (first | fail) | quiet_step (first | fail))
          refine wpQuiet_nil ?_
          intro w5 hb5
          replace hb5 := below_of_later hb5
          replace A := A.mono hb5
          replace py0 := cell_below hb5 py0
          replace py1 := cell_below hb5 py1
          go_wp2_with fail
          refine wp_region_later Try.mixed (by kernel_rfl) ?_
          repeat (first | go_big_quiet_step (first | fail) | quiet_step (first | fail))
          refine wpQuiet_nil ?_
          intro w6 hb6
          replace hb6 := below_of_later hb6
          replace A := A.mono hb6
          replace py0 := cell_below hb6 py0
          replace py1 := cell_below hb6 py1
          have hAl := A.len
          go_wp2_with (at_builtin; refine wpList_appG _ tmL S [(u, d)] rfl _ _ 44 rfl w.heap.size 100 _ _ Try.underlying44 Try.infoTm rfl (by decide) _ 1 1 _ rfl rfl rfl (A.o.alloc _) (SlG.one (Blk.newAt rfl) rfl) (by simp; omega) (by have := A.b.size; simp; omega) ?_; intro v4 w4 own4 hg4; refine Hold.mk ?_)
          refine Hold.go ?_
          have A4 := (A.mono ((Below.refl _ _).alloc (Nat.le_refl _) _)).app own4 hg4 (fun q hq => by rw [List.mem_singleton] at hq; subst hq; exact ⟨wfI wy.1, wfU wy.2⟩) (by simp)
          replace hS : Hid (S ++ [(u, d)] ++ radd p [] (y.l.drop (k + 1)) = C) := hide (by rw [List.append_assoc]; exact hS.out)
          clear A own4 hg4
          go_wp2
          go_roundw
          case rel => exact ⟨x.l.length, k + 1, _, by omega, by omega, rfl, by go_num, by rw [List.drop_length]; exact hS, A4.up (by omega)⟩
          case measure => simp [intOf]; omega
        · obtain rfl : k = y.l.length := by omega
          have hS' := hS.out
          rw [List.drop_length, List.drop_length, radd, List.append_nil] at hS'
          replace hS' := hide hS'
          go_wp2
          go_ret
          have := A.fin
          rw [hS'.out] at this
          exact this

theorem rscale_len (p : Int) (x : Lin) (n : Int) : (rscale p x n).length ≤ x.length := by
  induction x with
  | nil => exact Nat.le_refl _
  | cons t x ih =>
    rw [rscale_cons, List.length_append]
    have : (keepT (t.1, fmul p t.2 n)).length ≤ 1 := by unfold keepT; split <;> simp
    simp only [List.length_cons]
    omega

set_option maxHeartbeats 2000000 in
theorem rSub20_any (p : Int) (x y : Lc) (w : World) (hx : LcOk w x) (hy : LcOk w y) (hl : vld p = true → x.l.length + y.l.length ≤ 100000000) :
    Calls Try.prog 29 #[.int .u64 p, .slice x.ad x.l.length x.cap, .slice y.ad y.l.length y.cap] w (RetLn w (if vld p then radd p x.l (rscale p y.l (p - 1)) else [])) := by
  have cV := fun W => rValid_any p W
  cases hv : vld p with
  | false =>
    rw [hv] at cV
    rw [if_neg (by decide)]
    go_enter Try.func29, Try.ntmps29
    go_wp2_with fail
    refine (cV _).mono ?_
    rintro e w2 ⟨rfl, hb⟩
    go_wp2
    go_ret
    exact RetLn.nil w hb
  | true =>
    have hp := vld_pos hv
    have hl := hl hv
    have hsl := rscale_len p y.l (p - 1)
    rw [hv] at cV
    rw [if_pos rfl]
    have cS := fun W h => rScale_any p (p - 1) y W h (fun _ => by omega) ⟨by omega, by omega⟩
    have cA := fun (z : Lc) W h1 h2 hz => rAddL_any p x z W h1 h2 (fun _ => by have : z.l.length ≤ y.l.length := hz; omega)
    simp only [hv, if_true] at cS cA
    clear hv hsl
    go_enter Try.func29, Try.ntmps29
    go_wp2_with fail
    refine (cV _).mono ?_
    rintro e w2 ⟨rfl, hb⟩
    go_wp2_with fail
    refine (cS w2 (hy.mono hb)).mono ?_
    rintro e w3 ⟨z, rfl, ez, hz, hb3⟩
    replace hb := below2 hb hb3
    have c2 := cA z w3 (hx.mono hb) hz.ok (by rw [ez.out]; exact rscale_len _ _ _)
    rw [show radd p x.l z.l = radd p x.l (rscale p y.l (p - 1)) by rw [ez.out]] at c2
    clear cA cS cV
    go_wp2_with fail
    refine c2.mono ?_
    rintro e w4 ⟨s, rfl, es, hs, hb4⟩
    clear c2
    go_wp2
    go_ret
    exact ⟨s, rfl, es, hs, below2 hb hb4⟩
end Go.Proofs.Ytlgjnidphldiiaa
