/- Gadgets: a variable with a hint is added to a builder. -/
import Derived.Test.YtlgjnidphldiiaaGadF
namespace Go.Proofs.Ytlgjnidphldiiaa
open Go.RowKit

/-- A linear combination, among the relational operations of a region. -/
def IsLn (L : Lin) (v : Value) (w : World) : Prop := ∃ s : Lc, v = .slice s.ad s.l.length s.cap ∧ Hid (s.l = L) ∧ LinT w s
def IsLnF (n : Nat) (L : Lin) (v : Value) (w : World) : Prop := ∃ s : Lc, v = .slice s.ad s.l.length s.cap ∧ Hid (s.l = L) ∧ LinT w s ∧ Hid (∀ a, s.ad = some a → n ≤ a.block)
theorem IsLnF.mono {n : Nat} {L : Lin} {v : Value} {w w' : World} (h : IsLnF n L v w) (hb : Below w.heap.size w w') : IsLnF n L v w' := by
  obtain ⟨s, h1, h2, h3, h4⟩ := h
  exact ⟨s, h1, h2, h3.mono hb, h4⟩
theorem rU_lnF {P : Program} {f : FuncId} {args : Array Value} {W : World} {q : Later} {L : Lin} (h : Calls P f args (later W q) (fun e w' => ∃ s' : Lc, e = .returned (.slice s'.ad s'.l.length s'.cap) ∧ Hid (s'.l = L) ∧ LinT w' s' ∧ Below (later W q).heap.size (later W q) w' ∧ Hid (∀ a, s'.ad = some a → (later W q).heap.size ≤ a.block))) :
    Rel.rUpon P (later W q) false (IsLnF W.heap.size L) (.ok (.enter f args) (later W q)) :=
  ⟨rfl, h.mono fun _ _ ⟨s, he, h1, h2, hb, h3⟩ => ⟨_, he, hb, ⟨s, rfl, h1, h2, hide fun a ha => Nat.le_trans (below_later W q).size (h3.out a ha)⟩, fun h => by cases h⟩⟩
theorem IsLn.mono {L : Lin} {v : Value} {w w' : World} (h : IsLn L v w) (hb : Below w.heap.size w w') : IsLn L v w' := by
  obtain ⟨s, h1, h2, h3⟩ := h
  exact ⟨s, h1, h2, h3.mono hb⟩
theorem rU_ln {P : Program} {f : FuncId} {args : Array Value} {W : World} {q : Later} {L : Lin} (h : Calls P f args (later W q) (RetLn (later W q) L)) :
    Rel.rUpon P (later W q) false (IsLn L) (.ok (.enter f args) (later W q)) :=
  ⟨rfl, h.mono fun _ _ ⟨s, he, h1, h2, hb⟩ => ⟨_, he, hb, ⟨s, rfl, h1, h2⟩, fun h => by cases h⟩⟩
theorem rU_of' {P : Program} {w : World} {fr fr' : Bool} {φ : Value → World → Prop} {r r' : Result Next} (hf : fr' = fr) (h : r' = r) (h2 : Rel.rUpon P w fr φ r) : Rel.rUpon P w fr' φ r' := by
  subst hf h; exact h2

theorem BS.addHint {w w' : World} {base b : Nat} {S : St} {vr vh vh' : Value} {R : List Rw} {H : List Hn} {r : Hn} {A : Nat → Prop} (h : BS w base b S vr R vh H A) (hg : Grew w w' vh vh') (ho : OwnG hnL w' base 108 vh' (H ++ [r])) (hr : LinT w r.a ∧ LinT w r.b ∧ (Lit.int .i64 r.k).wf = true ∧ (Lit.int .i64 r.bit).wf = true) (hav : Av A r.a ∧ Av A r.b) :
    BS (w'.setCell ⟨b, 6, none⟩ vh') base b { S with H := S.H ++ [r.val] } vr R vh' (H ++ [r]) A ∧ Kept base w (w'.setCell ⟨b, 6, none⟩ vh') := by
  have g1 := hg.blk h.blk (h.hints.neq h.blk (by decide))
  have k1 := Kept.grewG h.hints hg (.inr rfl) h.lt
  have k : Kept base w (w'.setCell ⟨b, 6, none⟩ vh') := k1.trans (Kept.setB g1 h.lo)
  refine ⟨⟨g1.set 6 vh', h.lo, (h.rows.grewT h.hints hg (by decide)).other ((h.rows.grewT h.hints hg (by decide)).neq g1 (by decide)) _, ho.other (ho.neq g1 (by decide)) _, fun q hq => ?_, fun q hq => ?_, h.rv, by rw [List.map_append, h.hv]; rfl, h.rav, fun q hq => by
    rcases List.mem_append.1 hq with h1 | h1
    · exact h.hav q h1
    · rw [List.mem_singleton] at h1; subst h1; exact hav⟩, k⟩
  · obtain ⟨i1, i2, i3⟩ := h.rok q hq
    exact ⟨k.lin i1, k.lin i2, k.lin i3⟩
  · rcases List.mem_append.1 hq with h1 | h1
    · obtain ⟨i1, i2, i3⟩ := h.hok q h1
      exact ⟨k.lin i1, k.lin i2, i3⟩
    · rw [List.mem_singleton] at h1
      subst h1
      exact ⟨k.lin hr.1, k.lin hr.2.1, hr.2.2⟩
theorem BS.setVars {w : World} {base b : Nat} {S : St} {vr vh : Value} {R : List Rw} {H : List Hn} {A : Nat → Prop} (h : BS w base b S vr R vh H A) (n : Int) :
    BS (w.setCell ⟨b, 3, none⟩ (.int .i64 n)) base b { S with vars := n } vr R vh H A ∧ Kept base w (w.setCell ⟨b, 3, none⟩ (.int .i64 n)) := by
  have k : Kept base w (w.setCell ⟨b, 3, none⟩ (.int .i64 n)) := Kept.setB h.blk h.lo
  refine ⟨⟨h.blk.set 3 _, h.lo, h.rows.other (h.rows.neq h.blk (by decide)) _, h.hints.other (h.hints.neq h.blk (by decide)) _, fun q hq => ?_, fun q hq => ?_, h.rv, h.hv, h.rav, h.hav⟩, k⟩
  · obtain ⟨i1, i2, i3⟩ := h.rok q hq
    exact ⟨k.lin i1, k.lin i2, k.lin i3⟩
  · obtain ⟨i1, i2, i3⟩ := h.hok q hq
    exact ⟨k.lin i1, k.lin i2, i3⟩

theorem Kept.setH {w : World} {base b j : Nat} {cs : Array Value} {u : Value} (g : Blk w b cs 108) (hb : base ≤ b) : Kept base w (w.setCell ⟨b, j, none⟩ u) :=
  ⟨(Below.refl _ _).setCell hb _, fun q cs' T' g' _ h2 _ => g'.other (fun e => by subst e; exact h2 (blk_type g' g)) _ _⟩
/-- What a gadget with a result does. -/
def RetB (w : World) (base b : Nat) (S : St) (L : Lin) (e : Ending) (w' : World) (A : Nat → Prop := fun _ => False) : Prop := ∃ s : Lc, e = .returned (.slice s.ad s.l.length s.cap) ∧ Hid (s.l = L) ∧ LinT w' s ∧ Bld w' base b S A ∧ Kept base w w'

set_option maxRecDepth 10000 in
set_option maxHeartbeats 4000000 in
theorem hint20A_any (A : Nat → Prop) (base b : Nat) (S : St) (k : Int) (x y : Lc) (bit : Int) (w : World) (h : Bld w base b S A) (hA : ∀ q, A q → q < w.heap.size) (hv : vld S.p = true) (hx : LcOk w x) (hy : LcOk w y) (lx : x.l.length < 1073741823) (ly : y.l.length < 1073741823) (hS : S.H.length < 1073741823) (hV : 0 ≤ S.vars ∧ S.vars < 1073741823)
    (hk : (Lit.int .i64 k).wf = true) (hbit : (Lit.int .i64 bit).wf = true) :
    Calls Try.prog 97 #[.pointer (some ⟨b, 0, none⟩), .agg #[.int .i64 k, .slice x.ad x.l.length x.cap, .slice y.ad y.l.length y.cap, .int .i64 bit]] w (fun e w' => RetB w base b { S with vars := S.vars + 1, H := S.H ++ [⟨k, x.l, y.l, bit⟩] } [(S.vars, 1)] e w' A) := by
  have hb00 : base ≤ w.heap.size := by obtain ⟨_, _, _, _, h⟩ := h; exact h.lt
  have c1 := fun W h => CloneF_any x W h (by omega)
  have c2 := fun W h => CloneF_any y W h (by omega)
  go_enter Try.func97, Try.ntmps97
  go_wp2_with fail
  refine name_world fun w1 hN => ?_
  have gT : Blk w1 w.heap.size #[.int .i64 k, .slice x.ad x.l.length x.cap, .slice y.ad y.l.length y.cap, .int .i64 bit] 108 := by rw [hN]; exact Blk.newAt rfl
  have hb1 : Below w.heap.size w w1 := by rw [hN]; exact (Below.refl _ _).alloc (Nat.le_refl _) _
  clear hN
  have t1 := cell_later' (gT.cell (j := 1) (v := .slice x.ad x.l.length x.cap) rfl)
  have t2 := cell_later' (gT.cell (j := 2) (v := .slice y.ad y.l.length y.cap) rfl)
  refine Rel.wp_region_mix 7 [] [(2, IsLnF w1.heap.size x.l), (5, IsLnF w1.heap.size y.l)] Try.mixed (by kernel_rfl) (by kernel_rfl) ?_ ?_
  rotate_left
  simp only [List.take_succ_cons, List.take_zero, List.drop_succ_cons, List.drop_zero, List.map_cons, List.map_nil]
  repeat (first | (refine Rel.wpA_b (by rfl) ?_) | (refine Rel.wpA_step (by rfl) fun K hK => ?_; go_simp; first | (refine hK _ ?_; clear hK K) | (apply Exists.intro; refine ⟨fun _ => ?_, hK _ ?_⟩; (first | fail); clear hK K)))
  refine Rel.wpA_nil ?_
  rotate_left
  · intro z hz v u u' h1 h2
    simp only [List.mem_cons, List.not_mem_nil, or_false] at hz
    rcases hz with rfl | rfl
    · exact IsLnF.mono h1 h2
    · exact IsLnF.mono h1 h2
  refine Rel.wpB_step _ rfl rfl (fun p' hc => ?_) (fun v2 => ?_)
  · refine rU_of' (fr := false) (r := .ok (.enter 70 #[.slice x.ad x.l.length x.cap]) (later w1 p')) (by kernel_rfl) (by kernel_rfl) ?_
    exact rU_lnF (c1 _ ((hx.mono hb1).mono (below_later _ _)))
  refine Rel.wpB_step _ rfl rfl (fun p' hc => ?_) (fun v5 => ?_)
  · refine rU_of' (fr := false) (r := .ok (.enter 70 #[.slice y.ad y.l.length y.cap]) (later w1 p')) (by kernel_rfl) (by kernel_rfl) ?_
    exact rU_lnF (c2 _ ((hy.mono hb1).mono (below_later _ _)))
  refine Rel.wpB_nil ?_
  intro p' hctx hfr
  simp only [List.nil_append, List.cons_append, List.mem_cons, List.not_mem_nil, or_false, forall_eq_or_imp, forall_eq] at hctx
  obtain ⟨⟨x', rfl, ex, hx', fx⟩, ⟨y', rfl, ey, hy', fy⟩⟩ := hctx
  have hz1 := hide hb1.size
  have hb2 : Below w1.heap.size w1 (later w1 p') := below_later _ _
  clear hfr t1 t2 c1 c2 hx hy lx ly
  generalize later w1 p' = w2 at *
  replace hb1 := below2 hb1 hb2
  replace gT := gT.mono hb2
  clear hb2
  have t1 := gT.cell (j := 1) (v := .slice x.ad x.l.length x.cap) rfl
  have t2 := gT.cell (j := 2) (v := .slice y.ad y.l.length y.cap) rfl
  have tf := gT.free
  go_wp2_with fail
  refine name_world fun w3 hN => ?_
  have gT3 : Blk w3 w.heap.size #[.int .i64 k, .slice x'.ad x'.l.length x'.cap, .slice y'.ad y'.l.length y'.cap, .int .i64 bit] 108 := by rw [hN]; exact (gT.set 1 (.slice x'.ad x'.l.length x'.cap)).set 2 (.slice y'.ad y'.l.length y'.cap)
  have hb3 : Below w.heap.size w w3 := by rw [hN]; exact (hb1.setCell (p := ⟨w.heap.size, 1, none⟩) (Nat.le_refl _) _).setCell (p := ⟨w.heap.size, 2, none⟩) (Nat.le_refl _) _
  have kk : Kept base w2 w3 := by rw [hN]; exact (Kept.setH gT hb00).trans (Kept.setH (gT.set 1 (.slice x'.ad x'.l.length x'.cap)) hb00)
  replace hx' := kk.lin hx'
  replace hy' := kk.lin hy'
  clear hN kk t1 t2 tf hb1 gT
  obtain ⟨vr, R, vh, H, h⟩ := h
  replace h := h.mono hb3
  have hb0 : base ≤ w3.heap.size := h.lt
  obtain ⟨r, hr⟩ : ∃ r : Hn, r = ⟨k, x', y', bit⟩ := ⟨_, rfl⟩
  have hrl : H.length < 1073741823 := by
    have := congrArg List.length h.hv
    rw [List.length_map] at this
    omega
  have hrv : Hid (r.val = ⟨k, x.l, y.l, bit⟩) := hide (by rw [hr]; unfold Hn.val; rw [ex.out, ey.out])
  have hav : Hid (Av A r.a ∧ Av A r.b) := hide (by
    rw [hr]
    exact ⟨fun _ a e hq => by have := fx.out a e; have := hA _ hq; have := hz1.out; omega, fun _ a e hq => by have := fy.out a e; have := hA _ hq; have := hz1.out; omega⟩)
  clear fx fy hz1 hA
  have hown := h.hints
  have gB := h.blk
  have c6 := gB.cell (j := 6) (v := vh) rfl
  have t0 := gT3.cell (j := 0) (v := .int .i64 k) rfl
  have t1 := gT3.cell (j := 1) (v := .slice x'.ad x'.l.length x'.cap) rfl
  have t2 := gT3.cell (j := 2) (v := .slice y'.ad y'.l.length y'.cap) rfl
  have t3 := gT3.cell (j := 3) (v := .int .i64 bit) rfl
  have c6a := cell_below ((Below.refl w3.heap.size w3).alloc (Nat.le_refl _) (.cells #[.int .i64 k, .slice x'.ad x'.l.length x'.cap, .slice y'.ad y'.l.length y'.cap, .int .i64 bit] 108)) c6
  have hnb : vh.ownBlock ≠ some b := hown.neq gB (by decide)
  clear hS ex ey
  go_region_law
    ((refine step_appG hnL 108 r (by rfl) _ _ 35 (by rfl) base _ _ Try.underlying35 Try.infoHn rfl (by decide) vh H (by rfl) (hown.alloc _) w3.heap.size (by rfl) _ (Blk.newAt rfl) (by rw [hr]; rfl) hrl (by simp; omega) ?_; intro v6 w6 hown6 hg; obtain ⟨a6, d6, e6, _⟩ := hown6.sl; subst e6; have gB6 := hg.blk (gB.mono ((Below.refl _ _).alloc (Nat.le_refl _) _).drew) hnb; have hfr := gB6.free 6; have hc6 := gB6.cell (j := 6) (v := vh) rfl))
  all_goals
    have hbA : Below w3.heap.size w3 (w3.alloc (.cells #[.int .i64 k, .slice x'.ad x'.l.length x'.cap, .slice y'.ad y'.l.length y'.cap, .int .i64 bit] 108)).drew := ((Below.refl _ _).alloc (Nat.le_refl _) _).drew
    have hA := (h.mono hbA).addHint hg hown6 (r := r) (by rw [hr]; exact ⟨hx'.mono hbA, hy'.mono hbA, hk, hbit⟩) hav.out
    rw [hrv.out, show (H ++ [r]).length = H.length + 1 by simp] at hA
    have kA := (Kept.of_below (below2 hb3 hbA) hb00).trans hA.2
    replace hA := hA.1
    clear hbA hg hown6 gB6 hfr hc6 c6 c6a t0 t1 t2 t3 hnb hown gB hrl hrv gT3 h hx' hy'
    generalize w6.setCell ⟨b, 6, none⟩ (.slice a6 (H.length + 1) d6) = w7 at *
    have gB := hA.blk
    have c3 := gB.cell (j := 3) (v := .int .i64 S.vars) rfl
    have cf := gB.free
    have hV0 := hV.1
    have hV1 := hV.2
    go_wp2_with fail
    have hS8 := hA.setVars (S.vars + 1)
    refine (variable20_any b _ _ S.p S.vars _ hS8.1.blk rfl hv (wfI ⟨by omega, by omega⟩)).mono ?_
    rintro e w9 ⟨s, rfl, es, hs, hb9⟩
    have kF := (kA.trans hS8.2).trans (Kept.of_below hb9 hS8.1.lt)
    have hF := hS8.1.mono hb9
    clear kA hA hS8 hb9 gB c3 cf
    go_wp2
    go_ret
    exact ⟨s, rfl, es, hs, ⟨_, _, _, _, hF⟩, kF⟩
theorem hint20_any (base b : Nat) (S : St) (k : Int) (x y : Lc) (bit : Int) (w : World) (h : Bld w base b S) (hv : vld S.p = true) (hx : LcOk w x) (hy : LcOk w y) (lx : x.l.length < 1073741823) (ly : y.l.length < 1073741823) (hS : S.H.length < 1073741823) (hV : 0 ≤ S.vars ∧ S.vars < 1073741823)
    (hk : (Lit.int .i64 k).wf = true) (hbit : (Lit.int .i64 bit).wf = true) :
    Calls Try.prog 97 #[.pointer (some ⟨b, 0, none⟩), .agg #[.int .i64 k, .slice x.ad x.l.length x.cap, .slice y.ad y.l.length y.cap, .int .i64 bit]] w (RetB w base b { S with vars := S.vars + 1, H := S.H ++ [⟨k, x.l, y.l, bit⟩] } [(S.vars, 1)]) :=
  hint20A_any (fun _ => False) base b S k x y bit w h (fun _ hq => hq.elim) hv hx hy lx ly hS hV hk hbit
end Go.Proofs.Ytlgjnidphldiiaa
