/- Gadgets: sums of linear combinations, in plain Lean. -/
import Derived.Test.YtalmgeefkcebdaaGreatDoorQ07
namespace Go.Proofs.YtalmgeefkcebdaaGreatDoor
open Go.RowKit

abbrev Lin := List (Int × Int)
def keepT (t : Int × Int) : Lin := if t.2 = 0 then [] else [t]
/-- x + n y, as the program reckons it. -/
def comb (p n : Int) : Lin → Lin → Lin
  | [], [] => []
  | x :: xs, [] => keepT x ++ comb p n xs []
  | [], y :: ys => keepT (y.1, fmul p n y.2) ++ comb p n [] ys
  | x :: xs, y :: ys => if x.1 < y.1 then keepT x ++ comb p n xs (y :: ys) else if y.1 < x.1 then keepT (y.1, fmul p n y.2) ++ comb p n (x :: xs) ys else keepT (x.1, fadd p x.2 (fmul p n y.2)) ++ comb p n xs ys
termination_by x y => x.length + y.length

/-- All coefficients are reduced and not 0. -/
def CoefOk (p : Int) (x : Lin) : Prop := ∀ t ∈ x, 0 < t.2 ∧ t.2 < p
theorem CoefOk.tail {p : Int} {t : Int × Int} {x : Lin} (h : CoefOk p (t :: x)) : CoefOk p x := fun u hu => h u (List.mem_cons_of_mem _ hu)
theorem CoefOk.head {p : Int} {t : Int × Int} {x : Lin} (h : CoefOk p (t :: x)) : 0 < t.2 ∧ t.2 < p := h t (List.mem_cons_self ..)
theorem CoefOk.nil (p : Int) : CoefOk p [] := fun t ht => by cases ht

/-- What the program's functions return. -/
def addP (p : Int) (x y : Lin) (n : Int) : Lin := if vld p then comb p n x y else []
theorem comb_len (p n : Int) : ∀ (x y : Lin), (comb p n x y).length ≤ x.length + y.length := by
  have hk : ∀ t, (keepT t).length ≤ 1 := fun t => by unfold keepT; split <;> simp
  intro x y
  induction x, y using comb.induct with
  | case1 => rw [comb]; simp
  | case2 x xs ih => rw [comb, List.length_append]; have := hk x; simp at ih ⊢; omega
  | case3 y ys ih => rw [comb, List.length_append]; have := hk (y.1, fmul p n y.2); simp at ih ⊢; omega
  | case4 x xs y ys h ih => rw [comb, if_pos h, List.length_append]; have := hk x; simp at ih ⊢; omega
  | case5 x xs y ys h h2 ih => rw [comb, if_neg h, if_pos h2, List.length_append]; have := hk (y.1, fmul p n y.2); simp at ih ⊢; omega
  | case6 x xs y ys h h2 ih => rw [comb, if_neg h, if_neg h2, List.length_append]; have := hk (x.1, fadd p x.2 (fmul p n y.2)); simp at ih ⊢; omega

/-- Ascending variables, from lo on and below hi; coefficients as they must be. -/
def Asc (lo : Int) : Lin → Prop
  | [] => True
  | t :: x => lo ≤ t.1 ∧ Asc (t.1 + 1) x
def LinIn (p lo hi : Int) (x : Lin) : Prop := CoefOk p x ∧ Asc lo x ∧ ∀ t ∈ x, t.1 < hi
theorem Asc.low {lo l2 : Int} {x : Lin} (h : Asc lo x) (hl : l2 ≤ lo) : Asc l2 x := by
  cases x with
  | nil => trivial
  | cons t x => exact ⟨Int.le_trans hl h.1, h.2⟩
theorem CoefOk.keep {p v c : Int} {x : Lin} (hc : 0 ≤ c ∧ c < p) (h : CoefOk p x) : CoefOk p (keepT (v, c) ++ x) := by
  unfold keepT
  split
  · exact h
  · rename_i h0
    intro t ht
    rcases List.mem_append.1 ht with h1 | h1
    · rw [List.mem_singleton] at h1; subst h1; simp only at h0 ⊢; omega
    · exact h t h1
theorem Asc.keep {lo v c : Int} {x : Lin} (hv : lo ≤ v) (h : Asc (v + 1) x) : Asc lo (keepT (v, c) ++ x) := by
  unfold keepT
  split
  · exact h.low (by omega)
  · exact ⟨hv, h⟩
theorem fmul_lt {p : Int} (hv : vld p = true) (a b : Int) : 0 ≤ fmul p a b ∧ fmul p a b < p := by
  have hp := vld_pos hv
  rw [fmul_eq hv]
  exact mod_lt' (by omega) _
theorem fadd_ltp {p : Int} (hv : vld p = true) (a b : Int) : 0 ≤ fadd p a b ∧ fadd p a b < p := by
  have hp := vld_pos hv
  rw [fadd_eq hv]
  exact mod_lt' (by omega) _
theorem comb_ok {p n : Int} (hv : vld p = true) : ∀ (x y : Lin) (lo : Int), CoefOk p x → CoefOk p y → Asc lo x → Asc lo y → CoefOk p (comb p n x y) ∧ Asc lo (comb p n x y) := by
  intro x y
  induction x, y using comb.induct with
  | case1 => intro lo _ _ _ _; rw [comb]; exact ⟨CoefOk.nil _, trivial⟩
  | case2 x xs ih =>
    intro lo h1 h2 h3 h4
    obtain ⟨i1, i2⟩ := ih (x.1 + 1) h1.tail h2 h3.2 trivial
    rw [comb]
    have := h1.head
    exact ⟨CoefOk.keep ⟨by omega, this.2⟩ i1, Asc.keep h3.1 i2⟩
  | case3 y ys ih =>
    intro lo h1 h2 h3 h4
    obtain ⟨i1, i2⟩ := ih (y.1 + 1) h1 h2.tail trivial h4.2
    rw [comb]
    exact ⟨CoefOk.keep (fmul_lt hv _ _) i1, Asc.keep h4.1 i2⟩
  | case4 x xs y ys h ih =>
    intro lo h1 h2 h3 h4
    obtain ⟨i1, i2⟩ := ih (x.1 + 1) h1.tail h2 h3.2 ⟨by omega, h4.2⟩
    rw [comb, if_pos h]
    have := h1.head
    exact ⟨CoefOk.keep ⟨by omega, this.2⟩ i1, Asc.keep h3.1 i2⟩
  | case5 x xs y ys h hh ih =>
    intro lo h1 h2 h3 h4
    obtain ⟨i1, i2⟩ := ih (y.1 + 1) h1 h2.tail ⟨by omega, h3.2⟩ h4.2
    rw [comb, if_neg h, if_pos hh]
    exact ⟨CoefOk.keep (fmul_lt hv _ _) i1, Asc.keep h4.1 i2⟩
  | case6 x xs y ys h hh ih =>
    intro lo h1 h2 h3 h4
    obtain ⟨i1, i2⟩ := ih (x.1 + 1) h1.tail h2.tail h3.2 (h4.2.low (by omega))
    rw [comb, if_neg h, if_neg hh]
    exact ⟨CoefOk.keep (fadd_ltp hv _ _) i1, Asc.keep h3.1 i2⟩
theorem comb_vars (p n : Int) : ∀ (x y : Lin) (Q : Int → Prop), (∀ t ∈ x, Q t.1) → (∀ t ∈ y, Q t.1) → ∀ t ∈ comb p n x y, Q t.1 := by
  have hk : ∀ (u t : Int × Int) (Q : Int → Prop), Q u.1 → t ∈ keepT u → Q t.1 := fun u t Q h ht => by
    unfold keepT at ht
    split at ht
    · cases ht
    · rw [List.mem_singleton] at ht; rw [ht]; exact h
  intro x y
  induction x, y using comb.induct with
  | case1 => intro Q _ _ t ht; rw [comb] at ht; cases ht
  | case2 x xs ih =>
    intro Q h1 h2 t ht
    rw [comb] at ht
    rcases List.mem_append.1 ht with h | h
    · exact hk _ _ Q (h1 x (List.mem_cons_self ..)) h
    · exact ih Q (fun t ht => h1 t (List.mem_cons_of_mem _ ht)) h2 t h
  | case3 y ys ih =>
    intro Q h1 h2 t ht
    rw [comb] at ht
    rcases List.mem_append.1 ht with h | h
    · exact hk (y.1, fmul p n y.2) _ Q (h2 y (List.mem_cons_self ..)) h
    · exact ih Q h1 (fun t ht => h2 t (List.mem_cons_of_mem _ ht)) t h
  | case4 x xs y ys hh ih =>
    intro Q h1 h2 t ht
    rw [comb, if_pos hh] at ht
    rcases List.mem_append.1 ht with h | h
    · exact hk _ _ Q (h1 x (List.mem_cons_self ..)) h
    · exact ih Q (fun t ht => h1 t (List.mem_cons_of_mem _ ht)) h2 t h
  | case5 x xs y ys hh h3 ih =>
    intro Q h1 h2 t ht
    rw [comb, if_neg hh, if_pos h3] at ht
    rcases List.mem_append.1 ht with h | h
    · exact hk (y.1, fmul p n y.2) _ Q (h2 y (List.mem_cons_self ..)) h
    · exact ih Q h1 (fun t ht => h2 t (List.mem_cons_of_mem _ ht)) t h
  | case6 x xs y ys hh h3 ih =>
    intro Q h1 h2 t ht
    rw [comb, if_neg hh, if_neg h3] at ht
    rcases List.mem_append.1 ht with h | h
    · exact hk (x.1, fadd p x.2 (fmul p n y.2)) _ Q (h1 x (List.mem_cons_self ..)) h
    · exact ih Q (fun t ht => h1 t (List.mem_cons_of_mem _ ht)) (fun t ht => h2 t (List.mem_cons_of_mem _ ht)) t h
theorem comb_in {p n lo hi : Int} (hv : vld p = true) {x y : Lin} (hx : LinIn p lo hi x) (hy : LinIn p lo hi y) : LinIn p lo hi (comb p n x y) := by
  obtain ⟨h1, h2⟩ := comb_ok (n := n) hv x y lo hx.1 hy.1 hx.2.1 hy.2.1
  exact ⟨h1, h2, comb_vars p n x y (fun v => v < hi) hx.2.2 hy.2.2⟩

/-- A linear combination whose block holds terms. -/
structure LinT (w : World) (s : Lc) : Prop where
  ok : LcOk w s
  blk : s.l ≠ [] → ∃ b off cs, s.ad = some ⟨b, off, none⟩ ∧ Blk w b cs 131
theorem LinT.nil (w : World) : LinT w ⟨none, 0, []⟩ := ⟨⟨fun h => absurd h (by simp), fun t ht => (by cases ht), by simp, by simp⟩, fun h => absurd rfl h⟩
theorem LinT.mono {w w' : World} {s : Lc} (h : LinT w s) (hb : Below w.heap.size w w') : LinT w' s := ⟨h.ok.mono hb, fun h0 => by
  obtain ⟨b, off, cs, e, g⟩ := h.blk h0
  exact ⟨b, off, cs, e, g.mono hb⟩⟩
theorem lc_nil {w : World} {s : Lc} (h : LcOk w s) (e : s.l = []) (w' : World) : LcOk w' s := ⟨fun h0 => absurd h0 (by rw [e]; simp), h.wl, h.le, h.mx⟩

/-- w' is w behind calls that change the builders of the call's own alone. -/
structure Kept (base : Nat) (w w' : World) : Prop where
  below : Below base w w'
  typ : ∀ (b : Nat) (cs : Array Value) (T : TypeId), Blk w b cs T → T ≠ 97 → T ≠ 134 → T ≠ 115 → Blk w' b cs T
  mp : ∀ (b : Nat) (es : Array MapEntry) (clock : Nat), w.heap[b]? = some (.map es clock) → w'.heap[b]? = some (.map es clock)
theorem Kept.trans {base : Nat} {w w' w2 : World} (h : Kept base w w') (k : Kept base w' w2) : Kept base w w2 :=
  ⟨h.below.trans k.below, fun b cs T g h1 h2 h3 => k.typ b cs T (h.typ b cs T g h1 h2 h3) h1 h2 h3, fun b es c g => k.mp b es c (h.mp b es c g)⟩
theorem map_below {w w' : World} {b : Nat} {es : Array MapEntry} {clock : Nat} (h : w.heap[b]? = some (.map es clock)) (hb : Below w.heap.size w w') : w'.heap[b]? = some (.map es clock) := by
  rw [hb.block b (Array.getElem?_eq_some_iff.1 h).1]; exact h
theorem map_setCell {w : World} {b c j : Nat} {es : Array MapEntry} {clock : Nat} (h : w.heap[b]? = some (.map es clock)) (hne : b ≠ c) (u : Value) : (w.setCell ⟨c, j, none⟩ u).heap[b]? = some (.map es clock) := by
  rw [Below.heap_setCell _ _ _ _ (show b ≠ (⟨c, j, none⟩ : Addr).block from hne)]; exact h
theorem Kept.of_below {base : Nat} {w w' : World} (h : Below w.heap.size w w') (hb : base ≤ w.heap.size) : Kept base w w' := ⟨h.mono hb, fun _ _ _ g _ _ _ => g.mono h, fun _ _ _ g => map_below g h⟩
theorem Kept.size {base : Nat} {w w' : World} (h : Kept base w w') : w.heap.size ≤ w'.heap.size := h.below.size
theorem Kept.lin {base : Nat} {w w' : World} {s : Lc} (k : Kept base w w') (h : LinT w s) : LinT w' s := by
  by_cases e : s.l = []
  · exact ⟨lc_nil h.ok e _, fun h0 => absurd e h0⟩
  · obtain ⟨b, off, cs, e2, g⟩ := h.blk e
    have g' := k.typ b cs _ g (by decide) (by decide) (by decide)
    refine ⟨⟨fun h0 => ?_, h.ok.wl, h.ok.le, h.ok.mx⟩, fun _ => ⟨b, off, cs, e2, g'⟩⟩
    obtain ⟨b', off', e3, hl, hc⟩ := h.ok.sl h0
    rw [e2] at e3
    cases e3
    have hh : w'.heap[b]? = w.heap[b]? := by
      have h1 : w.heap[b]? = _ := g
      have h2 : w'.heap[b]? = _ := g'
      rw [h1, h2]
    exact ⟨b, off, e2, Nat.lt_of_lt_of_le hl k.size, fun i hi => ⟨by rw [World.cell?_of_block (w := w) hh]; exact (hc i hi).1, by rw [World.cell?_of_block (w := w) hh]; exact (hc i hi).2⟩⟩

/-- The values of rows and hints. -/
structure Row3 where
  a : Lin
  b : Lin
  c : Lin
structure Hint4 where
  k : Int
  a : Lin
  b : Lin
  bit : Int
def Rw.val (r : Rw) : Row3 := ⟨r.a.l, r.b.l, r.c.l⟩
def Hn.val (h : Hn) : Hint4 := ⟨h.k, h.a.l, h.b.l, h.bit⟩
/-- A circuit under way. -/
structure St where
  p : Int
  pub : Int
  vars : Int
  R : List Row3
  sec : Int
  H : List Hint4

/-- The terms of s do not lie in a block of A. -/
def Av (A : Nat → Prop) (s : Lc) : Prop := s.l ≠ [] → ∀ a, s.ad = some a → ¬ A a.block
/-- A builder in block b; its slices are of the call's own; its combinations do not lie in a block of A. -/
structure BS (w : World) (base b : Nat) (S : St) (vr : Value) (R : List Rw) (vh : Value) (H : List Hn) (A : Nat → Prop) : Prop where
  blk : Blk w b #[.int .u64 S.p, .int .u64 S.p, .int .i64 S.pub, .int .i64 S.vars, vr, .int .i64 S.sec, vh] 115
  lo : base ≤ b
  rows : OwnG rwL w base 97 vr R
  hints : OwnG hnL w base 134 vh H
  rok : ∀ r ∈ R, LinT w r.a ∧ LinT w r.b ∧ LinT w r.c
  hok : ∀ h ∈ H, LinT w h.a ∧ LinT w h.b ∧ (Lit.int .i64 h.k).wf = true ∧ (Lit.int .i64 h.bit).wf = true
  rv : R.map Rw.val = S.R
  hv : H.map Hn.val = S.H
  rav : ∀ r ∈ R, Av A r.a ∧ Av A r.b ∧ Av A r.c
  hav : ∀ h ∈ H, Av A h.a ∧ Av A h.b
def Bld (w : World) (base b : Nat) (S : St) (A : Nat → Prop := fun _ => False) : Prop := ∃ vr R vh H, BS w base b S vr R vh H A
theorem BS.mono {w w' : World} {base b : Nat} {S : St} {vr vh : Value} {R : List Rw} {H : List Hn} {A : Nat → Prop} (h : BS w base b S vr R vh H A) (hb : Below w.heap.size w w') : BS w' base b S vr R vh H A :=
  ⟨h.blk.mono hb, h.lo, h.rows.mono hb, h.hints.mono hb, fun r hr => ⟨(h.rok r hr).1.mono hb, (h.rok r hr).2.1.mono hb, (h.rok r hr).2.2.mono hb⟩, fun r hr => ⟨(h.hok r hr).1.mono hb, (h.hok r hr).2.1.mono hb, (h.hok r hr).2.2⟩, h.rv, h.hv, h.rav, h.hav⟩
theorem Bld.mono {w w' : World} {base b : Nat} {S : St} {A : Nat → Prop} (h : Bld w base b S A) (hb : Below w.heap.size w w') : Bld w' base b S A := by
  obtain ⟨vr, R, vh, H, h⟩ := h
  exact ⟨vr, R, vh, H, h.mono hb⟩
theorem BS.lt {w : World} {base b : Nat} {S : St} {vr vh : Value} {R : List Rw} {H : List Hn} {A : Nat → Prop} (h : BS w base b S vr R vh H A) : base ≤ w.heap.size := by
  have := h.blk.lt
  have := h.lo
  omega

/-- A call that returns a linear combination of a block of its own. -/
def RetLn (w : World) (L : Lin) (e : Ending) (w' : World) : Prop := ∃ s : Lc, e = .returned (.slice s.ad s.l.length s.cap) ∧ Hid (s.l = L) ∧ LinT w' s ∧ Below w.heap.size w w'
theorem RetLn.nil (w : World) {w' : World} (hb : Below w.heap.size w w') : RetLn w [] (.returned (.slice none 0 0)) w' := ⟨⟨none, 0, []⟩, rfl, hide rfl, LinT.nil _, hb⟩
theorem wfI {k : Int} (h : -9223372036854775808 ≤ k ∧ k ≤ 9223372036854775807) : (Lit.int .i64 k).wf = true := by
  simp [Lit.wf, IntKind.min, IntKind.max, IntKind.signed, IntKind.bits]; omega
theorem wfU {k : Int} (h : 0 ≤ k ∧ k < 18446744073709551616) : (Lit.int .u64 k).wf = true := by
  simp [Lit.wf, IntKind.min, IntKind.max, IntKind.signed, IntKind.bits]; omega
theorem LinT.one {w : World} {b : Nat} {v c : Int} (g : Blk w b #[.int .i64 v, .int .u64 c] 131) (hv : (Lit.int .i64 v).wf = true) (hc : (Lit.int .u64 c).wf = true) : LinT w ⟨some ⟨b, 0, none⟩, 1, [(v, c)]⟩ :=
  ⟨⟨fun _ => ⟨b, 0, rfl, g.lt, fun i hi => by
    have : i = 0 := by simpa using hi
    subst this
    exact ⟨g.cell (j := 0) rfl, g.cell (j := 1) rfl⟩⟩, fun t ht => by
    rw [List.mem_singleton] at ht; subst ht; exact ⟨hv, hc⟩, by simp, by simp [maxLen]⟩, fun _ => ⟨b, 0, _, rfl, g⟩⟩

/-- A slice of terms of the call's own, as a linear combination. -/
theorem OwnG.lin {w : World} {base : Nat} {v : Value} {L : Lin} (h : OwnG tmL w base 131 v L) (hw : LinW L) : ∃ s : Lc, v = .slice s.ad s.l.length s.cap ∧ s.l = L ∧ LinT w s := by
  obtain ⟨ad, c, rfl, hs, h1, h2, _⟩ := h.sl
  refine ⟨⟨ad, c, L⟩, rfl, rfl, ⟨⟨LinS.of_slg hs, hw, h1, h2⟩, fun h0 => ?_⟩⟩
  rcases h.form with ⟨_, e⟩ | ⟨g, cap, cur, e, _, gb, _⟩
  · exact absurd e h0
  · cases e
    exact ⟨g, 0, cur, rfl, gb⟩

set_option maxHeartbeats 1000000 in
theorem term_any (p v n : Int) (w : World) (hv : (Lit.int .i64 v).wf = true) (hn : 0 ≤ n ∧ n < 18446744073709551616) :
    Calls Tryz.prog 104 #[.int .u64 p, .int .i64 v, .int .u64 n] w (RetLn w (keepT (v, fred p n))) := by
  have cR := Reduce_any p n w hn.1 hn.2
  have hb := fred_bd p n
  generalize fred p n = m at *
  by_cases h0 : m = 0
  · subst h0
    clear hb
    go_enter Tryz.func104, Tryz.ntmps104
    go_wp2_with fail
    refine cR.mono ?_
    rintro e w1 ⟨rfl, hb1⟩
    go_wp2
    go_ret
    exact RetLn.nil w hb1
  · have hz : (m == 0) = false := by simpa using h0
    have hk : keepT (v, m) = [(v, m)] := by unfold keepT; rw [if_neg h0]
    rw [hk]
    have hm : (Lit.int .u64 m).wf = true := wfU hb
    replace h0 := hide h0
    clear hk hb
    go_enter Tryz.func104, Tryz.ntmps104
    go_wp2_with fail
    refine cR.mono ?_
    rintro e w1 ⟨rfl, hb1⟩
    replace hv := hide hv
    replace hm := hide hm
    go_wp2
    go_ret
    exact ⟨⟨some ⟨w1.heap.size, 0, none⟩, 1, [(v, m)]⟩, rfl, hide rfl, LinT.one (Blk.newAt rfl) hv.out hm.out, hb1.alloc hb1.size _⟩

set_option maxHeartbeats 1000000 in
theorem Constant20_any (p n : Int) (w : World) (hn : 0 ≤ n ∧ n < 18446744073709551616) :
    Calls Tryz.prog 48 #[.int .u64 p, .int .u64 n] w (RetLn w (keepT (0, fred p n))) := by
  have cT := term_any p 0 n w (by decide) hn
  go_enter Tryz.func48, Tryz.ntmps48
  go_wp2_with fail
  refine cT.mono ?_
  rintro e w1 ⟨s, rfl, hs, hl, hb⟩
  go_wp2
  go_ret
  exact ⟨s, rfl, hs, hl, hb⟩

theorem fred_one {p : Int} (hv : vld p = true) : fred p 1 = 1 := by
  have hp := vld_pos hv
  unfold fred
  rw [if_pos hv, Int.emod_eq_of_lt (by omega) (by omega)]

set_option maxHeartbeats 1000000 in
theorem variable20_any (b : Nat) (cs : Array Value) (T : TypeId) (p v : Int) (w : World) (g : Blk w b cs T) (h0 : cs[0]? = some (.int .u64 p)) (hp : vld p = true) (hv : (Lit.int .i64 v).wf = true) :
    Calls Tryz.prog 106 #[.pointer (some ⟨b, 0, none⟩), .int .i64 v] w (RetLn w [(v, 1)]) := by
  have cT := term_any p v 1 w hv (by decide)
  rw [fred_one hp, show keepT (v, 1) = [(v, 1)] from rfl] at cT
  have c0 := g.cell (j := 0) h0
  replace hv := hide hv
  go_enter Tryz.func106, Tryz.ntmps106
  go_wp2_with fail
  refine cT.mono ?_
  rintro e w1 ⟨s, rfl, hs, hl, hb⟩
  go_wp2
  go_ret
  exact ⟨s, rfl, hs, hl, hb⟩

set_option maxHeartbeats 1000000 in
theorem one_any (b : Nat) (cs : Array Value) (T : TypeId) (p : Int) (w : World) (g : Blk w b cs T) (h0 : cs[0]? = some (.int .u64 p)) (hp : vld p = true) :
    Calls Tryz.prog 103 #[.pointer (some ⟨b, 0, none⟩)] w (RetLn w [(0, 1)]) := by
  have cT := variable20_any b cs T p 0 w g h0 hp (by decide)
  go_enter Tryz.func103, Tryz.ntmps103
  go_wp2_with fail
  refine cT.mono ?_
  rintro e w1 ⟨s, rfl, hs, hl, hb⟩
  go_wp2
  go_ret
  exact ⟨s, rfl, hs, hl, hb⟩

/-- A call that returns a slice of its own. -/
def RetG {α : Type} (L : Lay α) (w : World) (E : TypeId) (xs : List α) (e : Ending) (w' : World) : Prop := ∃ v, e = .returned v ∧ OwnG L w' w.heap.size E v xs ∧ Below w.heap.size w w'

set_option maxHeartbeats 1000000 in
theorem CloneL_any (ad : Option Addr) (n c : Nat) (xs : List (Int × Int)) (w : World) (hs : SlG tmL w ad xs) (hn : n = xs.length) (hl : xs.length < 68719476736) :
    Calls Tryz.prog 52 #[.slice ad n c] w (RetG tmL w 131 xs) := by
  subst hn
  rcases ad with _ | ad
  · have hx : xs = [] := by
      rcases Nat.eq_zero_or_pos xs.length with h | h
      · exact List.eq_nil_of_length_eq_zero h
      · obtain ⟨_, _, h, _⟩ := hs h
        cases h
    subst hx
    have hn := fun W : World => Lib.run_eql_slice_nil (P := Tryz.prog) W 95 131 none 0 c 0 0 Tryz.underlying95
    go_enter Tryz.func52, Tryz.ntmps52
    go_wp2
    go_ret
    exact ⟨_, rfl, OwnG.nil _ _ _ _, Below.refl _ _⟩
  · have hn := fun W : World => Lib.run_eql_slice_nil (P := Tryz.prog) W 95 131 (some ad) xs.length c 0 0 Tryz.underlying95
    go_enter Tryz.func52, Tryz.ntmps52
    go_wp2_with (at_builtin; refine wpList_appG _ tmL [] xs rfl _ _ 95 rfl w.heap.size 131 _ _ Tryz.underlying95 Tryz.infoTm rfl (by decide) _ c xs.length (some ad) rfl rfl rfl (OwnG.empty (Nat.le_refl _)) (hs.alloc _) (by simp; omega) (by simp) ?_; intro v' w' hown hg; refine Hold.mk ?_)
    refine Hold.go ?_
    have hb2 : Below w.heap.size w w' := hg.belowG ((Below.refl _ _).alloc (Nat.le_refl _) _) (OwnG.empty (L := tmL) (base := w.heap.size) (Nat.le_refl _)) (Nat.le_refl _) (by simp)
    rw [List.nil_append] at hown
    clear hg
    go_wp2
    go_ret
    exact ⟨_, rfl, hown, hb2⟩

set_option maxHeartbeats 1000000 in
theorem CloneR_any (ad : Option Addr) (n c : Nat) (xs : List Rw) (w : World) (hs : SlG rwL w ad xs) (hn : n = xs.length) (hl : xs.length < 68719476736) :
    Calls Tryz.prog 51 #[.slice ad n c] w (RetG rwL w 97 xs) := by
  subst hn
  rcases ad with _ | ad
  · have hx : xs = [] := by
      rcases Nat.eq_zero_or_pos xs.length with h | h
      · exact List.eq_nil_of_length_eq_zero h
      · obtain ⟨_, _, h, _⟩ := hs h
        cases h
    subst hx
    have hn := fun W : World => Lib.run_eql_slice_nil (P := Tryz.prog) W 42 97 none 0 c 0 0 Tryz.underlying42
    go_enter Tryz.func51, Tryz.ntmps51
    go_wp2
    go_ret
    exact ⟨_, rfl, OwnG.nil _ _ _ _, Below.refl _ _⟩
  · have hn := fun W : World => Lib.run_eql_slice_nil (P := Tryz.prog) W 42 97 (some ad) xs.length c 0 0 Tryz.underlying42
    go_enter Tryz.func51, Tryz.ntmps51
    go_wp2_with (at_builtin; refine wpList_appG _ rwL [] xs rfl _ _ 42 rfl w.heap.size 97 _ _ Tryz.underlying42 Tryz.infoRw rfl (by decide) _ c xs.length (some ad) rfl rfl rfl (OwnG.empty (Nat.le_refl _)) (hs.alloc _) (by simp; omega) (by simp) ?_; intro v' w' hown hg; refine Hold.mk ?_)
    refine Hold.go ?_
    have hb2 : Below w.heap.size w w' := hg.belowG ((Below.refl _ _).alloc (Nat.le_refl _) _) (OwnG.empty (L := rwL) (base := w.heap.size) (Nat.le_refl _)) (Nat.le_refl _) (by simp)
    rw [List.nil_append] at hown
    clear hg
    go_wp2
    go_ret
    exact ⟨_, rfl, hown, hb2⟩

set_option maxHeartbeats 1000000 in
theorem CloneH_any (ad : Option Addr) (n c : Nat) (xs : List Hn) (w : World) (hs : SlG hnL w ad xs) (hn : n = xs.length) (hl : xs.length < 68719476736) :
    Calls Tryz.prog 53 #[.slice ad n c] w (RetG hnL w 134 xs) := by
  subst hn
  rcases ad with _ | ad
  · have hx : xs = [] := by
      rcases Nat.eq_zero_or_pos xs.length with h | h
      · exact List.eq_nil_of_length_eq_zero h
      · obtain ⟨_, _, h, _⟩ := hs h
        cases h
    subst hx
    have hn := fun W : World => Lib.run_eql_slice_nil (P := Tryz.prog) W 45 134 none 0 c 0 0 Tryz.underlying45
    go_enter Tryz.func53, Tryz.ntmps53
    go_wp2
    go_ret
    exact ⟨_, rfl, OwnG.nil _ _ _ _, Below.refl _ _⟩
  · have hn := fun W : World => Lib.run_eql_slice_nil (P := Tryz.prog) W 45 134 (some ad) xs.length c 0 0 Tryz.underlying45
    go_enter Tryz.func53, Tryz.ntmps53
    go_wp2_with (at_builtin; refine wpList_appG _ hnL [] xs rfl _ _ 45 rfl w.heap.size 134 _ _ Tryz.underlying45 Tryz.infoHn rfl (by decide) _ c xs.length (some ad) rfl rfl rfl (OwnG.empty (Nat.le_refl _)) (hs.alloc _) (by simp; omega) (by simp) ?_; intro v' w' hown hg; refine Hold.mk ?_)
    refine Hold.go ?_
    have hb2 : Below w.heap.size w w' := hg.belowG ((Below.refl _ _).alloc (Nat.le_refl _) _) (OwnG.empty (L := hnL) (base := w.heap.size) (Nat.le_refl _)) (Nat.le_refl _) (by simp)
    rw [List.nil_append] at hown
    clear hg
    go_wp2
    go_ret
    exact ⟨_, rfl, hown, hb2⟩

/-- A copy of a linear combination. -/
theorem CloneT_any (s : Lc) (w : World) (h : LcOk w s) (hl : s.l.length < 68719476736) : Calls Tryz.prog 52 #[.slice s.ad s.l.length s.cap] w (RetLn w s.l) :=
  (CloneL_any s.ad s.l.length s.cap s.l w h.sl.slg rfl hl).mono fun e w' ⟨v, he, hown, hb⟩ => by
    obtain ⟨s', h1, h2, h3⟩ := hown.lin h.wl
    exact ⟨s', by rw [he, h1], hide h2, h3, hb⟩

/-- The same, with where the copy lies. -/
theorem CloneF_any (s : Lc) (w : World) (h : LcOk w s) (hl : s.l.length < 68719476736) : Calls Tryz.prog 52 #[.slice s.ad s.l.length s.cap] w fun e w' => ∃ s' : Lc, e = .returned (.slice s'.ad s'.l.length s'.cap) ∧ Hid (s'.l = s.l) ∧ LinT w' s' ∧ Below w.heap.size w w' ∧ Hid (∀ a, s'.ad = some a → w.heap.size ≤ a.block) :=
  (CloneL_any s.ad s.l.length s.cap s.l w h.sl.slg rfl hl).mono fun e w' ⟨v, he, hown, hb⟩ => by
    obtain ⟨s', h1, h2, h3⟩ := hown.lin h.wl
    refine ⟨s', by rw [he, h1], hide h2, h3, hb, hide fun a ha => ?_⟩
    exact (hown.lt (b := a.block) (by rw [h1, ha]; rfl)).1

/-- make([]T, l, c) of elements of several cells. -/
theorem run_mkG {α : Type} (L : Lay α) {P : Program} {t e : TypeId} {z : Value} {bytes : Nat} (ht : P.underlying t = some (.slice e)) (hinfo : (P.info? e).map (fun i => (i.zero, i.size, i.bytes)) = some (some z, L.m, bytes)) (h8 : bytes ≤ 128) {N C : Int} (l c : Nat) (hN : N = l) (hC : C = c) (hlc : l ≤ c) (hc : c < 1073741824) (w : World) :
    (Instr.makeSlice t (.int .i64 N) (.int .i64 C)).run P w = .ok (.slice (some ⟨w.heap.size, 0, none⟩) l c) (w.alloc (.cells (madeCells z.cells (c * L.m)) e)) := by
  subst hN hC
  obtain ⟨i, hi, hz, hsz, hby⟩ := info_partsG hinfo
  have hb : (i.bytes : Int) * (c : Int) ≤ 281474976710656 := by
    rw [hby]
    have : bytes * c ≤ 128 * c := Nat.mul_le_mul_right _ h8
    have h : ((bytes * c : Nat) : Int) ≤ 281474976710656 := by omega
    rwa [Int.natCast_mul] at h
  have hr := run_make (P := P) w t e i z ht hi hz .i64 .i64 l c (by omega) (by omega) hb (by omega)
  simp only [Int.toNat_natCast, hsz] at hr
  exact hr
theorem OwnG.made0 {α : Type} {L : Lay α} {w : World} {base cap : Nat} {E : TypeId} {cs : Array Value} (hb : base ≤ w.heap.size) (hm : cap ≤ maxLen) : OwnG L (w.alloc (.cells (madeCells cs (cap * L.m)) E)) base E (.slice (some ⟨w.heap.size, 0, none⟩) 0 cap) [] :=
  OwnG.of_blk (xs := []) hb (Blk.new _ _ _) (by simp) hm (by simp [madeCells]) (by simp)

theorem ret_bool' {a b : Bool} (h : a = b) : Ending.returned (.bool a) = .returned (.bool b) := by rw [h]
theorem linOk_stop {p n : Int} {L : List (Int × Int)} {k : Nat} (hk : k < L.length) (h : ¬ linAt p n L k) : linOk p n L = false := by
  unfold linOk
  exact decide_eq_false fun hh => h (hh k hk)
theorem linOk_all {p n : Int} {L : List (Int × Int)} (h : ∀ k, k < L.length → linAt p n L k) : linOk p n L = true := by
  unfold linOk
  exact decide_eq_true h

/-- What the walk of a loop over terms keeps. -/
def LinUpTo (p n : Int) (L : List (Int × Int)) (k : Nat) (lst : Int) : Prop := (∀ j, j < k → linAt p n L j) ∧ (k = 0 → lst = -1) ∧ (0 < k → lst = (L.getD (k - 1) (0, 0)).1)
theorem LinUpTo.zero (p n : Int) (L : List (Int × Int)) : LinUpTo p n L 0 (-1) := ⟨fun j hj => by omega, fun _ => rfl, fun h => by omega⟩
theorem LinUpTo.lo {p n : Int} {L : List (Int × Int)} {k : Nat} {lst : Int} (h : LinUpTo p n L k lst) : -1 ≤ lst := by
  rcases Nat.eq_zero_or_pos k with h0 | h0
  · rw [h.2.1 h0]; omega
  · rw [h.2.2 h0]; have := (h.1 (k - 1) (by omega)).1; omega
theorem LinUpTo.at_ {p n : Int} {L : List (Int × Int)} {k : Nat} {lst : Int} (h : LinUpTo p n L k lst) : linAt p n L k ↔ lst < (L.getD k (0, 0)).1 ∧ (L.getD k (0, 0)).1 < n ∧ (L.getD k (0, 0)).2 ≠ 0 ∧ (L.getD k (0, 0)).2 < p := by
  have hlo := h.lo
  unfold linAt
  rcases Nat.eq_zero_or_pos k with h0 | h0
  · have := h.2.1 h0
    constructor
    · rintro ⟨⟨h1, h2⟩, _, h3, h4⟩; exact ⟨by omega, h2, h3, h4⟩
    · rintro ⟨h1, h2, h3, h4⟩; exact ⟨⟨by omega, h2⟩, fun h => by omega, h3, h4⟩
  · have := h.2.2 h0
    constructor
    · rintro ⟨⟨h1, h2⟩, h5, h3, h4⟩; have := h5 h0; exact ⟨by omega, h2, h3, h4⟩
    · rintro ⟨h1, h2, h3, h4⟩; exact ⟨⟨by omega, h2⟩, fun _ => by omega, h3, h4⟩
theorem LinUpTo.next {p n : Int} {L : List (Int × Int)} {k : Nat} {lst : Int} (h : LinUpTo p n L k lst) (h1 : linAt p n L k) : LinUpTo p n L (k + 1) (L.getD k (0, 0)).1 :=
  ⟨fun j hj => by
    rcases Nat.lt_or_ge j k with h2 | h2
    · exact h.1 j h2
    · have : j = k := by omega
      subst this; exact h1, fun h => by omega, fun _ => by rw [Nat.add_sub_cancel]⟩
theorem LinUpTo.all {p n : Int} {L : List (Int × Int)} {lst : Int} (h : LinUpTo p n L L.length lst) : linOk p n L = true := linOk_all h.1

theorem wf_i {x : Int} (h : (Lit.int .i64 x).wf = true) : -9223372036854775808 ≤ x ∧ x ≤ 9223372036854775807 := by
  simp [Lit.wf, IntKind.min, IntKind.max, IntKind.signed, IntKind.bits] at h
  omega
theorem LinS.get {w : World} {a : Option Addr} {L : List (Int × Int)} (h : LinS w a L) {k : Nat} (hk : k < L.length) : ∃ b off, a = some ⟨b, off, none⟩ ∧ b < w.heap.size ∧ w.cell? ⟨b, off + k * 2, none⟩ = some (.int .i64 (L.getD k (0, 0)).1) ∧ w.cell? ⟨b, off + k * 2 + 1, none⟩ = some (.int .u64 (L.getD k (0, 0)).2) := by
  obtain ⟨b, off, e, hl, hc⟩ := h (by omega)
  exact ⟨b, off, e, hl, (hc k hk).1, (hc k hk).2⟩
theorem LinW.get {L : List (Int × Int)} (h : LinW L) {k : Nat} (hk : k < L.length) : (-9223372036854775808 ≤ (L.getD k (0, 0)).1 ∧ (L.getD k (0, 0)).1 ≤ 9223372036854775807) ∧ 0 ≤ (L.getD k (0, 0)).2 ∧ (L.getD k (0, 0)).2 < 18446744073709551616 := by
  have := h _ (getD_mem' hk (0, 0))
  exact ⟨wf_i this.1, wf_u64 this.2⟩

theorem lc_len {w : World} {s : Lc} (h : LcOk w s) : s.l.length ≤ 9223372036854775807 := by
  have h1 := h.le
  have h2 := h.mx
  simp only [maxLen] at h2
  omega
theorem wrap_succ {k n : Nat} (hk : k < n) (hn : n ≤ 9223372036854775807) : wrap64 ((k : Int) + 1) = (k : Int) + 1 := by
  unfold wrap64; omega
theorem meas_succ {k n : Nat} (hk : k < n) (hn : n ≤ 9223372036854775807) : n - (intOf (.int .i64 (wrap64 ((k : Int) + 1)))).toNat < n - (intOf (.int .i64 (k : Int))).toNat := by
  rw [wrap_succ hk hn]
  simp only [intOf]
  omega
theorem rel_succ {k n : Nat} (hk : k < n) (hn : n ≤ 9223372036854775807) : Value.int .i64 (wrap64 ((k : Int) + 1)) = .int .i64 ((k + 1 : Nat) : Int) := by
  rw [wrap_succ hk hn]
  rfl

set_option maxHeartbeats 1600000 in
theorem aLinear_any (p n : Int) (s : Lc) (w : World) (hs : LcOk w s) :
    Calls Tryz.prog 168 #[.slice s.ad s.l.length s.cap, .int .i64 n, .int .u64 p] w fun e w' => e = .returned (.bool (linOk p n s.l)) ∧ Below w.heap.size w w' := by
  obtain ⟨a, cap, L⟩ := s
  have hl := hs.sl
  have hw := hs.wl
  have hle := hide (lc_len hs)
  clear hs
  simp only at hl hw ⊢
  go_enter Tryz.func168, Tryz.ntmps168
  go_wp2
  go_loopw [12, 7] (fun t12 t7 wr => ∃ (k : Nat) (lst : Int), k ≤ L.length ∧ t12 = .int .i64 k ∧ t7 = .int .i64 lst ∧ Below w.heap.size w wr ∧ LinUpTo p n L k lst) (fun t12 _ _ => L.length - (intOf t12).toNat)
  case atStart => exact ⟨0, -1, Nat.zero_le _, rfl, rfl, Below.refl _ _, .zero _ _ _⟩
  case round =>
    obtain ⟨k, lst, hk, rfl, rfl, hB, hU⟩ := hrel
    by_cases hlt : k < L.length
    · have hlt' : (k : Int) < L.length := by omega
      obtain ⟨b, off, rfl, _, hc0, hc1⟩ := (hl.mono hB).get hlt
      have hW := hw.get hlt
      have hst := hide (fun h => linOk_stop (p := p) (n := n) hlt h)
      have hat := hide hU.at_
      have hnx := hide (fun h => hU.next h)
      generalize L.getD k (0, 0) = t at *
      obtain ⟨v, c⟩ := t
      simp only at hc0 hc1 hW hat hnx
      have hBa := hB.alloc hB.size (.cells #[.int .i64 v, .int .u64 c] 131)
      clear hU hl hw
      by_cases h1 : v ≤ lst
      · have hR := hide (hst.out fun h => by have := (hat.out.1 h).1; omega)
        clear hst hat hnx
        go_wp2
        go_ret
        exact ⟨ret_bool' hR.out.symm, hBa⟩
      by_cases h2 : n ≤ v
      · have hR := hide (hst.out fun h => by have := (hat.out.1 h).2.1; omega)
        clear hst hat hnx
        go_wp2
        go_ret
        exact ⟨ret_bool' hR.out.symm, hBa⟩
      by_cases h3 : c = 0
      · have hR := hide (hst.out fun h => (hat.out.1 h).2.2.1 h3)
        have h3' : (c == 0) = true := by simp [h3]
        replace h3 := hide h3
        clear hst hat hnx
        go_wp2
        go_ret
        exact ⟨ret_bool' hR.out.symm, hBa⟩
      have h3' : (c == 0) = false := by simpa using h3
      by_cases h4 : p ≤ c
      · have hR := hide (hst.out fun h => by have := (hat.out.1 h).2.2.2; omega)
        clear hst hat hnx
        go_wp2
        go_ret
        exact ⟨ret_bool' hR.out.symm, hBa⟩
      have hN := hide (hnx.out (hat.out.2 ⟨by omega, by omega, h3, by omega⟩))
      clear hst hat hnx
      go_wp2
      go_roundw
      case rel => exact ⟨k + 1, v, by omega, rel_succ hlt hle.out, rfl, hBa, hN.out⟩
      case measure => exact meas_succ hlt hle.out
    · obtain rfl : k = L.length := by omega
      have hR := hide hU.all
      clear hU
      go_wp2
      go_ret
      exact ⟨ret_bool' hR.out.symm, hB⟩
end Go.Proofs.YtalmgeefkcebdaaGreatDoor

