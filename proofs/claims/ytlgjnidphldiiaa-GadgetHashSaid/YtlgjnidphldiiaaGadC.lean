/- Gadgets: the program's linear combinations: term, Constant, variable, Clone, Clip. -/
import Derived.Test.YtlgjnidphldiiaaGadB
import Derived.Test.YtlgjnidphldiiaaCircM
import Derived.Test.YtlgjnidphldiiaaRef1b
namespace Go.Proofs.Ytlgjnidphldiiaa
open Go.RowKit

/-- A call that returns a linear combination of a block of its own. -/
def RetLn (w : World) (L : Lin) (e : Ending) (w' : World) : Prop := ∃ s : Lc, e = .returned (.slice s.ad s.l.length s.cap) ∧ Hid (s.l = L) ∧ LinT w' s ∧ Below w.heap.size w w'
theorem RetLn.nil (w : World) {w' : World} (hb : Below w.heap.size w w') : RetLn w [] (.returned (.slice none 0 0)) w' := ⟨⟨none, 0, []⟩, rfl, hide rfl, LinT.nil _, hb⟩
theorem wfI {k : Int} (h : -9223372036854775808 ≤ k ∧ k ≤ 9223372036854775807) : (Lit.int .i64 k).wf = true := by
  simp [Lit.wf, IntKind.min, IntKind.max, IntKind.signed, IntKind.bits]; omega
theorem wfU {k : Int} (h : 0 ≤ k ∧ k < 18446744073709551616) : (Lit.int .u64 k).wf = true := by
  simp [Lit.wf, IntKind.min, IntKind.max, IntKind.signed, IntKind.bits]; omega
theorem LinT.one {w : World} {b : Nat} {v c : Int} (g : Blk w b #[.int .i64 v, .int .u64 c] 100) (hv : (Lit.int .i64 v).wf = true) (hc : (Lit.int .u64 c).wf = true) : LinT w ⟨some ⟨b, 0, none⟩, 1, [(v, c)]⟩ :=
  ⟨⟨fun _ => ⟨b, 0, rfl, g.lt, fun i hi => by
    have : i = 0 := by simpa using hi
    subst this
    exact ⟨g.cell (j := 0) rfl, g.cell (j := 1) rfl⟩⟩, fun t ht => by
    rw [List.mem_singleton] at ht; subst ht; exact ⟨hv, hc⟩, by simp, by simp [maxLen]⟩, fun _ => ⟨b, 0, _, rfl, g⟩⟩

/-- A slice of terms of the call's own, as a linear combination. -/
theorem OwnG.lin {w : World} {base : Nat} {v : Value} {L : Lin} (h : OwnG tmL w base 100 v L) (hw : LinW L) : ∃ s : Lc, v = .slice s.ad s.l.length s.cap ∧ s.l = L ∧ LinT w s := by
  obtain ⟨ad, c, rfl, hs, h1, h2, _⟩ := h.sl
  refine ⟨⟨ad, c, L⟩, rfl, rfl, ⟨⟨LinS.of_slg hs, hw, h1, h2⟩, fun h0 => ?_⟩⟩
  rcases h.form with ⟨_, e⟩ | ⟨g, cap, cur, e, _, gb, _⟩
  · exact absurd e h0
  · cases e
    exact ⟨g, 0, cur, rfl, gb⟩

set_option maxHeartbeats 1000000 in
theorem term_any (p v n : Int) (w : World) (hv : (Lit.int .i64 v).wf = true) (hn : 0 ≤ n ∧ n < 18446744073709551616) :
    Calls Try.prog 75 #[.int .u64 p, .int .i64 v, .int .u64 n] w (RetLn w (keepT (v, fred p n))) := by
  have cR := Reduce_any p n w hn.1 hn.2
  have hb := fred_bd p n
  generalize fred p n = m at *
  by_cases h0 : m = 0
  · subst h0
    clear hb
    go_enter Try.func75, Try.ntmps75
    go_wp2_with fail
    refine cR.mono ?_
    rintro e w1 ⟨rfl, hb1⟩
    go_wp2
    go_ret
    exact RetLn.nil w hb1
  · have hz : (m == 0) = false := by simpa using h0
    have hk : keepT (v, m) = [(v, m)] := by unfold keepT; rw [if_neg h0]
    rw [hk]
    have hm : (Lit.int .u64 m).wf = true := wfU hb
    replace h0 := hide h0
    clear hk hb
    go_enter Try.func75, Try.ntmps75
    go_wp2_with fail
    refine cR.mono ?_
    rintro e w1 ⟨rfl, hb1⟩
    replace hv := hide hv
    replace hm := hide hm
    go_wp2
    go_ret
    exact ⟨⟨some ⟨w1.heap.size, 0, none⟩, 1, [(v, m)]⟩, rfl, hide rfl, LinT.one (Blk.newAt rfl) hv.out hm.out, hb1.alloc hb1.size _⟩

set_option maxHeartbeats 1000000 in
theorem Constant20_any (p n : Int) (w : World) (hn : 0 ≤ n ∧ n < 18446744073709551616) :
    Calls Try.prog 24 #[.int .u64 p, .int .u64 n] w (RetLn w (keepT (0, fred p n))) := by
  have cT := term_any p 0 n w (by decide) hn
  go_enter Try.func24, Try.ntmps24
  go_wp2_with fail
  refine cT.mono ?_
  rintro e w1 ⟨s, rfl, hs, hl, hb⟩
  go_wp2
  go_ret
  exact ⟨s, rfl, hs, hl, hb⟩

theorem fred_one {p : Int} (hv : vld p = true) : fred p 1 = 1 := by
  have hp := vld_pos hv
  unfold fred
  rw [if_pos hv, Int.emod_eq_of_lt (by omega) (by omega)]

set_option maxHeartbeats 1000000 in
theorem variable20_any (b : Nat) (cs : Array Value) (T : TypeId) (p v : Int) (w : World) (g : Blk w b cs T) (h0 : cs[0]? = some (.int .u64 p)) (hp : vld p = true) (hv : (Lit.int .i64 v).wf = true) :
    Calls Try.prog 72 #[.pointer (some ⟨b, 0, none⟩), .int .i64 v] w (RetLn w [(v, 1)]) := by
  have cT := term_any p v 1 w hv (by decide)
  rw [fred_one hp, show keepT (v, 1) = [(v, 1)] from rfl] at cT
  have c0 := g.cell (j := 0) h0
  replace hv := hide hv
  go_enter Try.func72, Try.ntmps72
  go_wp2_with fail
  refine cT.mono ?_
  rintro e w1 ⟨s, rfl, hs, hl, hb⟩
  go_wp2
  go_ret
  exact ⟨s, rfl, hs, hl, hb⟩

set_option maxHeartbeats 1000000 in
theorem one_any (b : Nat) (cs : Array Value) (T : TypeId) (p : Int) (w : World) (g : Blk w b cs T) (h0 : cs[0]? = some (.int .u64 p)) (hp : vld p = true) :
    Calls Try.prog 99 #[.pointer (some ⟨b, 0, none⟩)] w (RetLn w [(0, 1)]) := by
  have cT := variable20_any b cs T p 0 w g h0 hp (by decide)
  go_enter Try.func99, Try.ntmps99
  go_wp2_with fail
  refine cT.mono ?_
  rintro e w1 ⟨s, rfl, hs, hl, hb⟩
  go_wp2
  go_ret
  exact ⟨s, rfl, hs, hl, hb⟩

/-- A call that returns a slice of its own. -/
def RetG {α : Type} (L : Lay α) (w : World) (E : TypeId) (xs : List α) (e : Ending) (w' : World) : Prop := ∃ v, e = .returned v ∧ OwnG L w' w.heap.size E v xs ∧ Below w.heap.size w w'

set_option maxHeartbeats 1000000 in
theorem CloneL_any (ad : Option Addr) (n c : Nat) (xs : List (Int × Int)) (w : World) (hs : SlG tmL w ad xs) (hn : n = xs.length) (hl : xs.length < 68719476736) :
    Calls Try.prog 70 #[.slice ad n c] w (RetG tmL w 100 xs) := by
  subst hn
  rcases ad with _ | ad
  · have hx : xs = [] := by
      rcases Nat.eq_zero_or_pos xs.length with h | h
      · exact List.eq_nil_of_length_eq_zero h
      · obtain ⟨_, _, h, _⟩ := hs h
        cases h
    subst hx
    have hn := fun W : World => Lib.run_eql_slice_nil (P := Try.prog) W 44 100 none 0 c 0 0 Try.underlying44
    go_enter Try.func70, Try.ntmps70
    go_wp2
    go_ret
    exact ⟨_, rfl, OwnG.nil _ _ _ _, Below.refl _ _⟩
  · have hn := fun W : World => Lib.run_eql_slice_nil (P := Try.prog) W 44 100 (some ad) xs.length c 0 0 Try.underlying44
    go_enter Try.func70, Try.ntmps70
    go_wp2_with (at_builtin; refine wpList_appG _ tmL [] xs rfl _ _ 44 rfl w.heap.size 100 _ _ Try.underlying44 Try.infoTm rfl (by decide) _ c xs.length (some ad) rfl rfl rfl (OwnG.empty (Nat.le_refl _)) (hs.alloc _) (by simp; omega) (by simp) ?_; intro v' w' hown hg; refine Hold.mk ?_)
    refine Hold.go ?_
    have hb2 : Below w.heap.size w w' := hg.belowG ((Below.refl _ _).alloc (Nat.le_refl _) _) (OwnG.empty (L := tmL) (base := w.heap.size) (Nat.le_refl _)) (Nat.le_refl _) (by simp)
    rw [List.nil_append] at hown
    clear hg
    go_wp2
    go_ret
    exact ⟨_, rfl, hown, hb2⟩

set_option maxHeartbeats 1000000 in
theorem CloneR_any (ad : Option Addr) (n c : Nat) (xs : List Rw) (w : World) (hs : SlG rwL w ad xs) (hn : n = xs.length) (hl : xs.length < 68719476736) :
    Calls Try.prog 69 #[.slice ad n c] w (RetG rwL w 106 xs) := by
  subst hn
  rcases ad with _ | ad
  · have hx : xs = [] := by
      rcases Nat.eq_zero_or_pos xs.length with h | h
      · exact List.eq_nil_of_length_eq_zero h
      · obtain ⟨_, _, h, _⟩ := hs h
        cases h
    subst hx
    have hn := fun W : World => Lib.run_eql_slice_nil (P := Try.prog) W 32 106 none 0 c 0 0 Try.underlying32
    go_enter Try.func69, Try.ntmps69
    go_wp2
    go_ret
    exact ⟨_, rfl, OwnG.nil _ _ _ _, Below.refl _ _⟩
  · have hn := fun W : World => Lib.run_eql_slice_nil (P := Try.prog) W 32 106 (some ad) xs.length c 0 0 Try.underlying32
    go_enter Try.func69, Try.ntmps69
    go_wp2_with (at_builtin; refine wpList_appG _ rwL [] xs rfl _ _ 32 rfl w.heap.size 106 _ _ Try.underlying32 Try.infoRw rfl (by decide) _ c xs.length (some ad) rfl rfl rfl (OwnG.empty (Nat.le_refl _)) (hs.alloc _) (by simp; omega) (by simp) ?_; intro v' w' hown hg; refine Hold.mk ?_)
    refine Hold.go ?_
    have hb2 : Below w.heap.size w w' := hg.belowG ((Below.refl _ _).alloc (Nat.le_refl _) _) (OwnG.empty (L := rwL) (base := w.heap.size) (Nat.le_refl _)) (Nat.le_refl _) (by simp)
    rw [List.nil_append] at hown
    clear hg
    go_wp2
    go_ret
    exact ⟨_, rfl, hown, hb2⟩

set_option maxHeartbeats 1000000 in
theorem CloneH_any (ad : Option Addr) (n c : Nat) (xs : List Hn) (w : World) (hs : SlG hnL w ad xs) (hn : n = xs.length) (hl : xs.length < 68719476736) :
    Calls Try.prog 71 #[.slice ad n c] w (RetG hnL w 108 xs) := by
  subst hn
  rcases ad with _ | ad
  · have hx : xs = [] := by
      rcases Nat.eq_zero_or_pos xs.length with h | h
      · exact List.eq_nil_of_length_eq_zero h
      · obtain ⟨_, _, h, _⟩ := hs h
        cases h
    subst hx
    have hn := fun W : World => Lib.run_eql_slice_nil (P := Try.prog) W 35 108 none 0 c 0 0 Try.underlying35
    go_enter Try.func71, Try.ntmps71
    go_wp2
    go_ret
    exact ⟨_, rfl, OwnG.nil _ _ _ _, Below.refl _ _⟩
  · have hn := fun W : World => Lib.run_eql_slice_nil (P := Try.prog) W 35 108 (some ad) xs.length c 0 0 Try.underlying35
    go_enter Try.func71, Try.ntmps71
    go_wp2_with (at_builtin; refine wpList_appG _ hnL [] xs rfl _ _ 35 rfl w.heap.size 108 _ _ Try.underlying35 Try.infoHn rfl (by decide) _ c xs.length (some ad) rfl rfl rfl (OwnG.empty (Nat.le_refl _)) (hs.alloc _) (by simp; omega) (by simp) ?_; intro v' w' hown hg; refine Hold.mk ?_)
    refine Hold.go ?_
    have hb2 : Below w.heap.size w w' := hg.belowG ((Below.refl _ _).alloc (Nat.le_refl _) _) (OwnG.empty (L := hnL) (base := w.heap.size) (Nat.le_refl _)) (Nat.le_refl _) (by simp)
    rw [List.nil_append] at hown
    clear hg
    go_wp2
    go_ret
    exact ⟨_, rfl, hown, hb2⟩

/-- A copy of a linear combination. -/
theorem CloneT_any (s : Lc) (w : World) (h : LcOk w s) (hl : s.l.length < 68719476736) : Calls Try.prog 70 #[.slice s.ad s.l.length s.cap] w (RetLn w s.l) :=
  (CloneL_any s.ad s.l.length s.cap s.l w h.sl.slg rfl hl).mono fun e w' ⟨v, he, hown, hb⟩ => by
    obtain ⟨s', h1, h2, h3⟩ := hown.lin h.wl
    exact ⟨s', by rw [he, h1], hide h2, h3, hb⟩

/-- The same, with where the copy lies. -/
theorem CloneF_any (s : Lc) (w : World) (h : LcOk w s) (hl : s.l.length < 68719476736) : Calls Try.prog 70 #[.slice s.ad s.l.length s.cap] w fun e w' => ∃ s' : Lc, e = .returned (.slice s'.ad s'.l.length s'.cap) ∧ Hid (s'.l = s.l) ∧ LinT w' s' ∧ Below w.heap.size w w' ∧ Hid (∀ a, s'.ad = some a → w.heap.size ≤ a.block) :=
  (CloneL_any s.ad s.l.length s.cap s.l w h.sl.slg rfl hl).mono fun e w' ⟨v, he, hown, hb⟩ => by
    obtain ⟨s', h1, h2, h3⟩ := hown.lin h.wl
    refine ⟨s', by rw [he, h1], hide h2, h3, hb, hide fun a ha => ?_⟩
    exact (hown.lt (b := a.block) (by rw [h1, ha]; rfl)).1

/-- make([]T, l, c) of elements of several cells. -/
theorem run_mkG {α : Type} (L : Lay α) {P : Program} {t e : TypeId} {z : Value} {bytes : Nat} (ht : P.underlying t = some (.slice e)) (hinfo : (P.info? e).map (fun i => (i.zero, i.size, i.bytes)) = some (some z, L.m, bytes)) (h8 : bytes ≤ 128) {N C : Int} (l c : Nat) (hN : N = l) (hC : C = c) (hlc : l ≤ c) (hc : c < 1073741824) (w : World) :
    (Instr.makeSlice t (.int .i64 N) (.int .i64 C)).run P w = .ok (.slice (some ⟨w.heap.size, 0, none⟩) l c) (w.alloc (.cells (madeCells z.cells (c * L.m)) e)) := by
  subst hN hC
  obtain ⟨i, hi, hz, hsz, hby⟩ := info_partsG hinfo
  have hb : (i.bytes : Int) * (c : Int) ≤ 281474976710656 := by
    rw [hby]
    have : bytes * c ≤ 128 * c := Nat.mul_le_mul_right _ h8
    have h : ((bytes * c : Nat) : Int) ≤ 281474976710656 := by omega
    rwa [Int.natCast_mul] at h
  have hr := run_make (P := P) w t e i z ht hi hz .i64 .i64 l c (by omega) (by omega) hb (by omega)
  simp only [Int.toNat_natCast, hsz] at hr
  exact hr
theorem OwnG.made0 {α : Type} {L : Lay α} {w : World} {base cap : Nat} {E : TypeId} {cs : Array Value} (hb : base ≤ w.heap.size) (hm : cap ≤ maxLen) : OwnG L (w.alloc (.cells (madeCells cs (cap * L.m)) E)) base E (.slice (some ⟨w.heap.size, 0, none⟩) 0 cap) [] :=
  OwnG.of_blk (xs := []) hb (Blk.new _ _ _) (by simp) hm (by simp [madeCells]) (by simp)
end Go.Proofs.Ytlgjnidphldiiaa
