/- Gadgets: a row is added to a builder. -/
import Derived.Test.YtlgjnidphldiiaaGadE
import Derived.Deep.RegionLaw
import Derived.Deep.RegionHeld3
import Derived.Deep.AppendLies
namespace Go.Proofs.Ytlgjnidphldiiaa
open Go.RowKit

/-- append of one element, at a step of a region that draws. -/
theorem step_appG {P : Program} {w : World} {ops : Array Oper} {o : Oper} {a : Act} {K : Act → World → Prop} {Q : Exit → Act → World → Prop} {E : Prop} {α : Type} (L : Lay α) (T : TypeId) (y : α) (hgd : o.guard = none) (s x : Operand) (t : TypeId)
    (ho : o.op = .call { callee := .builtin .append, args := #[s, x], argTypes := #[t, t] })
    (base bytes : Nat) (z : Value) (ht : P.underlying t = some (.slice T)) (hinfo : (P.info? T).map (fun i => (i.zero, i.size, i.bytes)) = some (some z, L.m, bytes)) (hz : z.cells.size = L.m) (h8 : bytes ≤ 128)
    (v : Value) (xs : List α) (hs : a.eval s = v) (hown : OwnG L w base T v xs) (q : Nat) (hx : a.eval x = .slice (some ⟨q, 0, none⟩) 1 1) (cs : Array Value) (hc : Blk w q cs T) (hcs : cs.toList = L.f y) (hlen : xs.length < 1073741823) (hbase : base ≤ w.heap.size)
    (h : ∀ v' w', OwnG L w' base T v' (xs ++ [y]) → Grew w w' v v' → K (a.put o.dst v') w') :
    if Region.wanted o (yielded ops a.tmps) = true then Oper.wp P o a w K Q else E := by
  obtain ⟨i, hi, hzi, hsz, hby⟩ := info_partsG hinfo
  refine step_append_lies w hgd s x t ho base T i z L.m bytes ht hi hzi hsz hby hz L.pos v xs.length _ hs hown ⟨q, 0, none⟩ 1 1 (L.f y) hx (by rw [L.len, Nat.one_mul]) (fun j u hu => ?_) (L.one y) (by omega) (by simp only [maxLen]; omega) ?_ hbase _ rfl fun g cap w' h1 h2 h3 _ => ?_
  · rw [addr_add0, Nat.zero_add]
    refine hc.cell ?_
    rw [← hcs] at hu
    simpa using hu
  · have : (xs.length + 1) * bytes ≤ (xs.length + 1) * 128 := Nat.mul_le_mul_left _ h8
    omega
  · refine h _ _ ?_ (.of h2 ?_)
    · unfold OwnG
      rw [List.length_append, List.flatMap_append, List.flatMap_cons, List.flatMap_nil, List.append_nil]
      exact h1
    · rcases h3 with h3 | h3
      · exact .inl h3.symm
      · exact .inr (by rw [h3]; rfl)

theorem blk_type {w : World} {b : Nat} {cs cs' : Array Value} {T T' : TypeId} (h : Blk w b cs T) (h' : Blk w b cs' T') : T = T' := by
  have := h.symm.trans h'
  injection this with this
  injection this with _ this
theorem Kept.setB {w : World} {base b j : Nat} {cs : Array Value} {u : Value} (g : Blk w b cs 104) (hb : base ≤ b) : Kept base w (w.setCell ⟨b, j, none⟩ u) :=
  ⟨(Below.refl _ _).setCell hb _, fun q cs' T' g' _ _ h3 => g'.other (fun e => by subst e; exact h3 (blk_type g' g)) _ _⟩
theorem Kept.grewG {α : Type} {L : Lay α} {w w' : World} {base : Nat} {T : TypeId} {v v' : Value} {xs : List α} (ho : OwnG L w base T v xs) (hg : Grew w w' v v') (hT : T = 106 ∨ T = 108) (hb : base ≤ w.heap.size) : Kept base w w' :=
  ⟨hg.belowG (Below.refl _ _) ho (Nat.le_refl _) hb, fun q cs' T' g' h1 h2 _ => hg.blk g' (ho.neq g' (fun e => by rcases hT with h | h <;> rw [h] at e <;> first | exact h1 e.symm | exact h2 e.symm))⟩
theorem OwnG.grewT {α β : Type} {L : Lay α} {M : Lay β} {w w' : World} {base : Nat} {T U : TypeId} {v v' u : Value} {xs : List α} {ys : List β} (hu : OwnG M w base U u ys) (ho : OwnG L w base T v xs) (hg : Grew w w' v v') (hT : ¬ T = U) : OwnG M w' base U u ys := by
  rcases hu.form with ⟨rfl, rfl⟩ | ⟨g, cap, cur, rfl, h1, h2, h3, h4, h5, h6⟩
  · exact OwnG.nil _ _ _ _
  · exact OwnG.of_blk h1 (hg.blk h2 (ho.neq h2 hT)) h3 h4 h5 h6

theorem BS.addRow {w w' : World} {base b : Nat} {S : St} {vr vr' vh : Value} {R : List Rw} {H : List Hn} {r : Rw} {A : Nat → Prop} (h : BS w base b S vr R vh H A) (hg : Grew w w' vr vr') (ho : OwnG rwL w' base 106 vr' (R ++ [r])) (hr : LinT w r.a ∧ LinT w r.b ∧ LinT w r.c) (hav : Av A r.a ∧ Av A r.b ∧ Av A r.c) :
    BS (w'.setCell ⟨b, 4, none⟩ vr') base b { S with R := S.R ++ [r.val] } vr' (R ++ [r]) vh H A ∧ Kept base w (w'.setCell ⟨b, 4, none⟩ vr') := by
  have g1 := hg.blk h.blk (h.rows.neq h.blk (by decide))
  have k1 := Kept.grewG h.rows hg (.inl rfl) h.lt
  have k : Kept base w (w'.setCell ⟨b, 4, none⟩ vr') := k1.trans (Kept.setB g1 h.lo)
  refine ⟨⟨g1.set 4 vr', h.lo, ho.other (ho.neq g1 (by decide)) _, (h.hints.grewT h.rows hg (by decide)).other ((h.hints.grewT h.rows hg (by decide)).neq g1 (by decide)) _, fun q hq => ?_, fun q hq => ?_, by rw [List.map_append, h.rv]; rfl, h.hv, fun q hq => by
    rcases List.mem_append.1 hq with h1 | h1
    · exact h.rav q h1
    · rw [List.mem_singleton] at h1; subst h1; exact hav, h.hav⟩, k⟩
  · rcases List.mem_append.1 hq with h1 | h1
    · obtain ⟨i1, i2, i3⟩ := h.rok q h1
      exact ⟨k.lin i1, k.lin i2, k.lin i3⟩
    · rw [List.mem_singleton] at h1
      subst h1
      exact ⟨k.lin hr.1, k.lin hr.2.1, k.lin hr.2.2⟩
  · obtain ⟨i1, i2, i3⟩ := h.hok q hq
    exact ⟨k.lin i1, k.lin i2, i3⟩

/-- What a gadget without a result does. -/
def RetV (w : World) (base b : Nat) (S : St) (e : Ending) (w' : World) (A : Nat → Prop := fun _ => False) : Prop := e = .returned (.tuple #[]) ∧ Bld w' base b S A ∧ Kept base w w'

set_option maxRecDepth 10000 in
set_option maxHeartbeats 4000000 in
theorem row20A_any (A : Nat → Prop) (base b : Nat) (S : St) (x y z : Lc) (w : World) (h : Bld w base b S A) (hA : ∀ q, A q → q < w.heap.size) (hx : LcOk w x) (hy : LcOk w y) (hz : LcOk w z) (lx : x.l.length < 1073741823) (ly : y.l.length < 1073741823) (lz : z.l.length < 1073741823) (hS : S.R.length < 1073741823) :
    Calls Try.prog 98 #[.pointer (some ⟨b, 0, none⟩), .slice x.ad x.l.length x.cap, .slice y.ad y.l.length y.cap, .slice z.ad z.l.length z.cap] w (fun e w' => RetV w base b { S with R := S.R ++ [⟨x.l, y.l, z.l⟩] } e w' A) := by
  have hb00 : base ≤ w.heap.size := by obtain ⟨_, _, _, _, h⟩ := h; exact h.lt
  have c1 := CloneF_any x w hx (by omega)
  have c2 := fun W h => CloneF_any y W h (by omega)
  have c3 := fun W h => CloneF_any z W h (by omega)
  go_enter Try.func98, Try.ntmps98
  go_wp2_with fail
  refine c1.mono ?_
  rintro e w1 ⟨x', rfl, ex, hx', hb1, fx⟩
  go_wp2_with fail
  refine (c2 w1 (hy.mono hb1)).mono ?_
  rintro e w2 ⟨y', rfl, ey, hy', hb2, fy⟩
  replace hx' := hx'.mono hb2
  have hz2 := hide hb1.size
  replace hb1 := below2 hb1 hb2
  go_wp2_with fail
  refine (c3 w2 (hz.mono hb1)).mono ?_
  rintro e w3 ⟨z', rfl, ez, hz', hb3, fz⟩
  replace hx' := hx'.mono hb3
  replace hy' := hy'.mono hb3
  have hz3 := hide hb1.size
  replace hb1 := below2 hb1 hb3
  replace h := h.mono hb1
  clear hb2 hb3 c1 c2 c3 hx hy hz
  obtain ⟨vr, R, vh, H, h⟩ := h
  have hb0 := h.lt
  go_wp2_with fail
  refine name_world fun w4 hN => ?_
  have gT : Blk w4 w3.heap.size #[.slice x'.ad x'.l.length x'.cap, .slice y'.ad y'.l.length y'.cap, .slice z'.ad z'.l.length z'.cap] 106 := by rw [hN]; exact Blk.newAt rfl
  have hb4 : Below w3.heap.size w3 w4 := by rw [hN]; exact (Below.refl _ _).alloc (Nat.le_refl _) _
  clear hN
  replace h := h.mono hb4
  replace hx' := hx'.mono hb4
  replace hy' := hy'.mono hb4
  replace hz' := hz'.mono hb4
  replace hb1 := below2 hb1 hb4
  replace hb0 : base ≤ w4.heap.size := h.lt
  clear hb4
  obtain ⟨r, hr⟩ : ∃ r : Rw, r = ⟨x', y', z'⟩ := ⟨_, rfl⟩
  have hrl : R.length < 1073741823 := by
    have := congrArg List.length h.rv
    rw [List.length_map] at this
    omega
  have hrv : Hid (r.val = ⟨x.l, y.l, z.l⟩) := hide (by rw [hr]; unfold Rw.val; rw [ex.out, ey.out, ez.out])
  have hav : Hid (Av A r.a ∧ Av A r.b ∧ Av A r.c) := hide (by
    rw [hr]
    exact ⟨fun _ a e hq => by have := fx.out a e; have := hA _ hq; omega, fun _ a e hq => by have := fy.out a e; have := hA _ hq; have := hz2.out; omega, fun _ a e hq => by have := fz.out a e; have := hA _ hq; have := hz3.out; omega⟩)
  clear fx fy fz hz2 hz3 hA
  have hown := h.rows
  have gB := h.blk
  have c4 := gB.cell (j := 4) (v := vr) rfl
  have t0 := gT.cell (j := 0) (v := .slice x'.ad x'.l.length x'.cap) rfl
  have t1 := gT.cell (j := 1) (v := .slice y'.ad y'.l.length y'.cap) rfl
  have t2 := gT.cell (j := 2) (v := .slice z'.ad z'.l.length z'.cap) rfl
  have c4a := cell_below ((Below.refl w4.heap.size w4).alloc (Nat.le_refl _) (.cells #[.slice x'.ad x'.l.length x'.cap, .slice y'.ad y'.l.length y'.cap, .slice z'.ad z'.l.length z'.cap] 106)) c4
  clear lx ly lz hS ex ey ez
  have hnb : vr.ownBlock ≠ some b := hown.neq gB (by decide)
  go_region_law
    ((refine step_appG rwL 106 r (by rfl) _ _ 32 (by rfl) base _ _ Try.underlying32 Try.infoRw rfl (by decide) vr R (by rfl) (hown.alloc _) w4.heap.size (by rfl) _ (Blk.newAt rfl) (by rw [hr]; rfl) hrl (by simp; omega) ?_; intro v6 w6 hown6 hg; obtain ⟨a6, c6, e6, _⟩ := hown6.sl; subst e6; have gB6 := hg.blk (gB.mono ((Below.refl _ _).alloc (Nat.le_refl _) _).drew) hnb; have hfr := gB6.free 4; have hc6 := gB6.cell (j := 4) (v := vr) rfl))
  all_goals
    have hbA : Below w4.heap.size w4 (w4.alloc (.cells #[.slice x'.ad x'.l.length x'.cap, .slice y'.ad y'.l.length y'.cap, .slice z'.ad z'.l.length z'.cap] 106)).drew := ((Below.refl _ _).alloc (Nat.le_refl _) _).drew
    have hA := (h.mono hbA).addRow hg hown6 (r := r) (by rw [hr]; exact ⟨hx'.mono hbA, hy'.mono hbA, hz'.mono hbA⟩) hav.out
    rw [hrv.out, show (R ++ [r]).length = R.length + 1 by simp] at hA
    exact bodyPost_end (v := .tuple #[]) (by simp [results, Try.results98, go_sem]) rfl ⟨rfl, ⟨_, _, _, _, hA.1⟩, (Kept.of_below (below2 hb1 hbA) hb00).trans hA.2⟩
theorem row20_any (base b : Nat) (S : St) (x y z : Lc) (w : World) (h : Bld w base b S) (hx : LcOk w x) (hy : LcOk w y) (hz : LcOk w z) (lx : x.l.length < 1073741823) (ly : y.l.length < 1073741823) (lz : z.l.length < 1073741823) (hS : S.R.length < 1073741823) :
    Calls Try.prog 98 #[.pointer (some ⟨b, 0, none⟩), .slice x.ad x.l.length x.cap, .slice y.ad y.l.length y.cap, .slice z.ad z.l.length z.cap] w (RetV w base b { S with R := S.R ++ [⟨x.l, y.l, z.l⟩] }) :=
  row20A_any (fun _ => False) base b S x y z w h (fun _ hq => hq.elim) hx hy hz lx ly lz hS
end Go.Proofs.Ytlgjnidphldiiaa
