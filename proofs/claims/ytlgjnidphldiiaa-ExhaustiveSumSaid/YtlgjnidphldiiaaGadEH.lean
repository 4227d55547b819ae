/- Gadgets: Add, Sub, Scale of the program. -/
import Derived.Test.YtlgjnidphldiiaaGadD
import Derived.Deep.RegionLaw
import Derived.Deep.RegionHeld3
import Derived.Deep.AppendLies
namespace Go.Proofs.Ytlgjnidphldiiaa
open Go.RowKit

theorem combine_any (p n : Int) (x y : Lc) (w : World) (hx : LcOk w x) (hy : LcOk w y) (hl : vld p = true → x.l.length + y.l.length ≤ 100000000) (hn : 0 ≤ n ∧ n < 18446744073709551616) :
    Calls Try.prog 76 #[.int .u64 p, .slice x.ad x.l.length x.cap, .slice y.ad y.l.length y.cap, .int .u64 n] w (RetLn w (addP p x.l y.l n)) := by
  unfold addP
  cases hv : vld p with
  | true => rw [if_pos rfl]; exact combine_yes p n x y w hv hx hy (hl hv) hn
  | false => rw [if_neg (by decide)]; exact combine_no p n x y w hv

set_option maxHeartbeats 1000000 in
theorem gAdd_any (p : Int) (x y : Lc) (w : World) (hx : LcOk w x) (hy : LcOk w y) (hl : vld p = true → x.l.length + y.l.length ≤ 100000000) :
    Calls Try.prog 26 #[.int .u64 p, .slice x.ad x.l.length x.cap, .slice y.ad y.l.length y.cap] w (RetLn w (addP p x.l y.l 1)) := by
  have cT := combine_any p 1 x y w hx hy hl (by decide)
  generalize addP p x.l y.l 1 = L at *
  go_enter Try.func26, Try.ntmps26
  go_wp2_with fail
  refine cT.mono ?_
  rintro e w1 ⟨s, rfl, hs, hl, hb⟩
  go_wp2
  go_ret
  exact ⟨s, rfl, hs, hl, hb⟩

set_option maxHeartbeats 1000000 in
theorem gSub_any (p : Int) (x y : Lc) (w : World) (hx : LcOk w x) (hy : LcOk w y) (hl : vld p = true → x.l.length + y.l.length ≤ 100000000) :
    Calls Try.prog 28 #[.int .u64 p, .slice x.ad x.l.length x.cap, .slice y.ad y.l.length y.cap] w (RetLn w (addP p x.l y.l (fneg p 1))) := by
  have cN := fun W => Neg_any p 1 W (by decide) (by decide)
  have hm := fneg_bd p 1
  generalize fneg p 1 = m at *
  have cT := fun W h1 h2 => combine_any p m x y W h1 h2 hl hm
  generalize addP p x.l y.l m = L at *
  go_enter Try.func28, Try.ntmps28
  go_wp2_with fail
  refine (cN _).mono ?_
  rintro e w1 ⟨rfl, hb1⟩
  go_wp2_with fail
  refine (cT w1 (hx.mono hb1) (hy.mono hb1)).mono ?_
  rintro e w2 ⟨s, rfl, hs, hl, hb⟩
  go_wp2
  go_ret
  exact ⟨s, rfl, hs, hl, below2 hb1 hb⟩

set_option maxHeartbeats 1000000 in
theorem gScale_any (p n : Int) (x : Lc) (w : World) (hx : LcOk w x) (hl : vld p = true → x.l.length ≤ 100000000) (hn : 0 ≤ n ∧ n < 18446744073709551616) :
    Calls Try.prog 30 #[.int .u64 p, .slice x.ad x.l.length x.cap, .int .u64 n] w (RetLn w (addP p [] x.l n)) := by
  have cT := combine_any p n ⟨none, 0, []⟩ x w (LinT.nil w).ok hx (by simpa using hl) hn
  simp only [List.length_nil] at cT
  generalize addP p [] x.l n = L at *
  go_enter Try.func30, Try.ntmps30
  go_wp2_with fail
  refine cT.mono ?_
  rintro e w1 ⟨s, rfl, hs, hl, hb⟩
  go_wp2
  go_ret
  exact ⟨s, rfl, hs, hl, hb⟩

theorem fneg_one {p : Int} (hv : vld p = true) : fneg p 1 = p - 1 := by
  have hp := vld_pos hv
  unfold fneg
  rw [if_pos hv]
  rw [show -(1 : Int) = (p - 1) + p * (-1) by omega, Int.add_mul_emod_self_left, Int.emod_eq_of_lt (by omega) (by omega)]
end Go.Proofs.Ytlgjnidphldiiaa

/- Gadgets: a row is added to a builder. -/
namespace Go.Proofs.Ytlgjnidphldiiaa
open Go.RowKit

/-- append of one element, at a step of a region that draws. -/
theorem step_appG {P : Program} {w : World} {ops : Array Oper} {o : Oper} {a : Act} {K : Act → World → Prop} {Q : Exit → Act → World → Prop} {E : Prop} {α : Type} (L : Lay α) (T : TypeId) (y : α) (hgd : o.guard = none) (s x : Operand) (t : TypeId)
    (ho : o.op = .call { callee := .builtin .append, args := #[s, x], argTypes := #[t, t] })
    (base bytes : Nat) (z : Value) (ht : P.underlying t = some (.slice T)) (hinfo : (P.info? T).map (fun i => (i.zero, i.size, i.bytes)) = some (some z, L.m, bytes)) (hz : z.cells.size = L.m) (h8 : bytes ≤ 128)
    (v : Value) (xs : List α) (hs : a.eval s = v) (hown : OwnG L w base T v xs) (q : Nat) (hx : a.eval x = .slice (some ⟨q, 0, none⟩) 1 1) (cs : Array Value) (hc : Blk w q cs T) (hcs : cs.toList = L.f y) (hlen : xs.length < 1073741823) (hbase : base ≤ w.heap.size)
    (h : ∀ v' w', OwnG L w' base T v' (xs ++ [y]) → Grew w w' v v' → K (a.put o.dst v') w') :
    if Region.wanted o (yielded ops a.tmps) = true then Oper.wp P o a w K Q else E := by
  obtain ⟨i, hi, hzi, hsz, hby⟩ := info_partsG hinfo
  refine step_append_lies w hgd s x t ho base T i z L.m bytes ht hi hzi hsz hby hz L.pos v xs.length _ hs hown ⟨q, 0, none⟩ 1 1 (L.f y) hx (by rw [L.len, Nat.one_mul]) (fun j u hu => ?_) (L.one y) (by omega) (by simp only [maxLen]; omega) ?_ hbase _ rfl fun g cap w' h1 h2 h3 _ => ?_
  · rw [addr_add0, Nat.zero_add]
    refine hc.cell ?_
    rw [← hcs] at hu
    simpa using hu
  · have : (xs.length + 1) * bytes ≤ (xs.length + 1) * 128 := Nat.mul_le_mul_left _ h8
    omega
  · refine h _ _ ?_ (.of h2 ?_)
    · unfold OwnG
      rw [List.length_append, List.flatMap_append, List.flatMap_cons, List.flatMap_nil, List.append_nil]
      exact h1
    · rcases h3 with h3 | h3
      · exact .inl h3.symm
      · exact .inr (by rw [h3]; rfl)

theorem blk_type {w : World} {b : Nat} {cs cs' : Array Value} {T T' : TypeId} (h : Blk w b cs T) (h' : Blk w b cs' T') : T = T' := by
  have := h.symm.trans h'
  injection this with this
  injection this with _ this
theorem Kept.setB {w : World} {base b j : Nat} {cs : Array Value} {u : Value} (g : Blk w b cs 104) (hb : base ≤ b) : Kept base w (w.setCell ⟨b, j, none⟩ u) :=
  ⟨(Below.refl _ _).setCell hb _, fun q cs' T' g' _ _ h3 => g'.other (fun e => by subst e; exact h3 (blk_type g' g)) _ _⟩
theorem Kept.grewG {α : Type} {L : Lay α} {w w' : World} {base : Nat} {T : TypeId} {v v' : Value} {xs : List α} (ho : OwnG L w base T v xs) (hg : Grew w w' v v') (hT : T = 106 ∨ T = 108) (hb : base ≤ w.heap.size) : Kept base w w' :=
  ⟨hg.belowG (Below.refl _ _) ho (Nat.le_refl _) hb, fun q cs' T' g' h1 h2 _ => hg.blk g' (ho.neq g' (fun e => by rcases hT with h | h <;> rw [h] at e <;> first | exact h1 e.symm | exact h2 e.symm))⟩
theorem OwnG.grewT {α β : Type} {L : Lay α} {M : Lay β} {w w' : World} {base : Nat} {T U : TypeId} {v v' u : Value} {xs : List α} {ys : List β} (hu : OwnG M w base U u ys) (ho : OwnG L w base T v xs) (hg : Grew w w' v v') (hT : ¬ T = U) : OwnG M w' base U u ys := by
  rcases hu.form with ⟨rfl, rfl⟩ | ⟨g, cap, cur, rfl, h1, h2, h3, h4, h5, h6⟩
  · exact OwnG.nil _ _ _ _
  · exact OwnG.of_blk h1 (hg.blk h2 (ho.neq h2 hT)) h3 h4 h5 h6

theorem BS.addRow {w w' : World} {base b : Nat} {S : St} {vr vr' vh : Value} {R : List Rw} {H : List Hn} {r : Rw} {A : Nat → Prop} (h : BS w base b S vr R vh H A) (hg : Grew w w' vr vr') (ho : OwnG rwL w' base 106 vr' (R ++ [r])) (hr : LinT w r.a ∧ LinT w r.b ∧ LinT w r.c) (hav : Av A r.a ∧ Av A r.b ∧ Av A r.c) :
    BS (w'.setCell ⟨b, 4, none⟩ vr') base b { S with R := S.R ++ [r.val] } vr' (R ++ [r]) vh H A ∧ Kept base w (w'.setCell ⟨b, 4, none⟩ vr') := by
  have g1 := hg.blk h.blk (h.rows.neq h.blk (by decide))
  have k1 := Kept.grewG h.rows hg (.inl rfl) h.lt
  have k : Kept base w (w'.setCell ⟨b, 4, none⟩ vr') := k1.trans (Kept.setB g1 h.lo)
  refine ⟨⟨g1.set 4 vr', h.lo, ho.other (ho.neq g1 (by decide)) _, (h.hints.grewT h.rows hg (by decide)).other ((h.hints.grewT h.rows hg (by decide)).neq g1 (by decide)) _, fun q hq => ?_, fun q hq => ?_, by rw [List.map_append, h.rv]; rfl, h.hv, fun q hq => by
    rcases List.mem_append.1 hq with h1 | h1
    · exact h.rav q h1
    · rw [List.mem_singleton] at h1; subst h1; exact hav, h.hav⟩, k⟩
  · rcases List.mem_append.1 hq with h1 | h1
    · obtain ⟨i1, i2, i3⟩ := h.rok q h1
      exact ⟨k.lin i1, k.lin i2, k.lin i3⟩
    · rw [List.mem_singleton] at h1
      subst h1
      exact ⟨k.lin hr.1, k.lin hr.2.1, k.lin hr.2.2⟩
  · obtain ⟨i1, i2, i3⟩ := h.hok q hq
    exact ⟨k.lin i1, k.lin i2, i3⟩

/-- What a gadget without a result does. -/
def RetV (w : World) (base b : Nat) (S : St) (e : Ending) (w' : World) (A : Nat → Prop := fun _ => False) : Prop := e = .returned (.tuple #[]) ∧ Bld w' base b S A ∧ Kept base w w'

set_option maxRecDepth 10000 in
set_option maxHeartbeats 4000000 in
theorem row20A_any (A : Nat → Prop) (base b : Nat) (S : St) (x y z : Lc) (w : World) (h : Bld w base b S A) (hA : ∀ q, A q → q < w.heap.size) (hx : LcOk w x) (hy : LcOk w y) (hz : LcOk w z) (lx : x.l.length < 1073741823) (ly : y.l.length < 1073741823) (lz : z.l.length < 1073741823) (hS : S.R.length < 1073741823) :
    Calls Try.prog 98 #[.pointer (some ⟨b, 0, none⟩), .slice x.ad x.l.length x.cap, .slice y.ad y.l.length y.cap, .slice z.ad z.l.length z.cap] w (fun e w' => RetV w base b { S with R := S.R ++ [⟨x.l, y.l, z.l⟩] } e w' A) := by
  have hb00 : base ≤ w.heap.size := by obtain ⟨_, _, _, _, h⟩ := h; exact h.lt
  have c1 := CloneF_any x w hx (by omega)
  have c2 := fun W h => CloneF_any y W h (by omega)
  have c3 := fun W h => CloneF_any z W h (by omega)
  go_enter Try.func98, Try.ntmps98
  go_wp2_with fail
  refine c1.mono ?_
  rintro e w1 ⟨x', rfl, ex, hx', hb1, fx⟩
  go_wp2_with fail
  refine (c2 w1 (hy.mono hb1)).mono ?_
  rintro e w2 ⟨y', rfl, ey, hy', hb2, fy⟩
  replace hx' := hx'.mono hb2
  have hz2 := hide hb1.size
  replace hb1 := below2 hb1 hb2
  go_wp2_with fail
  refine (c3 w2 (hz.mono hb1)).mono ?_
  rintro e w3 ⟨z', rfl, ez, hz', hb3, fz⟩
  replace hx' := hx'.mono hb3
  replace hy' := hy'.mono hb3
  have hz3 := hide hb1.size
  replace hb1 := below2 hb1 hb3
  replace h := h.mono hb1
  clear hb2 hb3 c1 c2 c3 hx hy hz
  obtain ⟨vr, R, vh, H, h⟩ := h
  have hb0 := h.lt
  go_wp2_with fail
  refine name_world fun w4 hN => ?_
  have gT : Blk w4 w3.heap.size #[.slice x'.ad x'.l.length x'.cap, .slice y'.ad y'.l.length y'.cap, .slice z'.ad z'.l.length z'.cap] 106 := by rw [hN]; exact Blk.newAt rfl
  have hb4 : Below w3.heap.size w3 w4 := by rw [hN]; exact (Below.refl _ _).alloc (Nat.le_refl _) _
  clear hN
  replace h := h.mono hb4
  replace hx' := hx'.mono hb4
  replace hy' := hy'.mono hb4
  replace hz' := hz'.mono hb4
  replace hb1 := below2 hb1 hb4
  replace hb0 : base ≤ w4.heap.size := h.lt
  clear hb4
  obtain ⟨r, hr⟩ : ∃ r : Rw, r = ⟨x', y', z'⟩ := ⟨_, rfl⟩
  have hrl : R.length < 1073741823 := by
    have := congrArg List.length h.rv
    rw [List.length_map] at this
    omega
  have hrv : Hid (r.val = ⟨x.l, y.l, z.l⟩) := hide (by rw [hr]; unfold Rw.val; rw [ex.out, ey.out, ez.out])
  have hav : Hid (Av A r.a ∧ Av A r.b ∧ Av A r.c) := hide (by
    rw [hr]
    exact ⟨fun _ a e hq => by have := fx.out a e; have := hA _ hq; omega, fun _ a e hq => by have := fy.out a e; have := hA _ hq; have := hz2.out; omega, fun _ a e hq => by have := fz.out a e; have := hA _ hq; have := hz3.out; omega⟩)
  clear fx fy fz hz2 hz3 hA
  have hown := h.rows
  have gB := h.blk
  have c4 := gB.cell (j := 4) (v := vr) rfl
  have t0 := gT.cell (j := 0) (v := .slice x'.ad x'.l.length x'.cap) rfl
  have t1 := gT.cell (j := 1) (v := .slice y'.ad y'.l.length y'.cap) rfl
  have t2 := gT.cell (j := 2) (v := .slice z'.ad z'.l.length z'.cap) rfl
  have c4a := cell_below ((Below.refl w4.heap.size w4).alloc (Nat.le_refl _) (.cells #[.slice x'.ad x'.l.length x'.cap, .slice y'.ad y'.l.length y'.cap, .slice z'.ad z'.l.length z'.cap] 106)) c4
  clear lx ly lz hS ex ey ez
  have hnb : vr.ownBlock ≠ some b := hown.neq gB (by decide)
  go_region_law
    ((refine step_appG rwL 106 r (by rfl) _ _ 32 (by rfl) base _ _ Try.underlying32 Try.infoRw rfl (by decide) vr R (by rfl) (hown.alloc _) w4.heap.size (by rfl) _ (Blk.newAt rfl) (by rw [hr]; rfl) hrl (by simp; omega) ?_; intro v6 w6 hown6 hg; obtain ⟨a6, c6, e6, _⟩ := hown6.sl; subst e6; have gB6 := hg.blk (gB.mono ((Below.refl _ _).alloc (Nat.le_refl _) _).drew) hnb; have hfr := gB6.free 4; have hc6 := gB6.cell (j := 4) (v := vr) rfl))
  all_goals
    have hbA : Below w4.heap.size w4 (w4.alloc (.cells #[.slice x'.ad x'.l.length x'.cap, .slice y'.ad y'.l.length y'.cap, .slice z'.ad z'.l.length z'.cap] 106)).drew := ((Below.refl _ _).alloc (Nat.le_refl _) _).drew
    have hA := (h.mono hbA).addRow hg hown6 (r := r) (by rw [hr]; exact ⟨hx'.mono hbA, hy'.mono hbA, hz'.mono hbA⟩) hav.out
    rw [hrv.out, show (R ++ [r]).length = R.length + 1 by simp] at hA
    exact bodyPost_end (v := .tuple #[]) (by simp [results, Try.results98, go_sem]) rfl ⟨rfl, ⟨_, _, _, _, hA.1⟩, (Kept.of_below (below2 hb1 hbA) hb00).trans hA.2⟩
theorem row20_any (base b : Nat) (S : St) (x y z : Lc) (w : World) (h : Bld w base b S) (hx : LcOk w x) (hy : LcOk w y) (hz : LcOk w z) (lx : x.l.length < 1073741823) (ly : y.l.length < 1073741823) (lz : z.l.length < 1073741823) (hS : S.R.length < 1073741823) :
    Calls Try.prog 98 #[.pointer (some ⟨b, 0, none⟩), .slice x.ad x.l.length x.cap, .slice y.ad y.l.length y.cap, .slice z.ad z.l.length z.cap] w (RetV w base b { S with R := S.R ++ [⟨x.l, y.l, z.l⟩] }) :=
  row20A_any (fun _ => False) base b S x y z w h (fun _ hq => hq.elim) hx hy hz lx ly lz hS
end Go.Proofs.Ytlgjnidphldiiaa

/- Gadgets: a variable with a hint is added to a builder. -/
namespace Go.Proofs.Ytlgjnidphldiiaa
open Go.RowKit

/-- A linear combination, among the relational operations of a region. -/
def IsLn (L : Lin) (v : Value) (w : World) : Prop := ∃ s : Lc, v = .slice s.ad s.l.length s.cap ∧ Hid (s.l = L) ∧ LinT w s
def IsLnF (n : Nat) (L : Lin) (v : Value) (w : World) : Prop := ∃ s : Lc, v = .slice s.ad s.l.length s.cap ∧ Hid (s.l = L) ∧ LinT w s ∧ Hid (∀ a, s.ad = some a → n ≤ a.block)
theorem IsLnF.mono {n : Nat} {L : Lin} {v : Value} {w w' : World} (h : IsLnF n L v w) (hb : Below w.heap.size w w') : IsLnF n L v w' := by
  obtain ⟨s, h1, h2, h3, h4⟩ := h
  exact ⟨s, h1, h2, h3.mono hb, h4⟩
theorem rU_lnF {P : Program} {f : FuncId} {args : Array Value} {W : World} {q : Later} {L : Lin} (h : Calls P f args (later W q) (fun e w' => ∃ s' : Lc, e = .returned (.slice s'.ad s'.l.length s'.cap) ∧ Hid (s'.l = L) ∧ LinT w' s' ∧ Below (later W q).heap.size (later W q) w' ∧ Hid (∀ a, s'.ad = some a → (later W q).heap.size ≤ a.block))) :
    Rel.rUpon P (later W q) false (IsLnF W.heap.size L) (.ok (.enter f args) (later W q)) :=
  ⟨rfl, h.mono fun _ _ ⟨s, he, h1, h2, hb, h3⟩ => ⟨_, he, hb, ⟨s, rfl, h1, h2, hide fun a ha => Nat.le_trans (below_later W q).size (h3.out a ha)⟩, fun h => by cases h⟩⟩
theorem IsLn.mono {L : Lin} {v : Value} {w w' : World} (h : IsLn L v w) (hb : Below w.heap.size w w') : IsLn L v w' := by
  obtain ⟨s, h1, h2, h3⟩ := h
  exact ⟨s, h1, h2, h3.mono hb⟩
theorem rU_ln {P : Program} {f : FuncId} {args : Array Value} {W : World} {q : Later} {L : Lin} (h : Calls P f args (later W q) (RetLn (later W q) L)) :
    Rel.rUpon P (later W q) false (IsLn L) (.ok (.enter f args) (later W q)) :=
  ⟨rfl, h.mono fun _ _ ⟨s, he, h1, h2, hb⟩ => ⟨_, he, hb, ⟨s, rfl, h1, h2⟩, fun h => by cases h⟩⟩
theorem rU_of' {P : Program} {w : World} {fr fr' : Bool} {φ : Value → World → Prop} {r r' : Result Next} (hf : fr' = fr) (h : r' = r) (h2 : Rel.rUpon P w fr φ r) : Rel.rUpon P w fr' φ r' := by
  subst hf h; exact h2

theorem BS.addHint {w w' : World} {base b : Nat} {S : St} {vr vh vh' : Value} {R : List Rw} {H : List Hn} {r : Hn} {A : Nat → Prop} (h : BS w base b S vr R vh H A) (hg : Grew w w' vh vh') (ho : OwnG hnL w' base 108 vh' (H ++ [r])) (hr : LinT w r.a ∧ LinT w r.b ∧ (Lit.int .i64 r.k).wf = true ∧ (Lit.int .i64 r.bit).wf = true) (hav : Av A r.a ∧ Av A r.b) :
    BS (w'.setCell ⟨b, 6, none⟩ vh') base b { S with H := S.H ++ [r.val] } vr R vh' (H ++ [r]) A ∧ Kept base w (w'.setCell ⟨b, 6, none⟩ vh') := by
  have g1 := hg.blk h.blk (h.hints.neq h.blk (by decide))
  have k1 := Kept.grewG h.hints hg (.inr rfl) h.lt
  have k : Kept base w (w'.setCell ⟨b, 6, none⟩ vh') := k1.trans (Kept.setB g1 h.lo)
  refine ⟨⟨g1.set 6 vh', h.lo, (h.rows.grewT h.hints hg (by decide)).other ((h.rows.grewT h.hints hg (by decide)).neq g1 (by decide)) _, ho.other (ho.neq g1 (by decide)) _, fun q hq => ?_, fun q hq => ?_, h.rv, by rw [List.map_append, h.hv]; rfl, h.rav, fun q hq => by
    rcases List.mem_append.1 hq with h1 | h1
    · exact h.hav q h1
    · rw [List.mem_singleton] at h1; subst h1; exact hav⟩, k⟩
  · obtain ⟨i1, i2, i3⟩ := h.rok q hq
    exact ⟨k.lin i1, k.lin i2, k.lin i3⟩
  · rcases List.mem_append.1 hq with h1 | h1
    · obtain ⟨i1, i2, i3⟩ := h.hok q h1
      exact ⟨k.lin i1, k.lin i2, i3⟩
    · rw [List.mem_singleton] at h1
      subst h1
      exact ⟨k.lin hr.1, k.lin hr.2.1, hr.2.2⟩
theorem BS.setVars {w : World} {base b : Nat} {S : St} {vr vh : Value} {R : List Rw} {H : List Hn} {A : Nat → Prop} (h : BS w base b S vr R vh H A) (n : Int) :
    BS (w.setCell ⟨b, 3, none⟩ (.int .i64 n)) base b { S with vars := n } vr R vh H A ∧ Kept base w (w.setCell ⟨b, 3, none⟩ (.int .i64 n)) := by
  have k : Kept base w (w.setCell ⟨b, 3, none⟩ (.int .i64 n)) := Kept.setB h.blk h.lo
  refine ⟨⟨h.blk.set 3 _, h.lo, h.rows.other (h.rows.neq h.blk (by decide)) _, h.hints.other (h.hints.neq h.blk (by decide)) _, fun q hq => ?_, fun q hq => ?_, h.rv, h.hv, h.rav, h.hav⟩, k⟩
  · obtain ⟨i1, i2, i3⟩ := h.rok q hq
    exact ⟨k.lin i1, k.lin i2, k.lin i3⟩
  · obtain ⟨i1, i2, i3⟩ := h.hok q hq
    exact ⟨k.lin i1, k.lin i2, i3⟩

theorem Kept.setH {w : World} {base b j : Nat} {cs : Array Value} {u : Value} (g : Blk w b cs 108) (hb : base ≤ b) : Kept base w (w.setCell ⟨b, j, none⟩ u) :=
  ⟨(Below.refl _ _).setCell hb _, fun q cs' T' g' _ h2 _ => g'.other (fun e => by subst e; exact h2 (blk_type g' g)) _ _⟩
/-- What a gadget with a result does. -/
def RetB (w : World) (base b : Nat) (S : St) (L : Lin) (e : Ending) (w' : World) (A : Nat → Prop := fun _ => False) : Prop := ∃ s : Lc, e = .returned (.slice s.ad s.l.length s.cap) ∧ Hid (s.l = L) ∧ LinT w' s ∧ Bld w' base b S A ∧ Kept base w w'

set_option maxRecDepth 10000 in
set_option maxHeartbeats 4000000 in
theorem hint20A_any (A : Nat → Prop) (base b : Nat) (S : St) (k : Int) (x y : Lc) (bit : Int) (w : World) (h : Bld w base b S A) (hA : ∀ q, A q → q < w.heap.size) (hv : vld S.p = true) (hx : LcOk w x) (hy : LcOk w y) (lx : x.l.length < 1073741823) (ly : y.l.length < 1073741823) (hS : S.H.length < 1073741823) (hV : 0 ≤ S.vars ∧ S.vars < 1073741823)
    (hk : (Lit.int .i64 k).wf = true) (hbit : (Lit.int .i64 bit).wf = true) :
    Calls Try.prog 97 #[.pointer (some ⟨b, 0, none⟩), .agg #[.int .i64 k, .slice x.ad x.l.length x.cap, .slice y.ad y.l.length y.cap, .int .i64 bit]] w (fun e w' => RetB w base b { S with vars := S.vars + 1, H := S.H ++ [⟨k, x.l, y.l, bit⟩] } [(S.vars, 1)] e w' A) := by
  have hb00 : base ≤ w.heap.size := by obtain ⟨_, _, _, _, h⟩ := h; exact h.lt
  have c1 := fun W h => CloneF_any x W h (by omega)
  have c2 := fun W h => CloneF_any y W h (by omega)
  go_enter Try.func97, Try.ntmps97
  go_wp2_with fail
  refine name_world fun w1 hN => ?_
  have gT : Blk w1 w.heap.size #[.int .i64 k, .slice x.ad x.l.length x.cap, .slice y.ad y.l.length y.cap, .int .i64 bit] 108 := by rw [hN]; exact Blk.newAt rfl
  have hb1 : Below w.heap.size w w1 := by rw [hN]; exact (Below.refl _ _).alloc (Nat.le_refl _) _
  clear hN
  have t1 := cell_later' (gT.cell (j := 1) (v := .slice x.ad x.l.length x.cap) rfl)
  have t2 := cell_later' (gT.cell (j := 2) (v := .slice y.ad y.l.length y.cap) rfl)
  refine Rel.wp_region_mix 7 [] [(2, IsLnF w1.heap.size x.l), (5, IsLnF w1.heap.size y.l)] Try.mixed (by kernel_rfl) (by kernel_rfl) ?_ ?_
  rotate_left
  simp only [List.take_succ_cons, List.take_zero, List.drop_succ_cons, List.drop_zero, List.map_cons, List.map_nil]
  repeat (first | (refine Rel.wpA_b (by rfl) ?_) | (refine Rel.wpA_step (by rfl) fun K hK => ?_; go_simp; first | (refine hK _ ?_; clear hK K) | (apply Exists.intro; refine ⟨fun _ => ?_, hK _ ?_⟩; (first | fail); clear hK K)))
  refine Rel.wpA_nil ?_
  rotate_left
  · intro z hz v u u' h1 h2
    simp only [List.mem_cons, List.not_mem_nil, or_false] at hz
    rcases hz with rfl | rfl
    · exact IsLnF.mono h1 h2
    · exact IsLnF.mono h1 h2
  refine Rel.wpB_step _ rfl rfl (fun p' hc => ?_) (fun v2 => ?_)
  · refine rU_of' (fr := false) (r := .ok (.enter 70 #[.slice x.ad x.l.length x.cap]) (later w1 p')) (by kernel_rfl) (by kernel_rfl) ?_
    exact rU_lnF (c1 _ ((hx.mono hb1).mono (below_later _ _)))
  refine Rel.wpB_step _ rfl rfl (fun p' hc => ?_) (fun v5 => ?_)
  · refine rU_of' (fr := false) (r := .ok (.enter 70 #[.slice y.ad y.l.length y.cap]) (later w1 p')) (by kernel_rfl) (by kernel_rfl) ?_
    exact rU_lnF (c2 _ ((hy.mono hb1).mono (below_later _ _)))
  refine Rel.wpB_nil ?_
  intro p' hctx hfr
  simp only [List.nil_append, List.cons_append, List.mem_cons, List.not_mem_nil, or_false, forall_eq_or_imp, forall_eq] at hctx
  obtain ⟨⟨x', rfl, ex, hx', fx⟩, ⟨y', rfl, ey, hy', fy⟩⟩ := hctx
  have hz1 := hide hb1.size
  have hb2 : Below w1.heap.size w1 (later w1 p') := below_later _ _
  clear hfr t1 t2 c1 c2 hx hy lx ly
  generalize later w1 p' = w2 at *
  replace hb1 := below2 hb1 hb2
  replace gT := gT.mono hb2
  clear hb2
  have t1 := gT.cell (j := 1) (v := .slice x.ad x.l.length x.cap) rfl
  have t2 := gT.cell (j := 2) (v := .slice y.ad y.l.length y.cap) rfl
  have tf := gT.free
  go_wp2_with fail
  refine name_world fun w3 hN => ?_
  have gT3 : Blk w3 w.heap.size #[.int .i64 k, .slice x'.ad x'.l.length x'.cap, .slice y'.ad y'.l.length y'.cap, .int .i64 bit] 108 := by rw [hN]; exact (gT.set 1 (.slice x'.ad x'.l.length x'.cap)).set 2 (.slice y'.ad y'.l.length y'.cap)
  have hb3 : Below w.heap.size w w3 := by rw [hN]; exact (hb1.setCell (p := ⟨w.heap.size, 1, none⟩) (Nat.le_refl _) _).setCell (p := ⟨w.heap.size, 2, none⟩) (Nat.le_refl _) _
  have kk : Kept base w2 w3 := by rw [hN]; exact (Kept.setH gT hb00).trans (Kept.setH (gT.set 1 (.slice x'.ad x'.l.length x'.cap)) hb00)
  replace hx' := kk.lin hx'
  replace hy' := kk.lin hy'
  clear hN kk t1 t2 tf hb1 gT
  obtain ⟨vr, R, vh, H, h⟩ := h
  replace h := h.mono hb3
  have hb0 : base ≤ w3.heap.size := h.lt
  obtain ⟨r, hr⟩ : ∃ r : Hn, r = ⟨k, x', y', bit⟩ := ⟨_, rfl⟩
  have hrl : H.length < 1073741823 := by
    have := congrArg List.length h.hv
    rw [List.length_map] at this
    omega
  have hrv : Hid (r.val = ⟨k, x.l, y.l, bit⟩) := hide (by rw [hr]; unfold Hn.val; rw [ex.out, ey.out])
  have hav : Hid (Av A r.a ∧ Av A r.b) := hide (by
    rw [hr]
    exact ⟨fun _ a e hq => by have := fx.out a e; have := hA _ hq; have := hz1.out; omega, fun _ a e hq => by have := fy.out a e; have := hA _ hq; have := hz1.out; omega⟩)
  clear fx fy hz1 hA
  have hown := h.hints
  have gB := h.blk
  have c6 := gB.cell (j := 6) (v := vh) rfl
  have t0 := gT3.cell (j := 0) (v := .int .i64 k) rfl
  have t1 := gT3.cell (j := 1) (v := .slice x'.ad x'.l.length x'.cap) rfl
  have t2 := gT3.cell (j := 2) (v := .slice y'.ad y'.l.length y'.cap) rfl
  have t3 := gT3.cell (j := 3) (v := .int .i64 bit) rfl
  have c6a := cell_below ((Below.refl w3.heap.size w3).alloc (Nat.le_refl _) (.cells #[.int .i64 k, .slice x'.ad x'.l.length x'.cap, .slice y'.ad y'.l.length y'.cap, .int .i64 bit] 108)) c6
  have hnb : vh.ownBlock ≠ some b := hown.neq gB (by decide)
  clear hS ex ey
  go_region_law
    ((refine step_appG hnL 108 r (by rfl) _ _ 35 (by rfl) base _ _ Try.underlying35 Try.infoHn rfl (by decide) vh H (by rfl) (hown.alloc _) w3.heap.size (by rfl) _ (Blk.newAt rfl) (by rw [hr]; rfl) hrl (by simp; omega) ?_; intro v6 w6 hown6 hg; obtain ⟨a6, d6, e6, _⟩ := hown6.sl; subst e6; have gB6 := hg.blk (gB.mono ((Below.refl _ _).alloc (Nat.le_refl _) _).drew) hnb; have hfr := gB6.free 6; have hc6 := gB6.cell (j := 6) (v := vh) rfl))
  all_goals
    have hbA : Below w3.heap.size w3 (w3.alloc (.cells #[.int .i64 k, .slice x'.ad x'.l.length x'.cap, .slice y'.ad y'.l.length y'.cap, .int .i64 bit] 108)).drew := ((Below.refl _ _).alloc (Nat.le_refl _) _).drew
    have hA := (h.mono hbA).addHint hg hown6 (r := r) (by rw [hr]; exact ⟨hx'.mono hbA, hy'.mono hbA, hk, hbit⟩) hav.out
    rw [hrv.out, show (H ++ [r]).length = H.length + 1 by simp] at hA
    have kA := (Kept.of_below (below2 hb3 hbA) hb00).trans hA.2
    replace hA := hA.1
    clear hbA hg hown6 gB6 hfr hc6 c6 c6a t0 t1 t2 t3 hnb hown gB hrl hrv gT3 h hx' hy'
    generalize w6.setCell ⟨b, 6, none⟩ (.slice a6 (H.length + 1) d6) = w7 at *
    have gB := hA.blk
    have c3 := gB.cell (j := 3) (v := .int .i64 S.vars) rfl
    have cf := gB.free
    have hV0 := hV.1
    have hV1 := hV.2
    go_wp2_with fail
    have hS8 := hA.setVars (S.vars + 1)
    refine (variable20_any b _ _ S.p S.vars _ hS8.1.blk rfl hv (wfI ⟨by omega, by omega⟩)).mono ?_
    rintro e w9 ⟨s, rfl, es, hs, hb9⟩
    have kF := (kA.trans hS8.2).trans (Kept.of_below hb9 hS8.1.lt)
    have hF := hS8.1.mono hb9
    clear kA hA hS8 hb9 gB c3 cf
    go_wp2
    go_ret
    exact ⟨s, rfl, es, hs, ⟨_, _, _, _, hF⟩, kF⟩
theorem hint20_any (base b : Nat) (S : St) (k : Int) (x y : Lc) (bit : Int) (w : World) (h : Bld w base b S) (hv : vld S.p = true) (hx : LcOk w x) (hy : LcOk w y) (lx : x.l.length < 1073741823) (ly : y.l.length < 1073741823) (hS : S.H.length < 1073741823) (hV : 0 ≤ S.vars ∧ S.vars < 1073741823)
    (hk : (Lit.int .i64 k).wf = true) (hbit : (Lit.int .i64 bit).wf = true) :
    Calls Try.prog 97 #[.pointer (some ⟨b, 0, none⟩), .agg #[.int .i64 k, .slice x.ad x.l.length x.cap, .slice y.ad y.l.length y.cap, .int .i64 bit]] w (RetB w base b { S with vars := S.vars + 1, H := S.H ++ [⟨k, x.l, y.l, bit⟩] } [(S.vars, 1)]) :=
  hint20A_any (fun _ => False) base b S k x y bit w h (fun _ hq => hq.elim) hv hx hy lx ly hS hV hk hbit
end Go.Proofs.Ytlgjnidphldiiaa

/- Gadgets: Mul, Not, Assert, Boolean, IsZero, Equal, And, Or of the program. -/
namespace Go.Proofs.Ytlgjnidphldiiaa
open Go.RowKit

/-- The gadgets, on values. -/
def addL (p : Int) (x y : Lin) : Lin := addP p x y 1
def subL (p : Int) (x y : Lin) : Lin := addP p x y (fneg p 1)
def gRow (S : St) (x y z : Lin) : St := { S with R := S.R ++ [⟨x, y, z⟩] }
def gHint (S : St) (k : Int) (x y : Lin) (bit : Int) : St := { S with vars := S.vars + 1, H := S.H ++ [⟨k, x, y, bit⟩] }
def nv (S : St) : Lin := [(S.vars, 1)]
def gMul (S : St) (x y : Lin) : St := gRow (gHint S 1 x y 0) x y (nv S)
def gNot (p : Int) (x : Lin) : Lin := subL p [(0, 1)] x
def gAssert (S : St) (x y : Lin) : St := gRow S (subL S.p x y) [(0, 1)] []
def gBool (S : St) (x : Lin) : St := gRow S x x x
def gIsZero (S : St) (x : Lin) : St × Lin :=
  let S1 := gHint S 2 x [] 0
  let S2 := gMul S1 x (nv S)
  let z := gNot S.p (nv S1)
  (gRow (gRow S2 x z []) (nv S) z [], z)
def gEqual (S : St) (x y : Lin) : St × Lin := gIsZero S (subL S.p x y)
def gOr (S : St) (x y : Lin) : St × Lin := (gMul S x y, subL S.p (addL S.p x y) (nv S))
def gSelect (S : St) (c x y : Lin) : St × Lin := (gMul S c (subL S.p x y), addL S.p y (nv S))

/-- Bounds of a circuit under way. -/
structure Bd (S : St) (n : Int) : Prop where
  v : 0 ≤ S.vars ∧ S.vars ≤ n
  r : (S.R.length : Int) ≤ n
  h : (S.H.length : Int) ≤ n
theorem Bd.up {S : St} {n m : Int} (h : Bd S n) (hm : n ≤ m) : Bd S m := ⟨⟨h.v.1, by have := h.v.2; omega⟩, by have := h.r; omega, by have := h.h; omega⟩
theorem Bd.row {S : St} {n : Int} {x y z : Lin} (h : Bd S n) : Bd (gRow S x y z) (n + 1) := ⟨⟨h.v.1, by have := h.v.2; show S.vars ≤ _; omega⟩, by have := h.r; show ((S.R ++ [_]).length : Int) ≤ _; simp; omega, by have := h.h; show (S.H.length : Int) ≤ _; omega⟩
theorem Bd.hint {S : St} {n k bit : Int} {x y : Lin} (h : Bd S n) : Bd (gHint S k x y bit) (n + 1) := ⟨⟨by have := h.v.1; show 0 ≤ S.vars + 1; omega, by have := h.v.2; show S.vars + 1 ≤ _; omega⟩, by have := h.r; show (S.R.length : Int) ≤ _; omega, by have := h.h; show ((S.H ++ [_]).length : Int) ≤ _; simp; omega⟩
theorem Bd.mul {S : St} {n : Int} {x y : Lin} (h : Bd S n) : Bd (gMul S x y) (n + 2) := (h.hint.row).up (by omega)
theorem addP_len (p : Int) (x y : Lin) (n : Int) : (addP p x y n).length ≤ x.length + y.length := by
  unfold addP
  split
  · exact comb_len _ _ _ _
  · simp

set_option maxHeartbeats 1000000 in
theorem Mul20_any (base b : Nat) (S : St) (n : Int) (x y : Lc) (w : World) (h : Bld w base b S) (hv : vld S.p = true) (hS : Bd S n) (hn : n ≤ 1000000000) (hx : LinT w x) (hy : LinT w y) (lx : x.l.length ≤ 1000000) (ly : y.l.length ≤ 1000000) :
    Calls Try.prog 67 #[.pointer (some ⟨b, 0, none⟩), .slice x.ad x.l.length x.cap, .slice y.ad y.l.length y.cap] w (RetB w base b (gMul S x.l y.l) (nv S)) := by
  have cH := hint20_any base b S 1 x y 0 w h hv hx.ok hy.ok (by omega) (by omega) (by have := hS.h; omega) ⟨hS.v.1, by have := hS.v.2; omega⟩ (by decide) (by decide)
  have hr := hS.hint (k := 1) (bit := 0) (x := x.l) (y := y.l) |>.r
  go_enter Try.func67, Try.ntmps67
  go_wp2_with fail
  refine cH.mono ?_
  rintro e w1 ⟨s, rfl, es, hs, hB1, k1⟩
  have ls : s.l.length = 1 := by rw [es.out]; rfl
  have cR := row20_any base b (gHint S 1 x.l y.l 0) x y s w1 hB1 (k1.lin hx).ok (k1.lin hy).ok hs.ok (by omega) (by omega) (by omega) (by omega)
  rw [show s.l = nv S from es.out] at cR
  replace ls := hide ls
  rw [show (nv S).length = s.l.length by rw [ls.out]; rfl] at cR
  clear cH hr
  go_wp2_with fail
  refine cR.mono ?_
  rintro e w2 ⟨rfl, hB2, k2⟩
  go_wp2
  go_ret
  exact ⟨s, rfl, es, k2.lin hs, hB2, k1.trans k2⟩

set_option maxHeartbeats 1000000 in
theorem Boolean20A_any (A : Nat → Prop) (base b : Nat) (S : St) (n : Int) (x : Lc) (w : World) (h : Bld w base b S A) (hA : ∀ q, A q → q < w.heap.size) (hS : Bd S n) (hn : n ≤ 1000000000) (hx : LinT w x) (lx : x.l.length ≤ 1000000) :
    Calls Try.prog 55 #[.pointer (some ⟨b, 0, none⟩), .slice x.ad x.l.length x.cap] w (fun e w' => RetV w base b (gBool S x.l) e w' A) := by
  have cR := row20A_any A base b S x x x w h hA hx.ok hx.ok hx.ok (by omega) (by omega) (by omega) (by have := hS.r; omega)
  go_enter Try.func55, Try.ntmps55
  go_wp2_with fail
  refine cR.mono ?_
  rintro e w2 ⟨rfl, hB2, k2⟩
  go_wp2
  exact bodyPost_end (v := .tuple #[]) (by simp [results, Try.results55, go_sem]) rfl ⟨rfl, hB2, k2⟩

theorem Boolean20_any (base b : Nat) (S : St) (n : Int) (x : Lc) (w : World) (h : Bld w base b S) (hS : Bd S n) (hn : n ≤ 1000000000) (hx : LinT w x) (lx : x.l.length ≤ 1000000) :
    Calls Try.prog 55 #[.pointer (some ⟨b, 0, none⟩), .slice x.ad x.l.length x.cap] w (RetV w base b (gBool S x.l)) :=
  Boolean20A_any (fun _ => False) base b S n x w h (fun _ hq => hq.elim) hS hn hx lx
theorem Bld.cell0 {w : World} {base b : Nat} {S : St} {A : Nat → Prop} (h : Bld w base b S A) : ∃ cs, Blk w b cs 104 ∧ cs[0]? = some (.int .u64 S.p) := by
  obtain ⟨vr, R, vh, H, h⟩ := h
  exact ⟨_, h.blk, rfl⟩
theorem Bld.lt {w : World} {base b : Nat} {S : St} {A : Nat → Prop} (h : Bld w base b S A) : base ≤ w.heap.size := by
  obtain ⟨vr, R, vh, H, h⟩ := h
  exact h.lt

set_option maxHeartbeats 1000000 in
theorem Assert20_any (base b : Nat) (S : St) (n : Int) (x y : Lc) (w : World) (h : Bld w base b S) (hv : vld S.p = true) (hS : Bd S n) (hn : n ≤ 1000000000) (hx : LinT w x) (hy : LinT w y) (lx : x.l.length ≤ 1000000) (ly : y.l.length ≤ 1000000) :
    Calls Try.prog 56 #[.pointer (some ⟨b, 0, none⟩), .slice x.ad x.l.length x.cap, .slice y.ad y.l.length y.cap] w (RetV w base b (gAssert S x.l y.l)) := by
  obtain ⟨cs, g, hc0⟩ := h.cell0
  have c0 := g.cell hc0
  have cS := gSub_any S.p x y w hx.ok hy.ok (fun _ => by omega)
  have hl := addP_len S.p x.l y.l (fneg S.p 1)
  go_enter Try.func56, Try.ntmps56
  go_wp2_with fail
  refine cS.mono ?_
  rintro e w1 ⟨s, rfl, es, hs, hb1⟩
  have cO := one_any b cs _ S.p w1 (g.mono hb1) hc0 hv
  clear c0 cS
  go_wp2_with fail
  refine cO.mono ?_
  rintro e w2 ⟨o, rfl, eo, ho, hb2⟩
  have lo : o.l.length = 1 := by rw [eo.out]; rfl
  have ls : s.l.length ≤ 2000000 := by rw [es.out]; omega
  have hb := below2 hb1 hb2
  have cR := row20_any base b S s o ⟨none, 0, []⟩ w2 (h.mono hb) (hs.mono hb2).ok ho.ok (LinT.nil _).ok (by omega) (by omega) (by simp) (by have := hS.r; omega)
  simp only [List.length_nil] at cR
  rw [show (⟨s.l, o.l, []⟩ : Row3) = ⟨subL S.p x.l y.l, [(0, 1)], []⟩ by rw [es.out, eo.out]; rfl] at cR
  clear cO hl
  replace lo := hide lo
  go_wp2_with fail
  refine cR.mono ?_
  rintro e w3 ⟨rfl, hB2, k2⟩
  go_wp2
  exact bodyPost_end (v := .tuple #[]) (by simp [results, Try.results56, go_sem]) rfl ⟨rfl, hB2, (Kept.of_below hb h.lt).trans k2⟩

set_option maxRecDepth 10000 in
set_option maxHeartbeats 1000000 in
theorem Not20_any (b : Nat) (cs : Array Value) (T : TypeId) (p : Int) (x : Lc) (w : World) (g : Blk w b cs T) (h0 : cs[0]? = some (.int .u64 p)) (hv : vld p = true) (hx : LcOk w x) (lx : x.l.length ≤ 1000000) :
    Calls Try.prog 48 #[.pointer (some ⟨b, 0, none⟩), .slice x.ad x.l.length x.cap] w (RetLn w (gNot p x.l)) := by
  have c0 := cell_later' (g.cell h0)
  have cO := fun P => one_any b cs _ p (later w P) (g.mono (below_later _ _)) h0 hv
  go_enter Try.func48, Try.ntmps48
  go_wp2_with fail
  refine Rel.wp_region_mix 8 [] [(6, IsLn [(0, 1)])] Try.mixed (by kernel_rfl) (by kernel_rfl) ?_ ?_
  rotate_left
  simp only [List.take_succ_cons, List.take_zero, List.drop_succ_cons, List.drop_zero, List.map_cons, List.map_nil]
  repeat (first | (refine Rel.wpA_b (by rfl) ?_) | (refine Rel.wpA_step (by rfl) fun K hK => ?_; go_simp; first | (refine hK _ ?_; clear hK K) | (apply Exists.intro; refine ⟨fun _ => ?_, hK _ ?_⟩; (first | fail); clear hK K)))
  refine Rel.wpA_nil ?_
  rotate_left
  · intro z hz v u u' h1 h2
    simp only [List.mem_cons, List.not_mem_nil, or_false] at hz
    subst hz
    exact IsLn.mono h1 h2
  refine Rel.wpB_step _ rfl rfl (fun p' hc => ?_) (fun v6 => ?_)
  · refine rU_of' (fr := false) (r := .ok (.enter 99 #[.pointer (some ⟨b, 0, none⟩)]) (later w p')) (by kernel_rfl) (by kernel_rfl) ?_
    exact rU_ln (cO p')
  refine Rel.wpB_nil ?_
  intro p' hctx hfr
  simp only [List.nil_append, List.mem_cons, List.not_mem_nil, or_false, forall_eq] at hctx
  obtain ⟨o, rfl, eo, ho⟩ := hctx
  have hb := below_later w p'
  clear hfr c0 cO
  generalize later w p' = w2 at *
  have lo : o.l.length = 1 := by rw [eo.out]; rfl
  have cS := gSub_any p o x w2 ho.ok (hx.mono hb) (fun _ => by omega)
  rw [show addP p o.l x.l (fneg p 1) = gNot p x.l by rw [eo.out]; rfl] at cS
  replace lo := hide lo
  go_wp2_with fail
  refine cS.mono ?_
  rintro e w3 ⟨s, rfl, es, hs, hb3⟩
  go_wp2
  go_ret
  exact ⟨s, rfl, es, hs, below2 hb hb3⟩
end Go.Proofs.Ytlgjnidphldiiaa
