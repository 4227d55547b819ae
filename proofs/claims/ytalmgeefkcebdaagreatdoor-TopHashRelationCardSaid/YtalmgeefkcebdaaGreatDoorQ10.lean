/- Gadgets: Add, Sub, Scale of the program. -/
import Derived.Test.YtalmgeefkcebdaaGreatDoorQ09
import Derived.Deep.RegionLaw
import Derived.Deep.RegionHeld3
namespace Go.Proofs.YtalmgeefkcebdaaGreatDoor
open Go.RowKit

theorem combine_any (p n : Int) (x y : Lc) (w : World) (hx : LcOk w x) (hy : LcOk w y) (hl : vld p = true → x.l.length + y.l.length ≤ 100000000) (hn : 0 ≤ n ∧ n < 18446744073709551616) :
    Calls Tryz.prog 164 #[.int .u64 p, .slice x.ad x.l.length x.cap, .slice y.ad y.l.length y.cap, .int .u64 n] w (RetLn w (addP p x.l y.l n)) := by
  unfold addP
  cases hv : vld p with
  | true => rw [if_pos rfl]; exact combine_yes p n x y w hv hx hy (hl hv) hn
  | false => rw [if_neg (by decide)]; exact combine_no p n x y w hv

set_option maxHeartbeats 1000000 in
theorem gAdd_any (p : Int) (x y : Lc) (w : World) (hx : LcOk w x) (hy : LcOk w y) (hl : vld p = true → x.l.length + y.l.length ≤ 100000000) :
    Calls Tryz.prog 156 #[.int .u64 p, .slice x.ad x.l.length x.cap, .slice y.ad y.l.length y.cap] w (RetLn w (addP p x.l y.l 1)) := by
  have cT := combine_any p 1 x y w hx hy hl (by decide)
  generalize addP p x.l y.l 1 = L at *
  go_enter Tryz.func156, Tryz.ntmps156
  go_wp2_with fail
  refine cT.mono ?_
  rintro e w1 ⟨s, rfl, hs, hl, hb⟩
  go_wp2
  go_ret
  exact ⟨s, rfl, hs, hl, hb⟩

set_option maxHeartbeats 1000000 in
theorem gSub_any (p : Int) (x y : Lc) (w : World) (hx : LcOk w x) (hy : LcOk w y) (hl : vld p = true → x.l.length + y.l.length ≤ 100000000) :
    Calls Tryz.prog 102 #[.int .u64 p, .slice x.ad x.l.length x.cap, .slice y.ad y.l.length y.cap] w (RetLn w (addP p x.l y.l (fneg p 1))) := by
  have cN := fun W => Neg_any p 1 W (by decide) (by decide)
  have hm := fneg_bd p 1
  generalize fneg p 1 = m at *
  have cT := fun W h1 h2 => combine_any p m x y W h1 h2 hl hm
  generalize addP p x.l y.l m = L at *
  go_enter Tryz.func102, Tryz.ntmps102
  go_wp2_with fail
  refine (cN _).mono ?_
  rintro e w1 ⟨rfl, hb1⟩
  go_wp2_with fail
  refine (cT w1 (hx.mono hb1) (hy.mono hb1)).mono ?_
  rintro e w2 ⟨s, rfl, hs, hl, hb⟩
  go_wp2
  go_ret
  exact ⟨s, rfl, hs, hl, below2 hb1 hb⟩

end Go.Proofs.YtalmgeefkcebdaaGreatDoor

/- Gadgets: a row is added to a builder. -/
namespace Go.Proofs.YtalmgeefkcebdaaGreatDoor
open Go.RowKit

/-- append of one element, at a step of a region that draws. -/
theorem step_appG {P : Program} {w : World} {ops : Array Oper} {o : Oper} {a : Act} {K : Act → World → Prop} {Q : Exit → Act → World → Prop} {E : Prop} {α : Type} (L : Lay α) (T : TypeId) (y : α) (hgd : o.guard = none) (s x : Operand) (t : TypeId)
    (ho : o.op = .call { callee := .builtin .append, args := #[s, x], argTypes := #[t, t] })
    (base bytes : Nat) (z : Value) (ht : P.underlying t = some (.slice T)) (hinfo : (P.info? T).map (fun i => (i.zero, i.size, i.bytes)) = some (some z, L.m, bytes)) (hz : z.cells.size = L.m) (h8 : bytes ≤ 128)
    (v : Value) (xs : List α) (hs : a.eval s = v) (hown : OwnG L w base T v xs) (q : Nat) (hx : a.eval x = .slice (some ⟨q, 0, none⟩) 1 1) (cs : Array Value) (hc : Blk w q cs T) (hcs : cs.toList = L.f y) (hlen : xs.length < 1073741823) (hbase : base ≤ w.heap.size)
    (h : ∀ v' w', OwnG L w' base T v' (xs ++ [y]) → Grew w w' v v' → K (a.put o.dst v') w') :
    if Region.wanted o (yielded ops a.tmps) = true then Oper.wp P o a w K Q else E := by
  obtain ⟨i, hi, hzi, hsz, hby⟩ := info_partsG hinfo
  refine step_append_lies w hgd s x t ho base T i z L.m bytes ht hi hzi hsz hby hz L.pos v xs.length _ hs hown ⟨q, 0, none⟩ 1 1 (L.f y) hx (by rw [L.len, Nat.one_mul]) (fun j u hu => ?_) (L.one y) (by omega) (by simp only [maxLen]; omega) ?_ hbase _ rfl fun g cap w' h1 h2 h3 _ => ?_
  · rw [addr_add0, Nat.zero_add]
    refine hc.cell ?_
    rw [← hcs] at hu
    simpa using hu
  · have : (xs.length + 1) * bytes ≤ (xs.length + 1) * 128 := Nat.mul_le_mul_left _ h8
    omega
  · refine h _ _ ?_ (.of h2 ?_)
    · unfold OwnG
      rw [List.length_append, List.flatMap_append, List.flatMap_cons, List.flatMap_nil, List.append_nil]
      exact h1
    · rcases h3 with h3 | h3
      · exact .inl h3.symm
      · exact .inr (by rw [h3]; rfl)

theorem blk_type {w : World} {b : Nat} {cs cs' : Array Value} {T T' : TypeId} (h : Blk w b cs T) (h' : Blk w b cs' T') : T = T' := by
  have := h.symm.trans h'
  injection this with this
  injection this with _ this
theorem map_ne {w : World} {b c : Nat} {es : Array MapEntry} {clock : Nat} {cs : Array Value} {T : TypeId} (h : w.heap[b]? = some (.map es clock)) (g : Blk w c cs T) : b ≠ c := fun e => by
  subst e
  have := h.symm.trans g
  cases this
theorem map_grew {α : Type} {L : Lay α} {w w' : World} {base b : Nat} {T : TypeId} {v v' : Value} {xs : List α} {es : Array MapEntry} {clock : Nat} (h : w.heap[b]? = some (.map es clock)) (ho : OwnG L w base T v xs) (hg : Grew w w' v v') : w'.heap[b]? = some (.map es clock) := by
  rw [hg.by_.block b (Array.getElem?_eq_some_iff.1 h).1 (fun e => ?_)]
  · exact h
  · rcases ho.form with ⟨rfl, _⟩ | ⟨g, cap, cur, rfl, _, h2, _⟩
    · cases e
    · injection e with e
      exact map_ne h h2 e
theorem Kept.setB {w : World} {base b j : Nat} {cs : Array Value} {u : Value} (g : Blk w b cs 115) (hb : base ≤ b) : Kept base w (w.setCell ⟨b, j, none⟩ u) :=
  ⟨(Below.refl _ _).setCell hb _, fun q cs' T' g' _ _ h3 => g'.other (fun e => by subst e; exact h3 (blk_type g' g)) _ _, fun _ _ _ h => map_setCell h (map_ne h g) _⟩
theorem Kept.grewG {α : Type} {L : Lay α} {w w' : World} {base : Nat} {T : TypeId} {v v' : Value} {xs : List α} (ho : OwnG L w base T v xs) (hg : Grew w w' v v') (hT : T = 97 ∨ T = 134) (hb : base ≤ w.heap.size) : Kept base w w' :=
  ⟨hg.belowG (Below.refl _ _) ho (Nat.le_refl _) hb, fun q cs' T' g' h1 h2 _ => hg.blk g' (ho.neq g' (fun e => by rcases hT with h | h <;> rw [h] at e <;> first | exact h1 e.symm | exact h2 e.symm)), fun _ _ _ h => map_grew h ho hg⟩
theorem OwnG.grewT {α β : Type} {L : Lay α} {M : Lay β} {w w' : World} {base : Nat} {T U : TypeId} {v v' u : Value} {xs : List α} {ys : List β} (hu : OwnG M w base U u ys) (ho : OwnG L w base T v xs) (hg : Grew w w' v v') (hT : ¬ T = U) : OwnG M w' base U u ys := by
  rcases hu.form with ⟨rfl, rfl⟩ | ⟨g, cap, cur, rfl, h1, h2, h3, h4, h5, h6⟩
  · exact OwnG.nil _ _ _ _
  · exact OwnG.of_blk h1 (hg.blk h2 (ho.neq h2 hT)) h3 h4 h5 h6

theorem BS.addRow {w w' : World} {base b : Nat} {S : St} {vr vr' vh : Value} {R : List Rw} {H : List Hn} {r : Rw} {A : Nat → Prop} (h : BS w base b S vr R vh H A) (hg : Grew w w' vr vr') (ho : OwnG rwL w' base 97 vr' (R ++ [r])) (hr : LinT w r.a ∧ LinT w r.b ∧ LinT w r.c) (hav : Av A r.a ∧ Av A r.b ∧ Av A r.c) :
    BS (w'.setCell ⟨b, 4, none⟩ vr') base b { S with R := S.R ++ [r.val] } vr' (R ++ [r]) vh H A ∧ Kept base w (w'.setCell ⟨b, 4, none⟩ vr') := by
  have g1 := hg.blk h.blk (h.rows.neq h.blk (by decide))
  have k1 := Kept.grewG h.rows hg (.inl rfl) h.lt
  have k : Kept base w (w'.setCell ⟨b, 4, none⟩ vr') := k1.trans (Kept.setB g1 h.lo)
  refine ⟨⟨g1.set 4 vr', h.lo, ho.other (ho.neq g1 (by decide)) _, (h.hints.grewT h.rows hg (by decide)).other ((h.hints.grewT h.rows hg (by decide)).neq g1 (by decide)) _, fun q hq => ?_, fun q hq => ?_, by rw [List.map_append, h.rv]; rfl, h.hv, fun q hq => by
    rcases List.mem_append.1 hq with h1 | h1
    · exact h.rav q h1
    · rw [List.mem_singleton] at h1; subst h1; exact hav, h.hav⟩, k⟩
  · rcases List.mem_append.1 hq with h1 | h1
    · obtain ⟨i1, i2, i3⟩ := h.rok q h1
      exact ⟨k.lin i1, k.lin i2, k.lin i3⟩
    · rw [List.mem_singleton] at h1
      subst h1
      exact ⟨k.lin hr.1, k.lin hr.2.1, k.lin hr.2.2⟩
  · obtain ⟨i1, i2, i3⟩ := h.hok q hq
    exact ⟨k.lin i1, k.lin i2, i3⟩

/-- What a gadget without a result does. -/
def RetV (w : World) (base b : Nat) (S : St) (e : Ending) (w' : World) (A : Nat → Prop := fun _ => False) : Prop := e = .returned (.tuple #[]) ∧ Bld w' base b S A ∧ Kept base w w'

set_option maxRecDepth 10000 in
set_option maxHeartbeats 4000000 in
theorem row20A_any (A : Nat → Prop) (base b : Nat) (S : St) (x y z : Lc) (w : World) (h : Bld w base b S A) (hA : ∀ q, A q → q < w.heap.size) (hx : LcOk w x) (hy : LcOk w y) (hz : LcOk w z) (lx : x.l.length < 1073741823) (ly : y.l.length < 1073741823) (lz : z.l.length < 1073741823) (hS : S.R.length < 1073741823) :
    Calls Tryz.prog 101 #[.pointer (some ⟨b, 0, none⟩), .slice x.ad x.l.length x.cap, .slice y.ad y.l.length y.cap, .slice z.ad z.l.length z.cap] w (fun e w' => RetV w base b { S with R := S.R ++ [⟨x.l, y.l, z.l⟩] } e w' A) := by
  have hb00 : base ≤ w.heap.size := by obtain ⟨_, _, _, _, h⟩ := h; exact h.lt
  have c1 := CloneF_any x w hx (by omega)
  have c2 := fun W h => CloneF_any y W h (by omega)
  have c3 := fun W h => CloneF_any z W h (by omega)
  go_enter Tryz.func101, Tryz.ntmps101
  go_wp2_with fail
  refine c1.mono ?_
  rintro e w1 ⟨x', rfl, ex, hx', hb1, fx⟩
  go_wp2_with fail
  refine (c2 w1 (hy.mono hb1)).mono ?_
  rintro e w2 ⟨y', rfl, ey, hy', hb2, fy⟩
  replace hx' := hx'.mono hb2
  have hz2 := hide hb1.size
  replace hb1 := below2 hb1 hb2
  go_wp2_with fail
  refine (c3 w2 (hz.mono hb1)).mono ?_
  rintro e w3 ⟨z', rfl, ez, hz', hb3, fz⟩
  replace hx' := hx'.mono hb3
  replace hy' := hy'.mono hb3
  have hz3 := hide hb1.size
  replace hb1 := below2 hb1 hb3
  replace h := h.mono hb1
  clear hb2 hb3 c1 c2 c3 hx hy hz
  obtain ⟨vr, R, vh, H, h⟩ := h
  have hb0 := h.lt
  go_wp2_with fail
  refine name_world fun w4 hN => ?_
  have gT : Blk w4 w3.heap.size #[.slice x'.ad x'.l.length x'.cap, .slice y'.ad y'.l.length y'.cap, .slice z'.ad z'.l.length z'.cap] 97 := by rw [hN]; exact Blk.newAt rfl
  have hb4 : Below w3.heap.size w3 w4 := by rw [hN]; exact (Below.refl _ _).alloc (Nat.le_refl _) _
  clear hN
  replace h := h.mono hb4
  replace hx' := hx'.mono hb4
  replace hy' := hy'.mono hb4
  replace hz' := hz'.mono hb4
  replace hb1 := below2 hb1 hb4
  replace hb0 : base ≤ w4.heap.size := h.lt
  clear hb4
  obtain ⟨r, hr⟩ : ∃ r : Rw, r = ⟨x', y', z'⟩ := ⟨_, rfl⟩
  have hrl : R.length < 1073741823 := by
    have := congrArg List.length h.rv
    rw [List.length_map] at this
    omega
  have hrv : Hid (r.val = ⟨x.l, y.l, z.l⟩) := hide (by rw [hr]; unfold Rw.val; rw [ex.out, ey.out, ez.out])
  have hav : Hid (Av A r.a ∧ Av A r.b ∧ Av A r.c) := hide (by
    rw [hr]
    exact ⟨fun _ a e hq => by have := fx.out a e; have := hA _ hq; omega, fun _ a e hq => by have := fy.out a e; have := hA _ hq; have := hz2.out; omega, fun _ a e hq => by have := fz.out a e; have := hA _ hq; have := hz3.out; omega⟩)
  clear fx fy fz hz2 hz3 hA
  have hown := h.rows
  have gB := h.blk
  have c4 := gB.cell (j := 4) (v := vr) rfl
  have t0 := gT.cell (j := 0) (v := .slice x'.ad x'.l.length x'.cap) rfl
  have t1 := gT.cell (j := 1) (v := .slice y'.ad y'.l.length y'.cap) rfl
  have t2 := gT.cell (j := 2) (v := .slice z'.ad z'.l.length z'.cap) rfl
  have c4a := cell_below ((Below.refl w4.heap.size w4).alloc (Nat.le_refl _) (.cells #[.slice x'.ad x'.l.length x'.cap, .slice y'.ad y'.l.length y'.cap, .slice z'.ad z'.l.length z'.cap] 97)) c4
  clear lx ly lz hS ex ey ez
  have hnb : vr.ownBlock ≠ some b := hown.neq gB (by decide)
  go_region_law
    ((refine step_appG rwL 97 r (by rfl) _ _ 42 (by rfl) base _ _ Tryz.underlying42 Tryz.infoRw rfl (by decide) vr R (by rfl) (hown.alloc _) w4.heap.size (by rfl) _ (Blk.newAt rfl) (by rw [hr]; rfl) hrl (by simp; omega) ?_; intro v6 w6 hown6 hg; obtain ⟨a6, c6, e6, _⟩ := hown6.sl; subst e6; have gB6 := hg.blk (gB.mono ((Below.refl _ _).alloc (Nat.le_refl _) _).drew) hnb; have hfr := gB6.free 4; have hc6 := gB6.cell (j := 4) (v := vr) rfl))
  all_goals
    have hbA : Below w4.heap.size w4 (w4.alloc (.cells #[.slice x'.ad x'.l.length x'.cap, .slice y'.ad y'.l.length y'.cap, .slice z'.ad z'.l.length z'.cap] 97)).drew := ((Below.refl _ _).alloc (Nat.le_refl _) _).drew
    have hA := (h.mono hbA).addRow hg hown6 (r := r) (by rw [hr]; exact ⟨hx'.mono hbA, hy'.mono hbA, hz'.mono hbA⟩) hav.out
    rw [hrv.out, show (R ++ [r]).length = R.length + 1 by simp] at hA
    exact bodyPost_end (v := .tuple #[]) (by simp [results, Tryz.results101, go_sem]) rfl ⟨rfl, ⟨_, _, _, _, hA.1⟩, (Kept.of_below (below2 hb1 hbA) hb00).trans hA.2⟩
theorem row20_any (base b : Nat) (S : St) (x y z : Lc) (w : World) (h : Bld w base b S) (hx : LcOk w x) (hy : LcOk w y) (hz : LcOk w z) (lx : x.l.length < 1073741823) (ly : y.l.length < 1073741823) (lz : z.l.length < 1073741823) (hS : S.R.length < 1073741823) :
    Calls Tryz.prog 101 #[.pointer (some ⟨b, 0, none⟩), .slice x.ad x.l.length x.cap, .slice y.ad y.l.length y.cap, .slice z.ad z.l.length z.cap] w (RetV w base b { S with R := S.R ++ [⟨x.l, y.l, z.l⟩] }) :=
  row20A_any (fun _ => False) base b S x y z w h (fun _ hq => hq.elim) hx hy hz lx ly lz hS
end Go.Proofs.YtalmgeefkcebdaaGreatDoor

/- Gadgets: a variable with a hint is added to a builder. -/
namespace Go.Proofs.YtalmgeefkcebdaaGreatDoor
open Go.RowKit

/-- A linear combination, among the relational operations of a region. -/
def IsLn (L : Lin) (v : Value) (w : World) : Prop := ∃ s : Lc, v = .slice s.ad s.l.length s.cap ∧ Hid (s.l = L) ∧ LinT w s
def IsLnF (n : Nat) (L : Lin) (v : Value) (w : World) : Prop := ∃ s : Lc, v = .slice s.ad s.l.length s.cap ∧ Hid (s.l = L) ∧ LinT w s ∧ Hid (∀ a, s.ad = some a → n ≤ a.block)
theorem IsLnF.mono {n : Nat} {L : Lin} {v : Value} {w w' : World} (h : IsLnF n L v w) (hb : Below w.heap.size w w') : IsLnF n L v w' := by
  obtain ⟨s, h1, h2, h3, h4⟩ := h
  exact ⟨s, h1, h2, h3.mono hb, h4⟩
theorem rU_lnF {P : Program} {f : FuncId} {args : Array Value} {W : World} {q : Later} {L : Lin} (h : Calls P f args (later W q) (fun e w' => ∃ s' : Lc, e = .returned (.slice s'.ad s'.l.length s'.cap) ∧ Hid (s'.l = L) ∧ LinT w' s' ∧ Below (later W q).heap.size (later W q) w' ∧ Hid (∀ a, s'.ad = some a → (later W q).heap.size ≤ a.block))) :
    Rel.rUpon P (later W q) false (IsLnF W.heap.size L) (.ok (.enter f args) (later W q)) :=
  ⟨rfl, h.mono fun _ _ ⟨s, he, h1, h2, hb, h3⟩ => ⟨_, he, hb, ⟨s, rfl, h1, h2, hide fun a ha => Nat.le_trans (below_later W q).size (h3.out a ha)⟩, fun h => by cases h⟩⟩
theorem IsLn.mono {L : Lin} {v : Value} {w w' : World} (h : IsLn L v w) (hb : Below w.heap.size w w') : IsLn L v w' := by
  obtain ⟨s, h1, h2, h3⟩ := h
  exact ⟨s, h1, h2, h3.mono hb⟩
theorem rU_ln {P : Program} {f : FuncId} {args : Array Value} {W : World} {q : Later} {L : Lin} (h : Calls P f args (later W q) (RetLn (later W q) L)) :
    Rel.rUpon P (later W q) false (IsLn L) (.ok (.enter f args) (later W q)) :=
  ⟨rfl, h.mono fun _ _ ⟨s, he, h1, h2, hb⟩ => ⟨_, he, hb, ⟨s, rfl, h1, h2⟩, fun h => by cases h⟩⟩
theorem rU_of' {P : Program} {w : World} {fr fr' : Bool} {φ : Value → World → Prop} {r r' : Result Next} (hf : fr' = fr) (h : r' = r) (h2 : Rel.rUpon P w fr φ r) : Rel.rUpon P w fr' φ r' := by
  subst hf h; exact h2

theorem BS.addHint {w w' : World} {base b : Nat} {S : St} {vr vh vh' : Value} {R : List Rw} {H : List Hn} {r : Hn} {A : Nat → Prop} (h : BS w base b S vr R vh H A) (hg : Grew w w' vh vh') (ho : OwnG hnL w' base 134 vh' (H ++ [r])) (hr : LinT w r.a ∧ LinT w r.b ∧ (Lit.int .i64 r.k).wf = true ∧ (Lit.int .i64 r.bit).wf = true) (hav : Av A r.a ∧ Av A r.b) :
    BS (w'.setCell ⟨b, 6, none⟩ vh') base b { S with H := S.H ++ [r.val] } vr R vh' (H ++ [r]) A ∧ Kept base w (w'.setCell ⟨b, 6, none⟩ vh') := by
  have g1 := hg.blk h.blk (h.hints.neq h.blk (by decide))
  have k1 := Kept.grewG h.hints hg (.inr rfl) h.lt
  have k : Kept base w (w'.setCell ⟨b, 6, none⟩ vh') := k1.trans (Kept.setB g1 h.lo)
  refine ⟨⟨g1.set 6 vh', h.lo, (h.rows.grewT h.hints hg (by decide)).other ((h.rows.grewT h.hints hg (by decide)).neq g1 (by decide)) _, ho.other (ho.neq g1 (by decide)) _, fun q hq => ?_, fun q hq => ?_, h.rv, by rw [List.map_append, h.hv]; rfl, h.rav, fun q hq => by
    rcases List.mem_append.1 hq with h1 | h1
    · exact h.hav q h1
    · rw [List.mem_singleton] at h1; subst h1; exact hav⟩, k⟩
  · obtain ⟨i1, i2, i3⟩ := h.rok q hq
    exact ⟨k.lin i1, k.lin i2, k.lin i3⟩
  · rcases List.mem_append.1 hq with h1 | h1
    · obtain ⟨i1, i2, i3⟩ := h.hok q h1
      exact ⟨k.lin i1, k.lin i2, i3⟩
    · rw [List.mem_singleton] at h1
      subst h1
      exact ⟨k.lin hr.1, k.lin hr.2.1, hr.2.2⟩
theorem BS.setVars {w : World} {base b : Nat} {S : St} {vr vh : Value} {R : List Rw} {H : List Hn} {A : Nat → Prop} (h : BS w base b S vr R vh H A) (n : Int) :
    BS (w.setCell ⟨b, 3, none⟩ (.int .i64 n)) base b { S with vars := n } vr R vh H A ∧ Kept base w (w.setCell ⟨b, 3, none⟩ (.int .i64 n)) := by
  have k : Kept base w (w.setCell ⟨b, 3, none⟩ (.int .i64 n)) := Kept.setB h.blk h.lo
  refine ⟨⟨h.blk.set 3 _, h.lo, h.rows.other (h.rows.neq h.blk (by decide)) _, h.hints.other (h.hints.neq h.blk (by decide)) _, fun q hq => ?_, fun q hq => ?_, h.rv, h.hv, h.rav, h.hav⟩, k⟩
  · obtain ⟨i1, i2, i3⟩ := h.rok q hq
    exact ⟨k.lin i1, k.lin i2, k.lin i3⟩
  · obtain ⟨i1, i2, i3⟩ := h.hok q hq
    exact ⟨k.lin i1, k.lin i2, i3⟩

theorem Kept.setH {w : World} {base b j : Nat} {cs : Array Value} {u : Value} (g : Blk w b cs 134) (hb : base ≤ b) : Kept base w (w.setCell ⟨b, j, none⟩ u) :=
  ⟨(Below.refl _ _).setCell hb _, fun q cs' T' g' _ h2 _ => g'.other (fun e => by subst e; exact h2 (blk_type g' g)) _ _, fun _ _ _ h => map_setCell h (map_ne h g) _⟩
/-- What a gadget with a result does. -/
def RetB (w : World) (base b : Nat) (S : St) (L : Lin) (e : Ending) (w' : World) (A : Nat → Prop := fun _ => False) : Prop := ∃ s : Lc, e = .returned (.slice s.ad s.l.length s.cap) ∧ Hid (s.l = L) ∧ LinT w' s ∧ Bld w' base b S A ∧ Kept base w w'

set_option maxRecDepth 10000 in
set_option maxHeartbeats 4000000 in
theorem hint20A_any (A : Nat → Prop) (base b : Nat) (S : St) (k : Int) (x y : Lc) (bit : Int) (w : World) (h : Bld w base b S A) (hA : ∀ q, A q → q < w.heap.size) (hv : vld S.p = true) (hx : LcOk w x) (hy : LcOk w y) (lx : x.l.length < 1073741823) (ly : y.l.length < 1073741823) (hS : S.H.length < 1073741823) (hV : 0 ≤ S.vars ∧ S.vars < 1073741823)
    (hk : (Lit.int .i64 k).wf = true) (hbit : (Lit.int .i64 bit).wf = true) :
    Calls Tryz.prog 163 #[.pointer (some ⟨b, 0, none⟩), .agg #[.int .i64 k, .slice x.ad x.l.length x.cap, .slice y.ad y.l.length y.cap, .int .i64 bit]] w (fun e w' => RetB w base b { S with vars := S.vars + 1, H := S.H ++ [⟨k, x.l, y.l, bit⟩] } [(S.vars, 1)] e w' A) := by
  have hb00 : base ≤ w.heap.size := by obtain ⟨_, _, _, _, h⟩ := h; exact h.lt
  have c1 := fun W h => CloneF_any x W h (by omega)
  have c2 := fun W h => CloneF_any y W h (by omega)
  go_enter Tryz.func163, Tryz.ntmps163
  go_wp2_with fail
  refine name_world fun w1 hN => ?_
  have gT : Blk w1 w.heap.size #[.int .i64 k, .slice x.ad x.l.length x.cap, .slice y.ad y.l.length y.cap, .int .i64 bit] 134 := by rw [hN]; exact Blk.newAt rfl
  have hb1 : Below w.heap.size w w1 := by rw [hN]; exact (Below.refl _ _).alloc (Nat.le_refl _) _
  clear hN
  have t1 := cell_later' (gT.cell (j := 1) (v := .slice x.ad x.l.length x.cap) rfl)
  have t2 := cell_later' (gT.cell (j := 2) (v := .slice y.ad y.l.length y.cap) rfl)
  refine Rel.wp_region_mix 7 [] [(2, IsLnF w1.heap.size x.l), (5, IsLnF w1.heap.size y.l)] Tryz.mixed (by kernel_rfl) (by kernel_rfl) ?_ ?_
  rotate_left
  simp only [List.take_succ_cons, List.take_zero, List.drop_succ_cons, List.drop_zero, List.map_cons, List.map_nil]
  repeat (first | (refine Rel.wpA_b (by rfl) ?_) | (refine Rel.wpA_step (by rfl) fun K hK => ?_; go_simp; first | (refine hK _ ?_; clear hK K) | (apply Exists.intro; refine ⟨fun _ => ?_, hK _ ?_⟩; (first | fail); clear hK K)))
  refine Rel.wpA_nil ?_
  rotate_left
  · intro z hz v u u' h1 h2
    simp only [List.mem_cons, List.not_mem_nil, or_false] at hz
    rcases hz with rfl | rfl
    · exact IsLnF.mono h1 h2
    · exact IsLnF.mono h1 h2
  refine Rel.wpB_step _ rfl rfl (fun p' hc => ?_) (fun v2 => ?_)
  · refine rU_of' (fr := false) (r := .ok (.enter 52 #[.slice x.ad x.l.length x.cap]) (later w1 p')) (by kernel_rfl) (by kernel_rfl) ?_
    exact rU_lnF (c1 _ ((hx.mono hb1).mono (below_later _ _)))
  refine Rel.wpB_step _ rfl rfl (fun p' hc => ?_) (fun v5 => ?_)
  · refine rU_of' (fr := false) (r := .ok (.enter 52 #[.slice y.ad y.l.length y.cap]) (later w1 p')) (by kernel_rfl) (by kernel_rfl) ?_
    exact rU_lnF (c2 _ ((hy.mono hb1).mono (below_later _ _)))
  refine Rel.wpB_nil ?_
  intro p' hctx hfr
  simp only [List.nil_append, List.cons_append, List.mem_cons, List.not_mem_nil, or_false, forall_eq_or_imp, forall_eq] at hctx
  obtain ⟨⟨x', rfl, ex, hx', fx⟩, ⟨y', rfl, ey, hy', fy⟩⟩ := hctx
  have hz1 := hide hb1.size
  have hb2 : Below w1.heap.size w1 (later w1 p') := below_later _ _
  clear hfr t1 t2 c1 c2 hx hy lx ly
  generalize later w1 p' = w2 at *
  replace hb1 := below2 hb1 hb2
  replace gT := gT.mono hb2
  clear hb2
  have t1 := gT.cell (j := 1) (v := .slice x.ad x.l.length x.cap) rfl
  have t2 := gT.cell (j := 2) (v := .slice y.ad y.l.length y.cap) rfl
  have tf := gT.free
  go_wp2_with fail
  refine name_world fun w3 hN => ?_
  have gT3 : Blk w3 w.heap.size #[.int .i64 k, .slice x'.ad x'.l.length x'.cap, .slice y'.ad y'.l.length y'.cap, .int .i64 bit] 134 := by rw [hN]; exact (gT.set 1 (.slice x'.ad x'.l.length x'.cap)).set 2 (.slice y'.ad y'.l.length y'.cap)
  have hb3 : Below w.heap.size w w3 := by rw [hN]; exact (hb1.setCell (p := ⟨w.heap.size, 1, none⟩) (Nat.le_refl _) _).setCell (p := ⟨w.heap.size, 2, none⟩) (Nat.le_refl _) _
  have kk : Kept base w2 w3 := by rw [hN]; exact (Kept.setH gT hb00).trans (Kept.setH (gT.set 1 (.slice x'.ad x'.l.length x'.cap)) hb00)
  replace hx' := kk.lin hx'
  replace hy' := kk.lin hy'
  clear hN kk t1 t2 tf hb1 gT
  obtain ⟨vr, R, vh, H, h⟩ := h
  replace h := h.mono hb3
  have hb0 : base ≤ w3.heap.size := h.lt
  obtain ⟨r, hr⟩ : ∃ r : Hn, r = ⟨k, x', y', bit⟩ := ⟨_, rfl⟩
  have hrl : H.length < 1073741823 := by
    have := congrArg List.length h.hv
    rw [List.length_map] at this
    omega
  have hrv : Hid (r.val = ⟨k, x.l, y.l, bit⟩) := hide (by rw [hr]; unfold Hn.val; rw [ex.out, ey.out])
  have hav : Hid (Av A r.a ∧ Av A r.b) := hide (by
    rw [hr]
    exact ⟨fun _ a e hq => by have := fx.out a e; have := hA _ hq; have := hz1.out; omega, fun _ a e hq => by have := fy.out a e; have := hA _ hq; have := hz1.out; omega⟩)
  clear fx fy hz1 hA
  have hown := h.hints
  have gB := h.blk
  have c6 := gB.cell (j := 6) (v := vh) rfl
  have t0 := gT3.cell (j := 0) (v := .int .i64 k) rfl
  have t1 := gT3.cell (j := 1) (v := .slice x'.ad x'.l.length x'.cap) rfl
  have t2 := gT3.cell (j := 2) (v := .slice y'.ad y'.l.length y'.cap) rfl
  have t3 := gT3.cell (j := 3) (v := .int .i64 bit) rfl
  have c6a := cell_below ((Below.refl w3.heap.size w3).alloc (Nat.le_refl _) (.cells #[.int .i64 k, .slice x'.ad x'.l.length x'.cap, .slice y'.ad y'.l.length y'.cap, .int .i64 bit] 134)) c6
  have hnb : vh.ownBlock ≠ some b := hown.neq gB (by decide)
  clear hS ex ey
  go_region_law
    ((refine step_appG hnL 134 r (by rfl) _ _ 45 (by rfl) base _ _ Tryz.underlying45 Tryz.infoHn rfl (by decide) vh H (by rfl) (hown.alloc _) w3.heap.size (by rfl) _ (Blk.newAt rfl) (by rw [hr]; rfl) hrl (by simp; omega) ?_; intro v6 w6 hown6 hg; obtain ⟨a6, d6, e6, _⟩ := hown6.sl; subst e6; have gB6 := hg.blk (gB.mono ((Below.refl _ _).alloc (Nat.le_refl _) _).drew) hnb; have hfr := gB6.free 6; have hc6 := gB6.cell (j := 6) (v := vh) rfl))
  all_goals
    have hbA : Below w3.heap.size w3 (w3.alloc (.cells #[.int .i64 k, .slice x'.ad x'.l.length x'.cap, .slice y'.ad y'.l.length y'.cap, .int .i64 bit] 134)).drew := ((Below.refl _ _).alloc (Nat.le_refl _) _).drew
    have hA := (h.mono hbA).addHint hg hown6 (r := r) (by rw [hr]; exact ⟨hx'.mono hbA, hy'.mono hbA, hk, hbit⟩) hav.out
    rw [hrv.out, show (H ++ [r]).length = H.length + 1 by simp] at hA
    have kA := (Kept.of_below (below2 hb3 hbA) hb00).trans hA.2
    replace hA := hA.1
    clear hbA hg hown6 gB6 hfr hc6 c6 c6a t0 t1 t2 t3 hnb hown gB hrl hrv gT3 h hx' hy'
    generalize w6.setCell ⟨b, 6, none⟩ (.slice a6 (H.length + 1) d6) = w7 at *
    have gB := hA.blk
    have c3 := gB.cell (j := 3) (v := .int .i64 S.vars) rfl
    have cf := gB.free
    have hV0 := hV.1
    have hV1 := hV.2
    go_wp2_with fail
    have hS8 := hA.setVars (S.vars + 1)
    refine (variable20_any b _ _ S.p S.vars _ hS8.1.blk rfl hv (wfI ⟨by omega, by omega⟩)).mono ?_
    rintro e w9 ⟨s, rfl, es, hs, hb9⟩
    have kF := (kA.trans hS8.2).trans (Kept.of_below hb9 hS8.1.lt)
    have hF := hS8.1.mono hb9
    clear kA hA hS8 hb9 gB c3 cf
    go_wp2
    go_ret
    exact ⟨s, rfl, es, hs, ⟨_, _, _, _, hF⟩, kF⟩
theorem hint20_any (base b : Nat) (S : St) (k : Int) (x y : Lc) (bit : Int) (w : World) (h : Bld w base b S) (hv : vld S.p = true) (hx : LcOk w x) (hy : LcOk w y) (lx : x.l.length < 1073741823) (ly : y.l.length < 1073741823) (hS : S.H.length < 1073741823) (hV : 0 ≤ S.vars ∧ S.vars < 1073741823)
    (hk : (Lit.int .i64 k).wf = true) (hbit : (Lit.int .i64 bit).wf = true) :
    Calls Tryz.prog 163 #[.pointer (some ⟨b, 0, none⟩), .agg #[.int .i64 k, .slice x.ad x.l.length x.cap, .slice y.ad y.l.length y.cap, .int .i64 bit]] w (RetB w base b { S with vars := S.vars + 1, H := S.H ++ [⟨k, x.l, y.l, bit⟩] } [(S.vars, 1)]) :=
  hint20A_any (fun _ => False) base b S k x y bit w h (fun _ hq => hq.elim) hv hx hy lx ly hS hV hk hbit
end Go.Proofs.YtalmgeefkcebdaaGreatDoor

/- Gadgets: Mul, Not, Assert, Boolean, IsZero, Equal, And, Or of the program. -/
namespace Go.Proofs.YtalmgeefkcebdaaGreatDoor
open Go.RowKit

/-- The gadgets, on values. -/
def addL (p : Int) (x y : Lin) : Lin := addP p x y 1
def subL (p : Int) (x y : Lin) : Lin := addP p x y (fneg p 1)
def gRow (S : St) (x y z : Lin) : St := { S with R := S.R ++ [⟨x, y, z⟩] }
def gHint (S : St) (k : Int) (x y : Lin) (bit : Int) : St := { S with vars := S.vars + 1, H := S.H ++ [⟨k, x, y, bit⟩] }
def nv (S : St) : Lin := [(S.vars, 1)]
def gMul (S : St) (x y : Lin) : St := gRow (gHint S 1 x y 0) x y (nv S)
def gNot (p : Int) (x : Lin) : Lin := subL p [(0, 1)] x
def gAssert (S : St) (x y : Lin) : St := gRow S (subL S.p x y) [(0, 1)] []
def gIsZero (S : St) (x : Lin) : St × Lin :=
  let S1 := gHint S 2 x [] 0
  let S2 := gMul S1 x (nv S)
  let z := gNot S.p (nv S1)
  (gRow (gRow S2 x z []) (nv S) z [], z)
def gEqual (S : St) (x y : Lin) : St × Lin := gIsZero S (subL S.p x y)
/-- Bounds of a circuit under way. -/
structure Bd (S : St) (n : Int) : Prop where
  v : 0 ≤ S.vars ∧ S.vars ≤ n
  r : (S.R.length : Int) ≤ n
  h : (S.H.length : Int) ≤ n
theorem Bd.up {S : St} {n m : Int} (h : Bd S n) (hm : n ≤ m) : Bd S m := ⟨⟨h.v.1, by have := h.v.2; omega⟩, by have := h.r; omega, by have := h.h; omega⟩
theorem Bd.row {S : St} {n : Int} {x y z : Lin} (h : Bd S n) : Bd (gRow S x y z) (n + 1) := ⟨⟨h.v.1, by have := h.v.2; show S.vars ≤ _; omega⟩, by have := h.r; show ((S.R ++ [_]).length : Int) ≤ _; simp; omega, by have := h.h; show (S.H.length : Int) ≤ _; omega⟩
theorem Bd.hint {S : St} {n k bit : Int} {x y : Lin} (h : Bd S n) : Bd (gHint S k x y bit) (n + 1) := ⟨⟨by have := h.v.1; show 0 ≤ S.vars + 1; omega, by have := h.v.2; show S.vars + 1 ≤ _; omega⟩, by have := h.r; show (S.R.length : Int) ≤ _; omega, by have := h.h; show ((S.H ++ [_]).length : Int) ≤ _; simp; omega⟩
theorem Bd.mul {S : St} {n : Int} {x y : Lin} (h : Bd S n) : Bd (gMul S x y) (n + 2) := (h.hint.row).up (by omega)
theorem addP_len (p : Int) (x y : Lin) (n : Int) : (addP p x y n).length ≤ x.length + y.length := by
  unfold addP
  split
  · exact comb_len _ _ _ _
  · simp

set_option maxHeartbeats 1000000 in
theorem Mul20_any (base b : Nat) (S : St) (n : Int) (x y : Lc) (w : World) (h : Bld w base b S) (hv : vld S.p = true) (hS : Bd S n) (hn : n ≤ 1000000000) (hx : LinT w x) (hy : LinT w y) (lx : x.l.length ≤ 1000000) (ly : y.l.length ≤ 1000000) :
    Calls Tryz.prog 202 #[.pointer (some ⟨b, 0, none⟩), .slice x.ad x.l.length x.cap, .slice y.ad y.l.length y.cap] w (RetB w base b (gMul S x.l y.l) (nv S)) := by
  have cH := hint20_any base b S 1 x y 0 w h hv hx.ok hy.ok (by omega) (by omega) (by have := hS.h; omega) ⟨hS.v.1, by have := hS.v.2; omega⟩ (by decide) (by decide)
  have hr := hS.hint (k := 1) (bit := 0) (x := x.l) (y := y.l) |>.r
  go_enter Tryz.func202, Tryz.ntmps202
  go_wp2_with fail
  refine cH.mono ?_
  rintro e w1 ⟨s, rfl, es, hs, hB1, k1⟩
  have ls : s.l.length = 1 := by rw [es.out]; rfl
  have cR := row20_any base b (gHint S 1 x.l y.l 0) x y s w1 hB1 (k1.lin hx).ok (k1.lin hy).ok hs.ok (by omega) (by omega) (by omega) (by omega)
  rw [show s.l = nv S from es.out] at cR
  replace ls := hide ls
  rw [show (nv S).length = s.l.length by rw [ls.out]; rfl] at cR
  clear cH hr
  go_wp2_with fail
  refine cR.mono ?_
  rintro e w2 ⟨rfl, hB2, k2⟩
  go_wp2
  go_ret
  exact ⟨s, rfl, es, k2.lin hs, hB2, k1.trans k2⟩

theorem Bld.cell0 {w : World} {base b : Nat} {S : St} {A : Nat → Prop} (h : Bld w base b S A) : ∃ cs, Blk w b cs 115 ∧ cs[0]? = some (.int .u64 S.p) := by
  obtain ⟨vr, R, vh, H, h⟩ := h
  exact ⟨_, h.blk, rfl⟩
theorem Bld.lt {w : World} {base b : Nat} {S : St} {A : Nat → Prop} (h : Bld w base b S A) : base ≤ w.heap.size := by
  obtain ⟨vr, R, vh, H, h⟩ := h
  exact h.lt

set_option maxHeartbeats 1000000 in
theorem Assert20_any (base b : Nat) (S : St) (n : Int) (x y : Lc) (w : World) (h : Bld w base b S) (hv : vld S.p = true) (hS : Bd S n) (hn : n ≤ 1000000000) (hx : LinT w x) (hy : LinT w y) (lx : x.l.length ≤ 1000000) (ly : y.l.length ≤ 1000000) :
    Calls Tryz.prog 47 #[.pointer (some ⟨b, 0, none⟩), .slice x.ad x.l.length x.cap, .slice y.ad y.l.length y.cap] w (RetV w base b (gAssert S x.l y.l)) := by
  obtain ⟨cs, g, hc0⟩ := h.cell0
  have c0 := g.cell hc0
  have cS := gSub_any S.p x y w hx.ok hy.ok (fun _ => by omega)
  have hl := addP_len S.p x.l y.l (fneg S.p 1)
  go_enter Tryz.func47, Tryz.ntmps47
  go_wp2_with fail
  refine cS.mono ?_
  rintro e w1 ⟨s, rfl, es, hs, hb1⟩
  have cO := one_any b cs _ S.p w1 (g.mono hb1) hc0 hv
  clear c0 cS
  go_wp2_with fail
  refine cO.mono ?_
  rintro e w2 ⟨o, rfl, eo, ho, hb2⟩
  have lo : o.l.length = 1 := by rw [eo.out]; rfl
  have ls : s.l.length ≤ 2000000 := by rw [es.out]; omega
  have hb := below2 hb1 hb2
  have cR := row20_any base b S s o ⟨none, 0, []⟩ w2 (h.mono hb) (hs.mono hb2).ok ho.ok (LinT.nil _).ok (by omega) (by omega) (by simp) (by have := hS.r; omega)
  simp only [List.length_nil] at cR
  rw [show (⟨s.l, o.l, []⟩ : Row3) = ⟨subL S.p x.l y.l, [(0, 1)], []⟩ by rw [es.out, eo.out]; rfl] at cR
  clear cO hl
  replace lo := hide lo
  go_wp2_with fail
  refine cR.mono ?_
  rintro e w3 ⟨rfl, hB2, k2⟩
  go_wp2
  exact bodyPost_end (v := .tuple #[]) (by simp [results, Tryz.results47, go_sem]) rfl ⟨rfl, hB2, (Kept.of_below hb h.lt).trans k2⟩

set_option maxRecDepth 10000 in
set_option maxHeartbeats 1000000 in
theorem Not20_any (b : Nat) (cs : Array Value) (T : TypeId) (p : Int) (x : Lc) (w : World) (g : Blk w b cs T) (h0 : cs[0]? = some (.int .u64 p)) (hv : vld p = true) (hx : LcOk w x) (lx : x.l.length ≤ 1000000) :
    Calls Tryz.prog 158 #[.pointer (some ⟨b, 0, none⟩), .slice x.ad x.l.length x.cap] w (RetLn w (gNot p x.l)) := by
  have c0 := cell_later' (g.cell h0)
  have cO := fun P => one_any b cs _ p (later w P) (g.mono (below_later _ _)) h0 hv
  go_enter Tryz.func158, Tryz.ntmps158
  go_wp2_with fail
  refine Rel.wp_region_mix 8 [] [(6, IsLn [(0, 1)])] Tryz.mixed (by kernel_rfl) (by kernel_rfl) ?_ ?_
  rotate_left
  simp only [List.take_succ_cons, List.take_zero, List.drop_succ_cons, List.drop_zero, List.map_cons, List.map_nil]
  repeat (first | (refine Rel.wpA_b (by rfl) ?_) | (refine Rel.wpA_step (by rfl) fun K hK => ?_; go_simp; first | (refine hK _ ?_; clear hK K) | (apply Exists.intro; refine ⟨fun _ => ?_, hK _ ?_⟩; (first | fail); clear hK K)))
  refine Rel.wpA_nil ?_
  rotate_left
  · intro z hz v u u' h1 h2
    simp only [List.mem_cons, List.not_mem_nil, or_false] at hz
    subst hz
    exact IsLn.mono h1 h2
  refine Rel.wpB_step _ rfl rfl (fun p' hc => ?_) (fun v6 => ?_)
  · refine rU_of' (fr := false) (r := .ok (.enter 103 #[.pointer (some ⟨b, 0, none⟩)]) (later w p')) (by kernel_rfl) (by kernel_rfl) ?_
    exact rU_ln (cO p')
  refine Rel.wpB_nil ?_
  intro p' hctx hfr
  simp only [List.nil_append, List.mem_cons, List.not_mem_nil, or_false, forall_eq] at hctx
  obtain ⟨o, rfl, eo, ho⟩ := hctx
  have hb := below_later w p'
  clear hfr c0 cO
  generalize later w p' = w2 at *
  have lo : o.l.length = 1 := by rw [eo.out]; rfl
  have cS := gSub_any p o x w2 ho.ok (hx.mono hb) (fun _ => by omega)
  rw [show addP p o.l x.l (fneg p 1) = gNot p x.l by rw [eo.out]; rfl] at cS
  replace lo := hide lo
  go_wp2_with fail
  refine cS.mono ?_
  rintro e w3 ⟨s, rfl, es, hs, hb3⟩
  go_wp2
  go_ret
  exact ⟨s, rfl, es, hs, below2 hb hb3⟩
end Go.Proofs.YtalmgeefkcebdaaGreatDoor


/- Gadgets: IsZero, Equal, And, Or of the program. -/
namespace Go.Proofs.YtalmgeefkcebdaaGreatDoor
open Go.RowKit

set_option maxRecDepth 10000 in
set_option maxHeartbeats 2000000 in
theorem IsZero20_any (base b : Nat) (S : St) (n : Int) (x : Lc) (w : World) (h : Bld w base b S) (hv : vld S.p = true) (hS : Bd S n) (hn : n ≤ 900000000) (hx : LinT w x) (lx : x.l.length ≤ 1000000) :
    Calls Tryz.prog 203 #[.pointer (some ⟨b, 0, none⟩), .slice x.ad x.l.length x.cap] w (RetB w base b (gIsZero S x.l).1 (gIsZero S x.l).2) := by
  have cH := hint20_any base b S 2 x ⟨none, 0, []⟩ 0 w h hv hx.ok (LinT.nil w).ok (by omega) (by simp) (by have := hS.h; omega) ⟨hS.v.1, by have := hS.v.2; omega⟩ (by decide) (by decide)
  simp only [List.length_nil] at cH
  have hS1 := hS.hint (k := 2) (bit := 0) (x := x.l) (y := [])
  go_enter Tryz.func203, Tryz.ntmps203
  go_wp2_with fail
  refine cH.mono ?_
  rintro e w1 ⟨v, rfl, ev, hv1, hB1, k1⟩
  have lv : v.l.length = 1 := by rw [ev.out]; rfl
  have cM := Mul20_any base b (gHint S 2 x.l [] 0) (n + 1) x v w1 hB1 hv hS1 (by omega) (k1.lin hx) hv1 lx (by omega)
  rw [show v.l = nv S from ev.out] at cM
  replace lv := hide lv
  rw [show (nv S).length = v.l.length by rw [lv.out]; rfl] at cM
  clear cH
  go_wp2_with fail
  refine cM.mono ?_
  rintro e w2 ⟨m, rfl, em, hm, hB2, k2⟩
  have lm : m.l.length = 1 := by rw [em.out]; rfl
  obtain ⟨cs, g, hc0⟩ := hB2.cell0
  have cN := Not20_any b cs _ S.p m w2 g hc0 hv hm.ok (by omega)
  rw [show m.l = nv (gHint S 2 x.l [] 0) from em.out] at cN
  replace lm := hide lm
  rw [show (nv (gHint S 2 x.l [] 0)).length = m.l.length by rw [lm.out]; rfl] at cN
  clear cM g hc0
  go_wp2_with fail
  refine cN.mono ?_
  rintro e w3 ⟨z, rfl, ez, hz, hb3⟩
  have lz : z.l.length ≤ 2 := by rw [ez.out]; exact addP_len S.p [(0, 1)] (nv (gHint S 2 x.l [] 0)) _
  have hS2 := hS1.mul (x := x.l) (y := nv S)
  have k12 := k1.trans k2
  have cR := row20_any base b (gMul (gHint S 2 x.l [] 0) x.l (nv S)) x z ⟨none, 0, []⟩ w3 (hB2.mono hb3) ((k12.lin hx).mono hb3).ok hz.ok (LinT.nil _).ok (by omega) (by omega) (by simp) (by have := hS2.r; omega)
  simp only [List.length_nil] at cR
  clear cN
  go_wp2_with fail
  refine cR.mono ?_
  rintro e w4 ⟨rfl, hB4, k4⟩
  have hS4 := hS2.row (x := x.l) (y := z.l) (z := [])
  have cR2 := row20_any base b (gRow (gMul (gHint S 2 x.l [] 0) x.l (nv S)) x.l z.l []) v z ⟨none, 0, []⟩ w4 hB4 (k4.lin ((k2.lin hv1).mono hb3)).ok (k4.lin hz).ok (LinT.nil _).ok (by have := lv.out; omega) (by omega) (by simp) (by have := hS4.r; omega)
  simp only [List.length_nil] at cR2
  rw [show ({ (gRow (gMul (gHint S 2 x.l [] 0) x.l (nv S)) x.l z.l []) with R := (gRow (gMul (gHint S 2 x.l [] 0) x.l (nv S)) x.l z.l []).R ++ [⟨v.l, z.l, []⟩] } : St) = (gIsZero S x.l).1 by rw [ev.out, ez.out]; rfl] at cR2
  clear cR hS4 hS2 hS1 hS lz
  go_wp2_with fail
  refine cR2.mono ?_
  rintro e w5 ⟨rfl, hB5, k5⟩
  clear cR2
  go_wp2
  go_ret
  exact ⟨z, rfl, ez, k5.lin (k4.lin hz), hB5, ((k12.trans (Kept.of_below hb3 hB2.lt)).trans k4).trans k5⟩

set_option maxHeartbeats 1000000 in
theorem Equal20_any (base b : Nat) (S : St) (n : Int) (x y : Lc) (w : World) (h : Bld w base b S) (hv : vld S.p = true) (hS : Bd S n) (hn : n ≤ 900000000) (hx : LinT w x) (hy : LinT w y) (lx : x.l.length ≤ 400000) (ly : y.l.length ≤ 400000) :
    Calls Tryz.prog 162 #[.pointer (some ⟨b, 0, none⟩), .slice x.ad x.l.length x.cap, .slice y.ad y.l.length y.cap] w (RetB w base b (gEqual S x.l y.l).1 (gEqual S x.l y.l).2) := by
  obtain ⟨cs, g, hc0⟩ := h.cell0
  have c0 := g.cell hc0
  have cS := gSub_any S.p x y w hx.ok hy.ok (fun _ => by omega)
  have hl := addP_len S.p x.l y.l (fneg S.p 1)
  go_enter Tryz.func162, Tryz.ntmps162
  go_wp2_with fail
  refine cS.mono ?_
  rintro e w1 ⟨s, rfl, es, hs, hb1⟩
  have cZ := IsZero20_any base b S n s w1 (h.mono hb1) hv hS hn hs (by rw [es.out]; omega)
  rw [show gIsZero S s.l = gEqual S x.l y.l by rw [es.out]; rfl] at cZ
  clear cS c0 hl
  go_wp2_with fail
  refine cZ.mono ?_
  rintro e w2 ⟨z, rfl, ez, hz, hB2, k2⟩
  clear cZ
  go_wp2
  go_ret
  exact ⟨z, rfl, ez, hz, hB2, (Kept.of_below hb1 h.lt).trans k2⟩

end Go.Proofs.YtalmgeefkcebdaaGreatDoor

/- Gadgets: slices that are filled element by element, beside a builder. -/
namespace Go.Proofs.YtalmgeefkcebdaaGreatDoor
open Go.RowKit

/-- A slice of linear combinations. -/
def lcL : Lay Lc := ⟨fun s => [lcV s], 1, fun _ => rfl, by decide, fun x u hu => by
  rw [List.mem_singleton] at hu; subst hu; rfl⟩
theorem Tryz.infoLc : (Tryz.prog.info? 95).map (fun i => (i.zero, i.size, i.bytes)) = some (some (.slice none 0 0), 1, 24) := by kernel_rfl

theorem OwnG.made {α : Type} {L : Lay α} {w : World} {base cap : Nat} {E : TypeId} {cs : Array Value} (d : α) (hcs : cs.toList = L.f d) (hb : base ≤ w.heap.size) (hm : cap ≤ maxLen) :
    OwnG L (w.alloc (.cells (madeCells cs (cap * L.m)) E)) base E (.slice (some ⟨w.heap.size, 0, none⟩) cap cap) (List.replicate cap d) := by
  have hsz : cs.size = L.m := by rw [← Array.length_toList, hcs, L.len]
  have h := OwnG.of_blk (L := L) (xs := List.replicate cap d) (cap := cap) hb (Blk.new w (madeCells cs (cap * L.m)) E) (by simp) hm (by simp [madeCells]) (by
    rw [List.length_replicate, List.take_of_length_le (by simp [madeCells])]
    refine List.ext_getElem? fun k => ?_
    by_cases hk : k < cap * L.m
    · have hj : k % L.m < L.m := Nat.mod_lt _ L.pos
      have hi : k / L.m < cap := Nat.div_lt_of_lt_mul (by rw [Nat.mul_comm]; exact hk)
      have e : k = k / L.m * L.m + k % L.m := by rw [Nat.mul_comm]; exact (Nat.div_add_mod k L.m).symm
      have h2 := L.flat_get (List.replicate cap d) d (i := k / L.m) (j := k % L.m) (by simpa using hi) hj
      rw [← e] at h2
      rw [h2, List.getD_eq_getElem?_getD, List.getElem?_replicate, if_pos hi, Option.getD_some, ← hcs]
      unfold madeCells
      rw [Array.getElem?_toList, Array.getElem?_map, Array.getElem?_range, if_pos hk, Array.getElem?_toList, Option.map_some, hsz]
      have hl : k % L.m < cs.size := by rw [hsz]; exact hj
      rw [Array.getElem?_eq_getElem hl]
      simp [hl]
    · rw [List.getElem?_eq_none (by simp [madeCells]; omega), List.getElem?_eq_none (by rw [L.flat_len, List.length_replicate]; omega)])
  rw [List.length_replicate] at h
  exact h

section
variable {w : World} {base g n cap : Nat} {E : TypeId}
theorem OwnG.blkE {α : Type} {L : Lay α} {xs : List α} (h : OwnG L w base E (.slice (some ⟨g, 0, none⟩) n cap) xs) : base ≤ g ∧ ∃ cs, Blk w g cs E := by
  rcases h.form with ⟨h0, _⟩ | ⟨g', cap', cur, h0, h1, h2, _⟩
  · cases h0
  · cases h0; exact ⟨h1, cur, h2⟩
theorem OwnG.slE {α : Type} {L : Lay α} {ad : Option Addr} {xs : List α} (h : OwnG L w base E (.slice ad n cap) xs) : SlG L w ad xs := by
  obtain ⟨a, c, e, hs, _⟩ := h.sl
  cases e
  exact hs
/-- The cells of an element. -/
theorem OwnG.cellE {α : Type} {L : Lay α} {xs : List α} (d : α) (h : OwnG L w base E (.slice (some ⟨g, 0, none⟩) n cap) xs) {i j : Nat} {u : Value} (hi : i < xs.length) (hj : j < L.m) (hu : (L.f (xs.getD i d))[j]? = some u) : w.cell? ⟨g, i * L.m + j, none⟩ = some u := by
  obtain ⟨b, off, e, _, hc⟩ := h.slE (by omega)
  cases e
  have := hc (i * L.m + j) u (by rw [L.flat_get xs d hi hj]; exact hu)
  rwa [Nat.zero_add] at this
end

theorem Kept.ownG {α : Type} {L : Lay α} {w w' : World} {base b0 : Nat} {E : TypeId} {v : Value} {xs : List α} (k : Kept base w w') (h : OwnG L w b0 E v xs) (h1 : E ≠ 97) (h2 : E ≠ 134) (h3 : E ≠ 115) : OwnG L w' b0 E v xs := by
  rcases h.form with ⟨rfl, rfl⟩ | ⟨g, cap, cur, rfl, g1, g2, g3, g4, g5, g6⟩
  · exact OwnG.nil _ _ _ _
  · exact OwnG.of_blk g1 (k.typ g cur E g2 h1 h2 h3) g3 g4 g5 g6
/-- A cell of a block that was not there at first. -/
theorem Kept.setNew {base : Nat} {w wr : World} (k : Kept base w wr) {g j : Nat} (hg : w.heap.size ≤ g) (hb : base ≤ w.heap.size) (u : Value) : Kept base w (wr.setCell ⟨g, j, none⟩ u) :=
  ⟨k.below.setCell (by show base ≤ g; omega) _, fun b cs T gb h1 h2 h3 => (k.typ b cs T gb h1 h2 h3).other (fun e => by subst e; have := gb.lt; omega) _ _, fun b es c h => map_setCell (k.mp b es c h) (fun e => by have := (Array.getElem?_eq_some_iff.1 h).1; omega) _⟩
theorem Bld.other {w : World} {base b g : Nat} {S : St} {cs : Array Value} {E : TypeId} {A : Nat → Prop} (h : Bld w base b S A) (gb : Blk w g cs E) (h1 : E ≠ 97) (h2 : E ≠ 134) (h3 : E ≠ 115) (j : Nat) (u : Value) (hl : ∀ s, LinT w s → Av A s → LinT (w.setCell ⟨g, j, none⟩ u) s) : Bld (w.setCell ⟨g, j, none⟩ u) base b S A := by
  obtain ⟨vr, R, vh, H, h⟩ := h
  exact ⟨vr, R, vh, H, h.blk.other (fun e => by subst e; exact h3 (blk_type gb h.blk)) _ _, h.lo, h.rows.other (h.rows.neq gb (fun e => h1 e.symm)) _, h.hints.other (h.hints.neq gb (fun e => h2 e.symm)) _,
    fun r hr => ⟨hl _ (h.rok r hr).1 (h.rav r hr).1, hl _ (h.rok r hr).2.1 (h.rav r hr).2.1, hl _ (h.rok r hr).2.2 (h.rav r hr).2.2⟩, fun r hr => ⟨hl _ (h.hok r hr).1 (h.hav r hr).1, hl _ (h.hok r hr).2.1 (h.hav r hr).2, (h.hok r hr).2.2⟩, h.rv, h.hv, h.rav, h.hav⟩
theorem LinT.setType {w : World} {s : Lc} {g j : Nat} {cs : Array Value} {E : TypeId} {u : Value} (h : LinT w s) (gb : Blk w g cs E) (hE : E ≠ 131) : LinT (w.setCell ⟨g, j, none⟩ u) s := by
  by_cases e : s.l = []
  · exact ⟨lc_nil h.ok e _, fun h0 => absurd e h0⟩
  · obtain ⟨b, off, cs', e2, g2⟩ := h.blk e
    have hne : g ≠ b := fun e => by subst e; exact hE (blk_type gb g2)
    refine ⟨⟨fun h0 => ?_, h.ok.wl, h.ok.le, h.ok.mx⟩, fun _ => ⟨b, off, cs', e2, g2.other hne _ _⟩⟩
    obtain ⟨b', off', e3, hl, hc⟩ := h.ok.sl h0
    rw [e2] at e3
    cases e3
    exact ⟨b, off, e2, by simpa using hl, fun i hi => ⟨by rw [World.cell?_setCell_far _ _ _ _ hne]; exact (hc i hi).1, by rw [World.cell?_setCell_far _ _ _ _ hne]; exact (hc i hi).2⟩⟩
end Go.Proofs.YtalmgeefkcebdaaGreatDoor

/- Gadgets: Bits of the program. -/
namespace Go.Proofs.YtalmgeefkcebdaaGreatDoor
open Go.RowKit

def q3 (S : St) (k : Nat) : Int := S.vars + (k : Int) + 1
end Go.Proofs.YtalmgeefkcebdaaGreatDoor

/- Gadgets: Less, Or of the program. -/
namespace Go.Proofs.YtalmgeefkcebdaaGreatDoor
open Go.RowKit

end Go.Proofs.YtalmgeefkcebdaaGreatDoor


/- Plain arithmetic: powers by squaring, the inverse of 4, unmixing undoes mixing and the other way round. -/
namespace Go.Proofs.YtalmgeefkcebdaaGreatDoor

theorem fred_valid {p : Int} (h : vld p = true) (x : Int) : fred p x = x % p := by rw [fred, if_pos h]

end Go.Proofs.YtalmgeefkcebdaaGreatDoor

