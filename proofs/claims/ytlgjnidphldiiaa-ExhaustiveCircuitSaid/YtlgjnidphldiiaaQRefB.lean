/- Gadgets: the reference's builder: rows, hints and the gadgets without loops. -/
import Derived.Test.YtlgjnidphldiiaaQGadW
import Derived.Test.YtlgjnidphldiiaaQGadS
import Derived.Test.YtlgjnidphldiiaaQHeld
import Derived.Test.YtlgjnidphldiiaaQRunM
namespace Go.Proofs.Ytlgjnidphldiiaa
open Go.RowKit

/-- append of a slice, at a step of a region that draws. -/
theorem step_appGR {P : Program} {w : World} {ops : Array Oper} {o : Oper} {a : Act} {K : Act → World → Prop} {Q : Exit → Act → World → Prop} {E' : Prop} {α : Type} (L : Lay α) (xs ys : List α) (hgd : o.guard = none) (s x : Operand) (t : TypeId)
    (ho : o.op = .call { callee := .builtin .append, args := #[s, x], argTypes := #[t, t] })
    (base : Nat) (E : TypeId) (z : Value) (bytes : Nat) (ht : P.underlying t = some (.slice E)) (hinfo : (P.info? E).map (fun i => (i.zero, i.size, i.bytes)) = some (some z, L.m, bytes)) (hz : z.cells.size = L.m) (h8 : bytes ≤ 128)
    (v : Value) (c n : Nat) (A : Option Addr) (hs : a.eval s = v) (hx : a.eval x = .slice A n c) (hn : n = ys.length) (hown : OwnG L w base E v xs) (hsl : SlG L w A ys) (hlen : xs.length + ys.length < 68719476736) (hbase : base ≤ w.heap.size)
    (h : ∀ v' w', OwnG L w' base E v' (xs ++ ys) → Grew w w' v v' → K (a.put o.dst v') w') : if Region.wanted o (yielded ops a.tmps) = true then Oper.wp P o a w K Q else E' := by
  subst hn
  rw [if_pos (by simp only [Region.wanted, hgd])]
  obtain ⟨v', w', hr, h2, h3, h4⟩ := run_appG (P := P) (ty := o.type) (c := c) ht hinfo hz h8 hown hsl hlen hbase
  unfold Oper.wp execOp
  simp only [ho, resolve, invoke, builtin, Sem.run_bind, Sem.run_pure, Result.andThen_ok, List.map_toArray, List.map_cons, List.map_nil, hs, hx, hr]
  exact h v' w' h2 (.of h3 h4)

theorem OwnG.nb {α : Type} {L : Lay α} {w : World} {base : Nat} {E : TypeId} {v : Value} {xs : List α} (h : OwnG L w base E v xs) : v.ownBlock ≠ some w.heap.size := by
  rcases h.form with ⟨rfl, rfl⟩ | ⟨g, cap, cur, rfl, _, g2, _⟩
  · intro e; cases e
  · intro e
    have := g2.lt
    simp only [Value.ownBlock, Option.some.injEq] at e
    omega
/-- The types of the blocks that the reference's builder changes. -/
def XR (T : TypeId) : Prop := T = 106 ∨ T = 108 ∨ T = 40
theorem xrR : XR 106 := .inl rfl
theorem xrH : XR 108 := .inr (.inl rfl)
theorem xrB : XR 40 := .inr (.inr rfl)
theorem xrT : ¬ XR 100 := by unfold XR; decide
theorem xrL : ¬ XR 44 := by unfold XR; decide
theorem xrS : ¬ XR 66 := by unfold XR; decide
theorem xrO : ¬ XR 122 := by unfold XR; decide

/-- The reference's builder in block b; its slices are of the call's own. -/
structure BR (w : World) (base b : Nat) (S : St) (vr : Value) (R : List Rw) (vh : Value) (H : List Hn) : Prop where
  blk : Blk w b #[.int .u64 S.p, .int .i64 S.pub, .int .i64 S.vars, vr, .int .i64 S.sec, vh] 40
  lo : base ≤ b
  rows : OwnG rwL w base 106 vr R
  hints : OwnG hnL w base 108 vh H
  rok : ∀ r ∈ R, LinT w r.a ∧ LinT w r.b ∧ LinT w r.c
  hok : ∀ h ∈ H, LinT w h.a ∧ LinT w h.b ∧ (Lit.int .i64 h.k).wf = true ∧ (Lit.int .i64 h.bit).wf = true
  rv : R.map Rw.val = S.R
  hv : H.map Hn.val = S.H
def BlR (w : World) (base b : Nat) (S : St) : Prop := ∃ vr R vh H, BR w base b S vr R vh H
section
variable {w w' : World} {base b : Nat} {S : St} {vr vr' vh vh' : Value} {R : List Rw} {H : List Hn}
theorem BR.mono (h : BR w base b S vr R vh H) (hb : Below w.heap.size w w') : BR w' base b S vr R vh H :=
  ⟨h.blk.mono hb, h.lo, h.rows.mono hb, h.hints.mono hb, fun r hr => ⟨(h.rok r hr).1.mono hb, (h.rok r hr).2.1.mono hb, (h.rok r hr).2.2.mono hb⟩, fun r hr => ⟨(h.hok r hr).1.mono hb, (h.hok r hr).2.1.mono hb, (h.hok r hr).2.2⟩, h.rv, h.hv⟩
theorem BlR.mono (h : BlR w base b S) (hb : Below w.heap.size w w') : BlR w' base b S := by
  obtain ⟨vr, R, vh, H, h⟩ := h
  exact ⟨vr, R, vh, H, h.mono hb⟩
theorem BR.lt (h : BR w base b S vr R vh H) : base ≤ w.heap.size := by
  have := h.blk.lt
  have := h.lo
  omega
theorem BlR.lt (h : BlR w base b S) : base ≤ w.heap.size := by
  obtain ⟨vr, R, vh, H, h⟩ := h
  exact h.lt
theorem BR.addRow {r : Rw} (h : BR w base b S vr R vh H) (hg : Grew w w' vr vr') (ho : OwnG rwL w' base 106 vr' (R ++ [r])) (hr : LinT w r.a ∧ LinT w r.b ∧ LinT w r.c) :
    BR (w'.setCell ⟨b, 3, none⟩ vr') base b { S with R := S.R ++ [r.val] } vr' (R ++ [r]) vh H ∧ KX XR base w (w'.setCell ⟨b, 3, none⟩ vr') := by
  have g1 := hg.blk h.blk (h.rows.neq h.blk (by decide))
  have k1 : KX XR base w w' := KX.grew h.rows hg xrR h.lt
  have k : KX XR base w (w'.setCell ⟨b, 3, none⟩ vr') := k1.trans (KX.set g1 xrB h.lo)
  refine ⟨⟨g1.set 3 vr', h.lo, ho.other (ho.neq g1 (by decide)) _, (h.hints.grewT h.rows hg (by decide)).other ((h.hints.grewT h.rows hg (by decide)).neq g1 (by decide)) _, fun q hq => ?_, fun q hq => ?_, by rw [List.map_append, h.rv]; rfl, h.hv⟩, k⟩
  · rcases List.mem_append.1 hq with h1 | h1
    · obtain ⟨i1, i2, i3⟩ := h.rok q h1
      exact ⟨k.lin xrT i1, k.lin xrT i2, k.lin xrT i3⟩
    · rw [List.mem_singleton] at h1
      subst h1
      exact ⟨k.lin xrT hr.1, k.lin xrT hr.2.1, k.lin xrT hr.2.2⟩
  · obtain ⟨i1, i2, i3⟩ := h.hok q hq
    exact ⟨k.lin xrT i1, k.lin xrT i2, i3⟩
theorem BR.addHint {r : Hn} (h : BR w base b S vr R vh H) (hg : Grew w w' vh vh') (ho : OwnG hnL w' base 108 vh' (H ++ [r])) (hr : LinT w r.a ∧ LinT w r.b ∧ (Lit.int .i64 r.k).wf = true ∧ (Lit.int .i64 r.bit).wf = true) :
    BR (w'.setCell ⟨b, 5, none⟩ vh') base b { S with H := S.H ++ [r.val] } vr R vh' (H ++ [r]) ∧ KX XR base w (w'.setCell ⟨b, 5, none⟩ vh') := by
  have g1 := hg.blk h.blk (h.hints.neq h.blk (by decide))
  have k1 : KX XR base w w' := KX.grew h.hints hg xrH h.lt
  have k : KX XR base w (w'.setCell ⟨b, 5, none⟩ vh') := k1.trans (KX.set g1 xrB h.lo)
  refine ⟨⟨g1.set 5 vh', h.lo, (h.rows.grewT h.hints hg (by decide)).other ((h.rows.grewT h.hints hg (by decide)).neq g1 (by decide)) _, ho.other (ho.neq g1 (by decide)) _, fun q hq => ?_, fun q hq => ?_, h.rv, by rw [List.map_append, h.hv]; rfl⟩, k⟩
  · obtain ⟨i1, i2, i3⟩ := h.rok q hq
    exact ⟨k.lin xrT i1, k.lin xrT i2, k.lin xrT i3⟩
  · rcases List.mem_append.1 hq with h1 | h1
    · obtain ⟨i1, i2, i3⟩ := h.hok q h1
      exact ⟨k.lin xrT i1, k.lin xrT i2, i3⟩
    · rw [List.mem_singleton] at h1
      subst h1
      exact ⟨k.lin xrT hr.1, k.lin xrT hr.2.1, hr.2.2⟩
theorem BR.setVars (h : BR w base b S vr R vh H) (n : Int) :
    BR (w.setCell ⟨b, 2, none⟩ (.int .i64 n)) base b { S with vars := n } vr R vh H ∧ KX XR base w (w.setCell ⟨b, 2, none⟩ (.int .i64 n)) := by
  have k : KX XR base w (w.setCell ⟨b, 2, none⟩ (.int .i64 n)) := KX.set h.blk xrB h.lo
  refine ⟨⟨h.blk.set 2 _, h.lo, h.rows.other (h.rows.neq h.blk (by decide)) _, h.hints.other (h.hints.neq h.blk (by decide)) _, fun q hq => ?_, fun q hq => ?_, h.rv, h.hv⟩, k⟩
  · obtain ⟨i1, i2, i3⟩ := h.rok q hq
    exact ⟨k.lin xrT i1, k.lin xrT i2, k.lin xrT i3⟩
  · obtain ⟨i1, i2, i3⟩ := h.hok q hq
    exact ⟨k.lin xrT i1, k.lin xrT i2, i3⟩
end
/-- What a gadget of the reference does, without and with a result. -/
def RetVR (w : World) (base b : Nat) (S : St) (e : Ending) (w' : World) : Prop := e = .returned (.tuple #[]) ∧ BlR w' base b S ∧ KX XR base w w'
def RetBR (w : World) (base b : Nat) (S : St) (L : Lin) (e : Ending) (w' : World) : Prop := ∃ s : Lc, e = .returned (.slice s.ad s.l.length s.cap) ∧ Hid (s.l = L) ∧ LinT w' s ∧ BlR w' base b S ∧ KX XR base w w'

set_option maxRecDepth 10000 in
set_option maxHeartbeats 4000000 in
theorem rbRow_any (base b : Nat) (S : St) (n : Int) (x y z : Lc) (w : World) (h : BlR w base b S) (hS : Bd S n) (hn : n ≤ 1000000000) (hx : LinT w x) (hy : LinT w y) (hz : LinT w z) :
    Calls Try.prog 119 #[.pointer (some ⟨b, 0, none⟩), .slice x.ad x.l.length x.cap, .slice y.ad y.l.length y.cap, .slice z.ad z.l.length z.cap] w (RetVR w base b (gRow S x.l y.l z.l)) := by
  have hb0 := h.lt
  obtain ⟨vr, R, vh, H, h⟩ := h
  have hRl : R.length ≤ 1000000000 := by
    have h1 := hS.r
    have := congrArg List.length h.rv
    rw [List.length_map] at this
    omega
  obtain ⟨r, hr⟩ : ∃ r : Rw, r = ⟨x, y, z⟩ := ⟨_, rfl⟩
  have hown := h.rows
  have gB := h.blk
  have c3 := gB.cell (j := 3) (v := vr) rfl
  have hnb : vr.ownBlock ≠ some b := hown.neq gB (by decide)
  have hrc : rwL.f r = [.slice x.ad x.l.length x.cap, .slice y.ad y.l.length y.cap, .slice z.ad z.l.length z.cap] := by rw [hr]; rfl
  have hrv : Hid (r.val = ⟨x.l, y.l, z.l⟩) := hide (by rw [hr]; rfl)
  have hrt : LinT w r.a ∧ LinT w r.b ∧ LinT w r.c := by rw [hr]; exact ⟨hx, hy, hz⟩
  replace hrc := hide hrc
  clear hr hS hx hy hz
  go_enter Try.func119, Try.ntmps119
  go_wp2_with (at_builtin; refine wpList_appG _ rwL R [r] rfl _ _ 32 rfl base 106 _ _ Try.underlying32 Try.infoRw rfl (by decide) _ 1 1 (some ⟨w.heap.size, 0, none⟩) rfl rfl rfl (hown.alloc _) (SlG.one (Blk.new _ _ _) hrc.out.symm) (by simp; omega) (by simp; omega) ?_; intro v' w' own' hg'; refine Hold.mk ?_)
  refine Hold.go ?_
  have hbA : Below w.heap.size w (w.alloc (.cells #[.slice x.ad x.l.length x.cap, .slice y.ad y.l.length y.cap, .slice z.ad z.l.length z.cap] 106)) := (Below.refl _ _).alloc (Nat.le_refl _) _
  obtain ⟨va, vc, ve, _⟩ := own'.sl
  rw [show (R ++ [r]).length = R.length + 1 by simp] at ve
  subst ve
  have gB' := hg'.blk (gB.mono hbA) hnb
  have cf := gB'.free
  have cc := gB'.cell (j := 3) (v := vr) rfl
  have hA := (h.mono hbA).addRow hg' own' (r := r) ⟨hrt.1.mono hbA, hrt.2.1.mono hbA, hrt.2.2.mono hbA⟩
  rw [hrv.out] at hA
  have kk := (KX.of_below (X := XR) hbA hb0).trans hA.2
  replace hA := hA.1
  clear own' hg' gB' h hrt hrv hrc hnb c3
  go_wp2
  exact bodyPost_end (v := .tuple #[]) (by simp [results, Try.results119, go_sem]) rfl ⟨rfl, ⟨_, _, _, _, hA⟩, kk⟩

set_option maxRecDepth 10000 in
set_option maxHeartbeats 8000000 in
theorem rbFresh_any (base b : Nat) (S : St) (n k : Int) (x y : Lc) (bit : Int) (w : World) (h : BlR w base b S) (hS : Bd S n) (hn : n ≤ 1000000000) (hx : LinT w x) (hy : LinT w y) (hk : (Lit.int .i64 k).wf = true) (hbit : (Lit.int .i64 bit).wf = true) :
    Calls Try.prog 118 #[.pointer (some ⟨b, 0, none⟩), .agg #[.int .i64 k, .slice x.ad x.l.length x.cap, .slice y.ad y.l.length y.cap, .int .i64 bit]] w (RetBR w base b (gHint S k x.l y.l bit) (nv S)) := by
  have hb0 := h.lt
  obtain ⟨vr, R, vh, H, h⟩ := h
  have hHl : H.length ≤ 1000000000 := by
    have h1 := hS.h
    have := congrArg List.length h.hv
    rw [List.length_map] at this
    omega
  have hV := hS.v
  have hV0 := hV.1
  have hV1 := hV.2
  obtain ⟨r, hr⟩ : ∃ r : Hn, r = ⟨k, x, y, bit⟩ := ⟨_, rfl⟩
  have hrc : hnL.f r = [.int .i64 k, .slice x.ad x.l.length x.cap, .slice y.ad y.l.length y.cap, .int .i64 bit] := by rw [hr]; rfl
  have hrv : Hid (r.val = ⟨k, x.l, y.l, bit⟩) := hide (by rw [hr]; rfl)
  have hrt : LinT w r.a ∧ LinT w r.b ∧ (Lit.int .i64 r.k).wf = true ∧ (Lit.int .i64 r.bit).wf = true := by rw [hr]; exact ⟨hx, hy, hk, hbit⟩
  replace hrc := hide hrc
  replace hrt := hide hrt
  have cT := fun W => rTerm_any S.vars 1 W (wfI ⟨by omega, by omega⟩) (by decide)
  have hnT : Hid (vh.ownBlock ≠ some w.heap.size) := hide (h.hints.nb)
  clear hr hS hx hy hk hbit hV
  go_enter Try.func118, Try.ntmps118
  go_wp2_with fail
  refine name_world fun w1 hN => ?_
  have gT : Blk w1 w.heap.size #[.int .i64 k, .slice x.ad x.l.length x.cap, .slice y.ad y.l.length y.cap, .int .i64 bit] 108 := by rw [hN]; exact Blk.newAt rfl
  have hb1 : Below w.heap.size w w1 := by rw [hN]; exact (Below.refl _ _).alloc (Nat.le_refl _) _
  clear hN
  refine Rel.region_any Try.mixed fun w2 hb2 => ?_
  replace gT := gT.mono hb2
  replace hb1 := below2 hb1 hb2
  replace h := h.mono hb1
  replace hrt := hide (show LinT w2 r.a ∧ LinT w2 r.b ∧ (Lit.int .i64 r.k).wf = true ∧ (Lit.int .i64 r.bit).wf = true from ⟨hrt.out.1.mono hb1, hrt.out.2.1.mono hb1, hrt.out.2.2⟩)
  clear hb2
  refine Rel.any_held (fun W => W.cell? ⟨b, 5, none⟩ = some vh ∧ W.cell? ⟨w.heap.size, 0, none⟩ = some (.int .i64 k) ∧ W.cell? ⟨w.heap.size, 1, none⟩ = some (.slice x.ad x.l.length x.cap) ∧ W.cell? ⟨w.heap.size, 2, none⟩ = some (.slice y.ad y.l.length y.cap) ∧ W.cell? ⟨w.heap.size, 3, none⟩ = some (.int .i64 bit)) 12 ⟨h.blk.cell (j := 5) rfl, gT.cell (j := 0) rfl, gT.cell (j := 1) rfl, gT.cell (j := 2) rfl, gT.cell (j := 3) rfl⟩ fun hH0 => ?_
  refine Rel.heldTake (v := ?_) 0 rfl (by kernel_rfl) (by kernel_rfl) (by kernel_rfl) (fun _ _ _ h => h) (by assumption) (by rfl) ?_ ?_
  rotate_left
  · (intro W hSw; (try dsimp only at hSw); go_simp; try with_reducible rfl)
  try simp only [Act.put, List.setIfInBounds_toArray, List.set_cons_zero, List.set_cons_succ]
  refine Rel.heldTake (v := ?_) 1 rfl (by kernel_rfl) (by kernel_rfl) (by kernel_rfl) (fun _ _ _ h => h) (by assumption) (by rfl) ?_ ?_
  rotate_left
  · (intro W hSw; (try dsimp only at hSw); go_simp; try with_reducible rfl)
  try simp only [Act.put, List.setIfInBounds_toArray, List.set_cons_zero, List.set_cons_succ]
  refine Rel.heldTake (v := ?_) 2 rfl (by kernel_rfl) (by kernel_rfl) (by kernel_rfl) (fun _ _ _ h => h) (by assumption) (by rfl) ?_ ?_
  rotate_left
  · (intro W hSw; (try dsimp only at hSw); go_simp; try with_reducible rfl)
  try simp only [Act.put, List.setIfInBounds_toArray, List.set_cons_zero, List.set_cons_succ]
  refine Rel.heldTake (v := ?_) 3 rfl (by kernel_rfl) (by kernel_rfl) (by kernel_rfl) (fun _ _ _ h => h) (by assumption) (by rfl) ?_ ?_
  rotate_left
  · (intro W hSw; (try dsimp only at hSw); go_simp; try with_reducible rfl)
  try simp only [Act.put, List.setIfInBounds_toArray, List.set_cons_zero, List.set_cons_succ]
  refine Rel.heldTake (v := ?_) 4 rfl (by kernel_rfl) (by kernel_rfl) (by kernel_rfl) (fun _ _ _ h => h) (by assumption) (by rfl) ?_ ?_
  rotate_left
  · (intro W hSw; (try dsimp only at hSw); go_simp; try with_reducible rfl)
  try simp only [Act.put, List.setIfInBounds_toArray, List.set_cons_zero, List.set_cons_succ]
  refine Rel.heldTake (v := ?_) 5 rfl (by kernel_rfl) (by kernel_rfl) (by kernel_rfl) (fun _ _ _ h => h) (by assumption) (by rfl) ?_ ?_
  rotate_left
  · (intro W hSw; (try dsimp only at hSw); go_simp; try with_reducible rfl)
  try simp only [Act.put, List.setIfInBounds_toArray, List.set_cons_zero, List.set_cons_succ]
  refine Rel.heldTake (v := ?_) 6 rfl (by kernel_rfl) (by kernel_rfl) (by kernel_rfl) (fun _ _ _ h => h) (by assumption) (by rfl) ?_ ?_
  rotate_left
  · (intro W hSw; (try dsimp only at hSw); go_simp; try with_reducible rfl)
  try simp only [Act.put, List.setIfInBounds_toArray, List.set_cons_zero, List.set_cons_succ]
  refine Rel.heldNext 7 rfl (by kernel_rfl) fun K hK => ?_
  go_simp
  have hbA : Below w2.heap.size w2 (w2.alloc (.cells #[.int .i64 k, .slice x.ad x.l.length x.cap, .slice y.ad y.l.length y.cap, .int .i64 bit] 108)) := (Below.refl _ _).alloc (Nat.le_refl _) _
  have gTA := gT.mono hbA
  have hA := h.mono hbA
  refine hK.out _ _ ⟨hA.blk.cell (j := 5) rfl, gTA.cell (j := 0) rfl, gTA.cell (j := 1) rfl, gTA.cell (j := 2) rfl, gTA.cell (j := 3) rfl⟩ (fun hH1 => ?_)
  clear hK K
  try simp only [Act.put, List.setIfInBounds_toArray, List.set_cons_zero, List.set_cons_succ]
  refine Rel.heldNext 8 rfl (by kernel_rfl) fun K hK => ?_
  refine step_appGR hnL H [r] rfl _ _ 35 rfl base 108 _ _ Try.underlying35 Try.infoHn rfl (by decide) _ 1 1 (some ⟨w2.heap.size, 0, none⟩) rfl rfl rfl hA.hints (SlG.one (Blk.new _ _ _) hrc.out.symm) (by simp; omega) hA.lt ?_
  intro v' w' own' hg'
  obtain ⟨va, vc, ve, _⟩ := own'.sl
  rw [show (H ++ [r]).length = H.length + 1 by simp] at ve
  subst ve
  have gB' := hg'.blk hA.blk (hA.hints.neq hA.blk (by decide))
  have gT' := hg'.blk gTA hnT.out
  have cf := gB'.free
  have cc := gB'.cell (j := 5) (v := vh) rfl
  have hC := hA.addHint hg' own' (r := r) ⟨hrt.out.1.mono hbA, hrt.out.2.1.mono hbA, hrt.out.2.2⟩
  rw [hrv.out] at hC
  have kk := (KX.of_below (X := XR) (below2 hb1 hbA) hb0).trans hC.2
  replace hC := hC.1
  refine hK.out _ _ ⟨cc, gT'.cell (j := 0) rfl, gT'.cell (j := 1) rfl, gT'.cell (j := 2) rfl, gT'.cell (j := 3) rfl⟩ (fun hH2 => ?_)
  clear hK K
  try simp only [Act.put, List.setIfInBounds_toArray, List.set_cons_zero, List.set_cons_succ]
  clear hH0 hH1 own' hg' gB' gT' gTA hA hrv hrt hrc hnT h gT
  refine Rel.heldTake (v := ?_) 9 rfl (by kernel_rfl) (by kernel_rfl) (by kernel_rfl) (fun _ _ _ h => h) (by assumption) (by rfl) ?_ ?_
  rotate_left
  · (intro W hSw; (try dsimp only at hSw); go_simp; try with_reducible rfl)
  try simp only [Act.put, List.setIfInBounds_toArray, List.set_cons_zero, List.set_cons_succ]
  refine Rel.heldTake (v := ?_) 10 rfl (by kernel_rfl) (by kernel_rfl) (by kernel_rfl) (fun _ _ _ h => h) (by assumption) (by rfl) ?_ ?_
  rotate_left
  · (intro W hSw; (try dsimp only at hSw); go_simp; try with_reducible rfl)
  try simp only [Act.put, List.setIfInBounds_toArray, List.set_cons_zero, List.set_cons_succ]
  refine Rel.heldTake (v := ?_) 11 rfl (by kernel_rfl) (by kernel_rfl) (by kernel_rfl) (fun _ _ _ h => h) (by assumption) (by rfl) ?_ ?_
  rotate_left
  · (intro W hSw; (try dsimp only at hSw); go_simp; try with_reducible rfl)
  try simp only [Act.put, List.setIfInBounds_toArray, List.set_cons_zero, List.set_cons_succ]
  refine Rel.heldLast 12 rfl (by kernel_rfl) rfl (by kernel_rfl) fun K hK => ?_
  go_simp
  refine hK.out _ _ ?_
  clear hK K hH2 cf cc hb1 hbA
  generalize w'.setCell ⟨b, 5, none⟩ (.slice va (H.length + 1) vc) = w7 at *
  have gB := hC.blk
  have c3 := gB.cell (j := 2) (v := .int .i64 S.vars) rfl
  have cf := gB.free
  have hD := hC.setVars (S.vars + 1)
  have c4 := hD.1.blk.cell (j := 2) (v := .int .i64 (S.vars + 1)) rfl
  go_wp2_with fail
  refine (cT _).mono ?_
  rintro e w9 ⟨s, rfl, es, hs, hb9⟩
  have kF := (kk.trans hD.2).trans (KX.of_below hb9 hD.1.lt)
  have hF := hD.1.mono hb9
  clear kk hC hD hb9 gB c3 cf c4 cT
  go_wp2
  go_ret
  exact ⟨s, rfl, es, hs, ⟨_, _, _, _, hF⟩, kF⟩

theorem rbP_any (b : Nat) (cs : Array Value) (T : TypeId) (p : Int) (w : World) (g : Blk w b cs T) (h0 : cs[0]? = some (.int .u64 p)) :
    Calls Try.prog 120 #[.pointer (some ⟨b, 0, none⟩)] w fun e w' => e = .returned (.int .u64 p) ∧ Below w.heap.size w w' := by
  have c0 := g.cell h0
  go_enter Try.func120, Try.ntmps120
  go_wp2
  go_ret
  exact ⟨rfl, Below.refl _ _⟩
theorem BlR.p_any {w : World} {base b : Nat} {S : St} (h : BlR w base b S) : Calls Try.prog 120 #[.pointer (some ⟨b, 0, none⟩)] w fun e w' => e = .returned (.int .u64 S.p) ∧ Below w.heap.size w w' := by
  obtain ⟨vr, R, vh, H, h⟩ := h
  exact rbP_any b _ _ S.p w h.blk rfl
theorem rAddS_any (p : Int) (x y : Lc) (w : World) (hx : LcOk w x) (hy : LcOk w y) (hl : x.l.length + y.l.length ≤ 100000000) (cx : CoefOk p x.l) (cy : CoefOk p y.l) :
    Calls Try.prog 27 #[.int .u64 p, .slice x.ad x.l.length x.cap, .slice y.ad y.l.length y.cap] w (RetLn w (addL p x.l y.l)) := by
  have := rAddL_any p x y w hx hy (fun _ => hl)
  rw [← (lin_same (n := 0) (fun _ => cx) (fun _ => cy)).1] at this
  exact this
theorem rSubS_any (p : Int) (x y : Lc) (w : World) (hx : LcOk w x) (hy : LcOk w y) (hl : x.l.length + y.l.length ≤ 100000000) (cx : CoefOk p x.l) (cy : CoefOk p y.l) :
    Calls Try.prog 29 #[.int .u64 p, .slice x.ad x.l.length x.cap, .slice y.ad y.l.length y.cap] w (RetLn w (subL p x.l y.l)) := by
  have := rSub20_any p x y w hx hy (fun _ => hl)
  rw [← (lin_same (n := 0) (fun _ => cx) (fun _ => cy)).2.1] at this
  exact this
theorem coef_nv {p : Int} (hv : vld p = true) (S : St) : CoefOk p (nv S) := fun t ht => by
  have := vld_pos hv
  unfold nv at ht
  rw [List.mem_singleton] at ht
  subst ht
  exact ⟨by show (0 : Int) < 1; decide, by show (1 : Int) < p; omega⟩
theorem coef_one {p : Int} (hv : vld p = true) : CoefOk p [(0, 1)] := fun t ht => by
  have := vld_pos hv
  rw [List.mem_singleton] at ht
  subst ht
  exact ⟨by show (0 : Int) < 1; decide, by show (1 : Int) < p; omega⟩
theorem rOne_any (w : World) : Calls Try.prog 73 #[.int .i64 0, .int .u64 1] w (RetLn w [(0, 1)]) := rTerm_any 0 1 w (by decide) (by decide)

set_option maxHeartbeats 1000000 in
theorem rbMul_any (base b : Nat) (S : St) (n : Int) (x y : Lc) (w : World) (h : BlR w base b S) (hS : Bd S n) (hn : n ≤ 900000000) (hx : LinT w x) (hy : LinT w y) :
    Calls Try.prog 86 #[.pointer (some ⟨b, 0, none⟩), .slice x.ad x.l.length x.cap, .slice y.ad y.l.length y.cap] w (RetBR w base b (gMul S x.l y.l) (nv S)) := by
  go_enter Try.func86, Try.ntmps86
  go_wp2_with fail
  refine (rbFresh_any base b S n 1 x y 0 w h hS (by omega) hx hy (by decide) (by decide)).mono ?_
  rintro e w1 ⟨v, rfl, ev, hv1, hB1, k1⟩
  go_wp2_with fail
  refine (rbRow_any base b _ (n + 1) x y v w1 hB1 hS.hint (by omega) (k1.lin xrT hx) (k1.lin xrT hy) hv1).mono ?_
  rintro e w2 ⟨rfl, hB2, k2⟩
  go_wp2
  go_ret
  exact ⟨v, rfl, ev, k2.lin xrT hv1, by rw [ev.out] at hB2; exact hB2, k1.trans k2⟩
set_option maxHeartbeats 1000000 in
theorem rbAssert_any (base b : Nat) (S : St) (n : Int) (x y : Lc) (w : World) (h : BlR w base b S) (hS : Bd S n) (hn : n ≤ 900000000) (hx : LinT w x) (hy : LinT w y) (lx : x.l.length ≤ 1000000) (ly : y.l.length ≤ 1000000) (cx : CoefOk S.p x.l) (cy : CoefOk S.p y.l) :
    Calls Try.prog 87 #[.pointer (some ⟨b, 0, none⟩), .slice x.ad x.l.length x.cap, .slice y.ad y.l.length y.cap] w (RetVR w base b (gAssert S x.l y.l)) := by
  have hb0 := h.lt
  go_enter Try.func87, Try.ntmps87
  go_wp2_with fail
  refine h.p_any.mono ?_
  rintro e w1 ⟨rfl, hb1⟩
  go_wp2_with fail
  refine (rSubS_any S.p x y w1 (hx.mono hb1).ok (hy.mono hb1).ok (by omega) cx cy).mono ?_
  rintro e w2 ⟨d, rfl, ed, hd, hb2⟩
  go_wp2_with fail
  refine (rOne_any w2).mono ?_
  rintro e w3 ⟨o, rfl, eo, ho, hb3⟩
  have hb := below2 (below2 hb1 hb2) hb3
  go_wp2_with fail
  refine (rbRow_any base b S n d o ⟨none, 0, []⟩ w3 (h.mono hb) hS (by omega) (hd.mono hb3) ho (LinT.nil _)).mono ?_
  rintro e w4 ⟨rfl, hB4, k4⟩
  rw [ed.out, eo.out] at hB4
  go_wp2
  exact bodyPost_end (v := .tuple #[]) (by simp [results, Try.results87, go_sem]) rfl ⟨rfl, hB4, (KX.of_below hb hb0).trans k4⟩
theorem rbBoolean_any (base b : Nat) (S : St) (n : Int) (x : Lc) (w : World) (h : BlR w base b S) (hS : Bd S n) (hn : n ≤ 900000000) (hx : LinT w x) :
    Calls Try.prog 88 #[.pointer (some ⟨b, 0, none⟩), .slice x.ad x.l.length x.cap] w (RetVR w base b (gBool S x.l)) := by
  go_enter Try.func88, Try.ntmps88
  go_wp2_with fail
  refine (rbRow_any base b S n x x x w h hS (by omega) hx hx hx).mono ?_
  rintro e w1 ⟨rfl, hB1, k1⟩
  go_wp2
  exact bodyPost_end (v := .tuple #[]) (by simp [results, Try.results88, go_sem]) rfl ⟨rfl, hB1, k1⟩
set_option maxHeartbeats 1000000 in
theorem rbNot_any (base b : Nat) (S : St) (x : Lc) (w : World) (h : BlR w base b S) (hv : vld S.p = true) (hx : LinT w x) (lx : x.l.length ≤ 1000000) (cx : CoefOk S.p x.l) :
    Calls Try.prog 92 #[.pointer (some ⟨b, 0, none⟩), .slice x.ad x.l.length x.cap] w (RetLn w (gNot S.p x.l)) := by
  go_enter Try.func92, Try.ntmps92
  go_wp2_with fail
  refine h.p_any.mono ?_
  rintro e w1 ⟨rfl, hb1⟩
  go_wp2_with fail
  refine (rOne_any w1).mono ?_
  rintro e w2 ⟨o, rfl, eo, ho, hb2⟩
  have hb := below2 hb1 hb2
  have lo : o.l.length ≤ 1 := by rw [eo.out]; exact Nat.le_refl _
  go_wp2_with fail
  refine (rSubS_any S.p o x w2 ho.ok (hx.mono hb).ok (by omega) (by rw [eo.out]; exact coef_one hv) cx).mono ?_
  rintro e w3 ⟨d, rfl, ed, hd, hb3⟩
  go_wp2
  go_ret
  exact ⟨d, rfl, hide (by rw [ed.out, eo.out]; rfl), hd, below2 hb hb3⟩
set_option maxHeartbeats 2000000 in
theorem rbIsZero_any (base b : Nat) (S : St) (n : Int) (x : Lc) (w : World) (h : BlR w base b S) (hv : vld S.p = true) (hS : Bd S n) (hn : n ≤ 800000000) (hx : LinT w x) :
    Calls Try.prog 90 #[.pointer (some ⟨b, 0, none⟩), .slice x.ad x.l.length x.cap] w (RetBR w base b (gIsZero S x.l).1 (gIsZero S x.l).2) := by
  go_enter Try.func90, Try.ntmps90
  go_wp2_with fail
  refine (rbFresh_any base b S n 2 x ⟨none, 0, []⟩ 0 w h hS (by omega) hx (LinT.nil _) (by decide) (by decide)).mono ?_
  rintro e w1 ⟨v, rfl, ev, hv1, hB1, k1⟩
  go_wp2_with fail
  refine (rbMul_any base b _ (n + 1) x v w1 hB1 hS.hint (by omega) (k1.lin xrT hx) hv1).mono ?_
  rintro e w2 ⟨m, rfl, em, hm2, hB2, k2⟩
  rw [ev.out] at hB2
  have lm : m.l.length ≤ 1 := by rw [em.out]; exact Nat.le_refl _
  go_wp2_with fail
  refine (rbNot_any base b _ m w2 hB2 hv hm2 (by omega) (by rw [em.out]; exact coef_nv hv _)).mono ?_
  rintro e w3 ⟨z, rfl, ez, hz3, hb3⟩
  have hB3 := hB2.mono hb3
  have k3 := (k1.trans k2).trans (KX.of_below (X := XR) hb3 hB2.lt)
  rw [em.out] at ez
  go_wp2_with fail
  refine (rbRow_any base b _ (n + 1 + 2) x z ⟨none, 0, []⟩ w3 hB3 hS.hint.mul (by omega) (k3.lin xrT hx) hz3 (LinT.nil _)).mono ?_
  rintro e w4 ⟨rfl, hB4, k4⟩
  have hv4 := k4.lin xrT ((k2.lin xrT hv1).mono hb3)
  have hz4 := k4.lin xrT hz3
  go_wp2_with fail
  refine (rbRow_any base b _ (n + 1 + 2 + 1) v z ⟨none, 0, []⟩ w4 hB4 hS.hint.mul.row (by omega) hv4 hz4 (LinT.nil _)).mono ?_
  rintro e w5 ⟨rfl, hB5, k5⟩
  go_wp2
  go_ret
  exact ⟨z, rfl, ez, k5.lin xrT hz4, by rw [ez.out, ev.out] at hB5; exact hB5, (k3.trans k4).trans k5⟩
set_option maxHeartbeats 1000000 in
theorem rbEqual_any (base b : Nat) (S : St) (n : Int) (x y : Lc) (w : World) (h : BlR w base b S) (hv : vld S.p = true) (hS : Bd S n) (hn : n ≤ 800000000) (hx : LinT w x) (hy : LinT w y) (lx : x.l.length ≤ 1000000) (ly : y.l.length ≤ 1000000) (cx : CoefOk S.p x.l) (cy : CoefOk S.p y.l) :
    Calls Try.prog 91 #[.pointer (some ⟨b, 0, none⟩), .slice x.ad x.l.length x.cap, .slice y.ad y.l.length y.cap] w (RetBR w base b (gEqual S x.l y.l).1 (gEqual S x.l y.l).2) := by
  have hb0 := h.lt
  go_enter Try.func91, Try.ntmps91
  go_wp2_with fail
  refine h.p_any.mono ?_
  rintro e w1 ⟨rfl, hb1⟩
  go_wp2_with fail
  refine (rSubS_any S.p x y w1 (hx.mono hb1).ok (hy.mono hb1).ok (by omega) cx cy).mono ?_
  rintro e w2 ⟨d, rfl, ed, hd, hb2⟩
  have hb := below2 hb1 hb2
  go_wp2_with fail
  refine (rbIsZero_any base b S n d w2 (h.mono hb) hv hS hn hd).mono ?_
  rintro e w3 ⟨z, rfl, ez, hz, hB3, k3⟩
  rw [ed.out] at ez hB3
  go_wp2
  go_ret
  exact ⟨z, rfl, ez, hz, hB3, (KX.of_below hb hb0).trans k3⟩
set_option maxHeartbeats 2000000 in
theorem rbOr_any (base b : Nat) (S : St) (n : Int) (x y : Lc) (w : World) (h : BlR w base b S) (hv : vld S.p = true) (hS : Bd S n) (hn : n ≤ 800000000) (hx : LinT w x) (hy : LinT w y) (lx : x.l.length ≤ 1000000) (ly : y.l.length ≤ 1000000) (cx : CoefOk S.p x.l) (cy : CoefOk S.p y.l) (cz : CoefOk S.p (addL S.p x.l y.l)) :
    Calls Try.prog 93 #[.pointer (some ⟨b, 0, none⟩), .slice x.ad x.l.length x.cap, .slice y.ad y.l.length y.cap] w (RetBR w base b (gOr S x.l y.l).1 (gOr S x.l y.l).2) := by
  have la := addP_len S.p x.l y.l 1
  go_enter Try.func93, Try.ntmps93
  go_wp2_with fail
  refine (rbMul_any base b S n x y w h hS (by omega) hx hy).mono ?_
  rintro e w1 ⟨m, rfl, em, hm, hB1, k1⟩
  have lm : m.l.length ≤ 1 := by rw [em.out]; exact Nat.le_refl _
  go_wp2_with fail
  refine hB1.p_any.mono ?_
  rintro e w2 ⟨rfl, hb2⟩
  go_wp2_with fail
  refine (hB1.mono hb2).p_any.mono ?_
  rintro e w3 ⟨rfl, hb3⟩
  have hb := below2 hb2 hb3
  go_wp2_with fail
  refine (rAddS_any S.p x y w3 ((k1.lin xrT hx).mono hb).ok ((k1.lin xrT hy).mono hb).ok (by omega) cx cy).mono ?_
  rintro e w4 ⟨d, rfl, ed, hd, hb4⟩
  have ld : d.l.length ≤ 2000000 := by rw [ed.out]; unfold addL; omega
  replace hb := below2 hb hb4
  go_wp2_with fail
  refine (rSubS_any S.p d m w4 hd.ok (hm.mono hb).ok (by omega) (by rw [ed.out]; exact cz) (by rw [em.out]; exact coef_nv hv _)).mono ?_
  rintro e w5 ⟨r, rfl, er, hr, hb5⟩
  replace hb := below2 hb hb5
  rw [ed.out, em.out] at er
  go_wp2
  go_ret
  exact ⟨r, rfl, er, hr, hB1.mono hb, k1.trans (KX.of_below hb hB1.lt)⟩
set_option maxHeartbeats 2000000 in
theorem rbSelect_any (base b : Nat) (S : St) (n : Int) (c x y : Lc) (w : World) (h : BlR w base b S) (hv : vld S.p = true) (hS : Bd S n) (hn : n ≤ 800000000) (hc : LinT w c) (hx : LinT w x) (hy : LinT w y) (lx : x.l.length ≤ 1000000) (ly : y.l.length ≤ 1000000) (cx : CoefOk S.p x.l) (cy : CoefOk S.p y.l) :
    Calls Try.prog 94 #[.pointer (some ⟨b, 0, none⟩), .slice c.ad c.l.length c.cap, .slice x.ad x.l.length x.cap, .slice y.ad y.l.length y.cap] w (RetBR w base b (gSelect S c.l x.l y.l).1 (gSelect S c.l x.l y.l).2) := by
  have hb0 := h.lt
  go_enter Try.func94, Try.ntmps94
  go_wp2_with fail
  refine h.p_any.mono ?_
  rintro e w1 ⟨rfl, hb1⟩
  go_wp2_with fail
  refine (rSubS_any S.p x y w1 (hx.mono hb1).ok (hy.mono hb1).ok (by omega) cx cy).mono ?_
  rintro e w2 ⟨d, rfl, ed, hd, hb2⟩
  have hb := below2 hb1 hb2
  go_wp2_with fail
  refine (rbMul_any base b S n c d w2 (h.mono hb) hS (by omega) (hc.mono hb) hd).mono ?_
  rintro e w3 ⟨m, rfl, em, hm, hB3, k3⟩
  rw [ed.out] at hB3
  have lm : m.l.length ≤ 1 := by rw [em.out]; exact Nat.le_refl _
  have k := (KX.of_below (X := XR) hb hb0).trans k3
  go_wp2_with fail
  refine hB3.p_any.mono ?_
  rintro e w4 ⟨rfl, hb4⟩
  go_wp2_with fail
  refine (rAddS_any S.p y m w4 ((k.lin xrT hy).mono hb4).ok (hm.mono hb4).ok (by omega) cy (by rw [em.out]; exact coef_nv hv _)).mono ?_
  rintro e w5 ⟨r, rfl, er, hr, hb5⟩
  rw [em.out] at er
  go_wp2
  go_ret
  exact ⟨r, rfl, er, hr, hB3.mono (below2 hb4 hb5), k.trans (KX.of_below (below2 hb4 hb5) hB3.lt)⟩
end Go.Proofs.Ytlgjnidphldiiaa
