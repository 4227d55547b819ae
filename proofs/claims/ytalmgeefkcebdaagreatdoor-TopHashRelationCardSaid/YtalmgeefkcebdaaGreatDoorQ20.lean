/- The parser: the body of a program of one statement. -/
import Derived.Test.YtalmgeefkcebdaaGreatDoorQ19
namespace Go.Proofs.YtalmgeefkcebdaaGreatDoor
open Go.RowKit

theorem at_end {w0 w : World} {q g k : Nat} {L : List Tk4} (h : PZ w0 w q g L k) (s : ByteArray) (hk : (L.getD k default).k = 0) :
    Calls Tryz.prog 27 #[.pointer (some ⟨q, 0, none⟩), .string s] w fun e w' => e = .returned (.bool false) ∧ Below w.heap.size w w' := by
  obtain ⟨m, c, h⟩ := h
  obtain ⟨n0, n1, _, _⟩ := h.now
  have k0 := h.blk.cell (j := 0) (v := .slice (some ⟨g, k * 4, none⟩) m c) rfl
  have hm := h.pos
  have hrefl := Below.refl w.heap.size w
  rw [hk] at n0
  generalize L.getD k default = d at *
  clear hk
  go_enter Tryz.func27, Tryz.ntmps27
  go_wp2
  go_ret
  exact ⟨rfl, hrefl⟩
def RetUn1 (w : World) (e : Ending) (w' : World) : Prop := e = .returned (.tuple #[]) ∧ Below w.heap.size w w'
theorem checkDepth_no (q : Nat) (pos : Int) (w : World) : Calls Tryz.prog 72 #[.pointer (some ⟨q, 0, none⟩), .int .i64 pos, .bool false] w (RetUn1 w) := by
  have hrefl := Below.refl w.heap.size w
  go_enter Tryz.func72, Tryz.ntmps72
  go_wp2
  exact bodyPost_ret (v := .tuple #[]) (by simp [results, Tryz.results72, go_sem]) rfl ⟨rfl, hrefl⟩
def stL : Lay Ev := ⟨stC, 13, fun _ => rfl, by decide, fun x u hu => by
  simp only [stC, List.mem_cons, List.not_mem_nil, or_false] at hu
  rcases hu with rfl | rfl | rfl | rfl | rfl | rfl | rfl | rfl | rfl | rfl | rfl | rfl | rfl <;> rfl⟩
theorem Tryz.infoSt : (Tryz.prog.info? 38).map (fun i => (i.zero, i.size, i.bytes)) = some (some (.agg #[.int .i64 0, .string ⟨#[]⟩, .bool false, .int .i64 0, .int .i64 0, .int .i64 0, .int .i64 0, .int .u64 0, .string ⟨#[]⟩, .slice none 0 0, .int .i64 0, .int .i64 0, .slice none 0 0]), 13, 152) := by kernel_rfl

section
variable {α : Type} {L : Lay α}
/-- append of any slice onto one of the call's own. -/
theorem run_appH {P : Program} {w : World} {t ty E : TypeId} {z : Value} {bytes : Nat} (ht : P.underlying t = some (.slice E)) (hinfo : (P.info? E).map (fun i => (i.zero, i.size, i.bytes)) = some (some z, L.m, bytes)) (hz : z.cells.size = L.m) (h8 : bytes ≤ 2000)
    {base c : Nat} {v : Value} {xs ys : List α} {A : Option Addr} (hown : OwnG L w base E v xs) (hsl : SlG L w A ys) (hlen : xs.length + ys.length < 68719476736) (hbase : base ≤ w.heap.size) :
    ∃ v' w', (Builtin.append_ #[t, t] ty #[v, .slice A ys.length c]).run P w = .ok v' w' ∧ OwnG L w' base E v' (xs ++ ys) ∧ w.grownBy w' v.ownBlock ∧ (v'.ownBlock = v.ownBlock ∨ v'.ownBlock = some w.heap.size) := by
  obtain ⟨i, hi, hzi, hsz, hby⟩ := info_partsG hinfo
  have h47 : (xs.length + ys.length) * bytes ≤ 140737488355328 := by
    have : (xs.length + ys.length) * bytes ≤ (xs.length + ys.length) * 2000 := Nat.mul_le_mul_left _ h8
    omega
  have fin : ∀ v' w', w'.ownsRow base E L.m v' (xs.length + ys.length) (xs.flatMap L.f ++ ys.flatMap L.f) → OwnG L w' base E v' (xs ++ ys) := fun v' w' h => by
    unfold OwnG
    rw [List.length_append, List.flatMap_append]; exact h
  rcases Nat.eq_zero_or_pos ys.length with h0 | h0
  · obtain rfl := List.eq_nil_of_length_eq_zero h0
    rcases A with _ | ad
    · refine ⟨v, w, ?_, by simpa using hown, ⟨rfl, rfl, rfl, Nat.le_refl _, fun _ _ _ => rfl⟩, .inl rfl⟩
      rcases hown.2 with ⟨rfl, h4⟩ | ⟨g, cap, cur, rfl, _, _, hnc, _⟩
      · simp [Builtin.append_, run_underlying ht, sizeOf, typeInfo, hi, Builtin.lenOf, Builtin.firstCells]
      · simp [Builtin.append_, run_underlying ht, sizeOf, typeInfo, hi, Builtin.lenOf, Builtin.firstCells, hnc, storeCells]
    · obtain ⟨v', w', hr, h2, h3, _, h5⟩ := run_append_own_at (P := P) w base t ty E i z L.m bytes ht hi hzi hsz hby hz L.pos v xs.length _ hown ad 0 c [] (by simp) (fun j u hu => by simp at hu) (fun u hu => by simp at hu) (by simp only [maxLen]; simp only [List.length_nil] at hlen; omega) (by simpa using h47) hbase
      exact ⟨v', w', hr, fin _ _ (by simpa using h2), h3, h5⟩
  · obtain ⟨b, off, rfl, _, hc⟩ := hsl h0
    obtain ⟨v', w', hr, h2, h3, _, h5⟩ := run_append_own_at (P := P) w base t ty E i z L.m bytes ht hi hzi hsz hby hz L.pos v xs.length _ hown ⟨b, off, none⟩ ys.length c (ys.flatMap L.f) (L.flat_len ys) (fun j u hu => by
      rw [addr_add0]; exact hc j u hu) (L.flat_one ys) (by simp only [maxLen]; omega) h47 hbase
    exact ⟨v', w', hr, fin _ _ h2, h3, h5⟩

/-- append, for the walk. -/
theorem wpList_appH {P : Program} (w : World) {ops : Array Oper} {rest : List Oper} {o : Oper} {a : Act} {Q : Exit → Act → World → Prop} (L : Lay α) (xs ys : List α) (hgd : o.guard = none) (s x : Operand) (t : TypeId)
    (ho : o.op = .call { callee := .builtin .append, args := #[s, x], argTypes := #[t, t] })
    (base : Nat) (E : TypeId) (z : Value) (bytes : Nat) (ht : P.underlying t = some (.slice E)) (hinfo : (P.info? E).map (fun i => (i.zero, i.size, i.bytes)) = some (some z, L.m, bytes)) (hz : z.cells.size = L.m) (h8 : bytes ≤ 2000)
    (v : Value) (c n : Nat) (A : Option Addr) (hs : a.eval s = v) (hx : a.eval x = .slice A n c) (hn : n = ys.length) (hown : OwnG L w base E v xs) (hsl : SlG L w A ys) (hlen : xs.length + ys.length < 68719476736) (hbase : base ≤ w.heap.size)
    (h : ∀ v' w', OwnG L w' base E v' (xs ++ ys) → Grew w w' v v' → wpList P ops Q rest (a.put o.dst v') w') : wpList P ops Q (o :: rest) a w := by
  subst hn
  refine wpList_plain hgd fun K hK => ?_
  obtain ⟨v', w', hr, h2, h3, h4⟩ := run_appH (P := P) (ty := o.type) (c := c) ht hinfo hz h8 hown hsl hlen hbase
  unfold Oper.wp execOp
  simp only [ho, resolve, invoke, builtin, Sem.run_bind, Sem.run_pure, Result.andThen_ok, List.map_toArray, List.map_cons, List.map_nil, hs, hx, hr]
  exact hK _ _ (h v' w' h2 (.of h3 h4))
end

/-- The parser returns a list of one statement. -/
def RetBd (w0 w : World) (q g : Nat) (L : List Tk4) (k : Nat) (t : Tr) (e : Ending) (w' : World) : Prop := ∃ b c ev, e = .returned (.slice (some ⟨b, 0, none⟩) 1 c) ∧ w.heap.size ≤ b ∧ StP w' b ev ∧ Rep w' (fun b => w.heap.size ≤ b) t ev ∧ PZ w0 w' q g L k ∧ KX XPr w0.heap.size w w'
theorem stp_of {w : World} {base : Nat} {v : Value} {ev : Ev} (h : OwnG stL w base 38 v [ev]) : ∃ b c, v = .slice (some ⟨b, 0, none⟩) 1 c ∧ base ≤ b ∧ b < w.heap.size ∧ StP w b ev := by
  rcases h.form with ⟨_, h2⟩ | ⟨g, cap, cur, rfl, h1, h2, h3, h4, h5, h6⟩
  · cases h2
  · refine ⟨g, cap, rfl, h1, h2.lt, fun j u hu => h2.cell ?_⟩
    have e : (([ev] : List Ev).flatMap stL.f)[j]? = some u := by
      rw [List.flatMap_cons, List.flatMap_nil, List.append_nil]
      exact hu
    rw [← h6, List.getElem?_take] at e
    split at e
    · simpa using e
    · cases e
set_option maxRecDepth 10000 in
set_option maxHeartbeats 16000000 in
theorem body_any {w0 w : World} {q g k k2 : Nat} {L : List Tk4} (h : PZ w0 w q g L k) (t : Tr) (hok : t.ok) (hdt : t.dep ≤ 40)
    (h0 : (L.getD k default).k ≠ 0) (hl : ((L.getD k default).t.toList == (⟨#[108, 101, 116]⟩ : ByteArray).toList) = false) (ha : ((L.getD k default).t.toList == (⟨#[97, 115, 115, 101, 114, 116]⟩ : ByteArray).toList) = true) (he : (L.getD k2 default).k = 0)
    (hS : ∀ W, PZ w0 W q g L k → Calls Tryz.prog 75 #[.pointer (some ⟨q, 0, none⟩)] W (RetS w0 W q g L k2 t)) :
    Calls Tryz.prog 30 #[.pointer (some ⟨q, 0, none⟩), .bool true] w (RetBd w0 w q g L k2 t) := by
  have cL := fun W h => at_any (w0 := w0) (w := W) (q := q) (g := g) (L := L) (k := k) h ⟨#[108, 101, 116]⟩ h0 false hl
  have cA := fun W h => at_any (w0 := w0) (w := W) (q := q) (g := g) (L := L) (k := k) h ⟨#[97, 115, 115, 101, 114, 116]⟩ h0 true ha
  have cE := fun s W h => at_end (w0 := w0) (w := W) (q := q) (g := g) (L := L) (k := k2) h s he
  have hz := h.size
  clear h0 hl ha he
  go_enter Tryz.func30, Tryz.ntmps30
  go_wp2_with fail
  go_loopw [5] (fun t5 wr => (t5 = .slice none 0 0 ∧ wr = w) ∨ RetBd w0 w q g L k2 t (.returned t5) wr) (fun t5 _ => match t5 with | .slice none _ _ => 1 | _ => 0)
  case atStart => exact Or.inl ⟨rfl, rfl⟩
  case round =>
    rcases hrel with ⟨rfl, rfl⟩ | hR
    · go_wp2_with fail
      refine (cL _ h).mono ?_
      rintro e w1 ⟨rfl, hb1⟩
      go_wp2_with fail
      refine (cA w1 (h.mono hb1)).mono ?_
      rintro e w2 ⟨rfl, hb2⟩
      have hB2 := below2 hb1 hb2
      have p2 := h.mono hB2
      obtain ⟨m, c, h2⟩ := p2
      obtain ⟨n0, n1, n2, n3⟩ := h2.now
      have k0 := h2.blk.cell (j := 0) (v := .slice (some ⟨g, k * 4, none⟩) m c) rfl
      have hm := h2.pos
      generalize L.getD k default = d at *
      clear cL cA hb1 hb2
      go_wp2_with fail
      refine (hS w2 ⟨m, c, h2⟩).mono ?_
      rintro e w3 ⟨ev, rfl, hRp, p3, k3⟩
      have hz3 : w0.heap.size ≤ w3.heap.size := p3.size
      have hz2 : wr.heap.size ≤ w2.heap.size := hB2.size
      have hz23 : w2.heap.size ≤ w3.heap.size := k3.below.size
      have kx := (KX.of_below hB2 hz).trans k3
      have hR3 : Rep w3 (fun b => wr.heap.size ≤ b) t ev := hRp.imp (fun b hb _ => by omega)
      clear hS h2 n0 n1 n2 n3 k0 k3 hRp hm hB2
      unfold stV
      unfold stC
      go_wp2_with fail
      refine name_calls fun W hN => ?_
      have hbW : Below w3.heap.size w3 W := by rw [hN]; exact ((Below.refl _ _).alloc (Nat.le_refl _) _).alloc (by simp) _
      have gT : Blk W w3.heap.size (stC ev).toArray 38 := by rw [hN]; exact (Blk.newAt rfl).alloc _
      have gS : Blk W (w3.heap.size + 1) (stC ev).toArray 38 := by rw [hN]; exact Blk.newAt (by simp)
      clear hN
      have sS : StP W (w3.heap.size + 1) ev := fun j u hu => gS.cell (by simpa using hu)
      refine (Valid15_any t hok hdt W _ ev (hR3.mono hbW) none 0 0 (w3.heap.size + 1) 1 sS (fun W2 _ => everyD0_any W2)).mono ?_
      rintro e w4 ⟨rfl, hb4⟩
      replace gT := gT.mono hb4
      have hb34 := below2 hbW hb4
      clear gS sS hb4 hbW
      go_wp2_with fail
      refine (checkDepth_no q _ w4).mono ?_
      rintro e w5 ⟨rfl, hb5⟩
      replace gT := gT.mono hb5
      have hb35 := below2 hb34 hb5
      have p5 := p3.mono hb35
      have kx5 := kx.trans (KX.of_below hb35 hz3)
      have hR5 := hR3.mono hb35
      have hz5 := hb35.size
      clear hb34 hb5 hb35 p3 kx hR3
      unfold stC at gT
      have t0 := gT.cell (j := 0) (v := .int .i64 2) rfl; have t1 := gT.cell (j := 1) (v := .string ⟨#[]⟩) rfl; have t2 := gT.cell (j := 2) (v := .bool false) rfl; have t3 := gT.cell (j := 3) (v := .int .i64 0) rfl; have t4 := gT.cell (j := 4) (v := .int .i64 0) rfl; have t5 := gT.cell (j := 5) (v := .int .i64 0) rfl; have t6 := gT.cell (j := 6) (v := .int .i64 ev.op) rfl; have t7 := gT.cell (j := 7) (v := .int .u64 ev.val) rfl; have t8 := gT.cell (j := 8) (v := .string ev.nm) rfl; have t9 := gT.cell (j := 9) (v := .slice ev.ad ev.n ev.c) rfl; have t10 := gT.cell (j := 10) (v := .int .i64 0) rfl; have t11 := gT.cell (j := 11) (v := .int .i64 0) rfl; have t12 := gT.cell (j := 12) (v := .slice none 0 0) rfl
      go_wp2_with (at_builtin; refine wpList_appH _ stL [] [ev] rfl _ _ 36 rfl wr.heap.size 38 (.agg #[.int .i64 0, .string ⟨#[]⟩, .bool false, .int .i64 0, .int .i64 0, .int .i64 0, .int .i64 0, .int .u64 0, .string ⟨#[]⟩, .slice none 0 0, .int .i64 0, .int .i64 0, .slice none 0 0]) 152 Tryz.underlying36 Tryz.infoSt rfl (by decide) _ 1 1 (some ⟨_, 0, none⟩) rfl rfl rfl (OwnG.nil _ _ _ _) (SlG.one (Blk.newAt rfl) rfl) (by simp) (by simp; omega) ?_; intro v' w' own' hg'; refine Hold.mk ?_)
      refine Hold.go ?_
      have bA := below2 ((Below.refl w5.heap.size w5).alloc (Nat.le_refl _) (.cells (stC ev).toArray 38)) (hg'.belowG (Below.refl _ _) (OwnG.nil stL _ _ 38) (Nat.le_refl _) (Nat.le_refl _))
      have p6 := p5.mono bA
      have hR6 := hR5.mono bA
      have k6 := kx5.trans (KX.of_below bA p5.size)
      rw [List.nil_append] at own'
      obtain ⟨b, c', rfl, hb0, hb1, sF⟩ := stp_of own'
      have hF : RetBd w0 wr q g L k2 t (.returned (.slice (some ⟨b, 0, none⟩) 1 c')) w' := ⟨b, c', ev, rfl, hb0, sF, hR6, p6, k6⟩
      clear own' hg' bA p5 kx5 hR5 p6 hR6 k6 sF gT t0 t1 t2 t3 t4 t5 t6 t7 t8 t9 t10 t11 t12
      go_wp2
      go_roundw
      case rel => exact Or.inr hF
      case measure => simp
    · obtain ⟨b, c, ev, e5, hb0, sF, hR, p, kx⟩ := hR
      injection e5 with e5
      subst e5
      go_wp2_with fail
      refine (cE _ wr p).mono ?_
      rintro e w1 ⟨rfl, hb1⟩
      go_wp2_with fail
      refine (cE _ w1 (p.mono hb1)).mono ?_
      rintro e w2 ⟨rfl, hb2⟩
      have h12 := below2 hb1 hb2
      go_wp2_with fail
      refine (cE _ w2 (p.mono h12)).mono ?_
      rintro e w3 ⟨rfl, hb3⟩
      have h13 := below2 h12 hb3
      have hF : RetBd w0 w q g L k2 t (.returned (.slice (some ⟨b, 0, none⟩) 1 c)) w3 := ⟨b, c, ev, rfl, hb0, sF.mono h13, hR.mono h13, p.mono h13, kx.trans (KX.of_below h13 p.size)⟩
      clear sF hR p kx hb1 hb2 h12 hb3 h13
      go_wp2
      exact bodyPost_ret (v := .slice (some ⟨b, 0, none⟩) 1 c) (by simp [results, Tryz.results30, go_sem]) rfl hF
end Go.Proofs.YtalmgeefkcebdaaGreatDoor

