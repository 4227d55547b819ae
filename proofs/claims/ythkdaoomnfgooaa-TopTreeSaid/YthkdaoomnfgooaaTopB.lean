/- The tree of the top: a slice of operations of three fields as a parameter; a list of leaves that is cut and appended to. -/
import Derived.Test.YthkdaoomnfgooaaTopA
import Derived.ArgAppend
namespace Go.Proofs.Ythkdaoomnfgooaa
open Go.ChangeShapes Go.WideShapes Go.ChangeAt Go.RowKit

/-- A slice of operations. -/
def OpS3 (w : World) (ad : Option Addr) (ops : List (Bool × Int × Int)) : Prop :=
  0 < ops.length → ∃ b off, ad = some ⟨b, off, none⟩ ∧ b < w.heap.size ∧ ∀ i, i < ops.length → w.cell? ⟨b, off + i * 3, none⟩ = some (.bool (ops.getD i (false, 0, 0)).1) ∧ w.cell? ⟨b, off + i * 3 + 1, none⟩ = some (.int .u64 (ops.getD i (false, 0, 0)).2.1) ∧ w.cell? ⟨b, off + i * 3 + 2, none⟩ = some (.int .u8 (ops.getD i (false, 0, 0)).2.2)
theorem OpS3.mono {w w' : World} {ad : Option Addr} {ops : List (Bool × Int × Int)} (h : OpS3 w ad ops) (hb : Below w.heap.size w w') : OpS3 w' ad ops := fun h0 => by
  obtain ⟨b, off, e, hl, hc⟩ := h h0
  exact ⟨b, off, e, Nat.lt_of_lt_of_le hl hb.size, fun i hi => ⟨cell_below hb (hc i hi).1, cell_below hb (hc i hi).2.1, cell_below hb (hc i hi).2.2⟩⟩
def OpsW3 (ops : List (Bool × Int × Int)) : Prop := ∀ o ∈ ops, (0 ≤ o.2.1 ∧ o.2.1 < 18446744073709551616) ∧ (0 ≤ o.2.2 ∧ o.2.2 < 256)
structure OpP3 (w : World) (a : Option Addr) (c : Nat) (ops : List (Bool × Int × Int)) : Prop where
  s : OpS3 w a ops
  w : OpsW3 ops

theorem wf_u8' {j : Int} (h : (Lit.int .u8 j).wf = true) : 0 ≤ j ∧ j < 256 := by
  unfold Lit.wf at h
  simp at h
  have e0 : IntKind.u8.min = 0 := rfl
  have e1 : IntKind.u8.max = 255 := rfl
  omega

section
variable {H : Type} {enc : TypeId × Value → H} {P : Program} {w : World}

theorem open_ops3 {r : Reach} {b0 : Nat} {t e : TypeId} {f0 f1 f2 : Field} {v : Value} {d : DataW H} {ps : List MemPlace} (ht : P.underlying t = some (.slice e)) (he : P.underlying e = some (.struct #[f0, f1, f2]))
    (ce : P.cellsOf e = 3) (o0 : f0.offset = 0) (o1 : f1.offset = 1) (o2 : f2.offset = 2) (c0 : P.cellsOf f0.type = 1) (c1 : P.cellsOf f1.type = 1) (c2 : P.cellsOf f2.type = 1) (hb : P.underlying f0.type = some .bool) (hi : P.underlying f1.type = some (.int .u64)) (hi2 : P.underlying f2.type = some (.int .u8))
    (hd : DataW.Trod enc P w 0 (fun _ => true) true t v d ps) (hval : Value.okWide P w r b0 t v) :
    ∃ (ad : Option Addr) (c : Nat) (ops : List (Bool × Int × Int)), v = .slice ad ops.length c ∧ OpP3 w ad c ops := by
  obtain ⟨a, len, cap, rfl⟩ := okWide_slice ht hval
  obtain ⟨fuel, hf⟩ := hd
  have hcells : (Value.slice a len cap).cells.toList = [.slice a len cap] := by simp [Value.cells]
  rw [hcells] at hf
  rcases Deep.open_slice ht hf with ⟨h1, _⟩ | ⟨a', len', cap', m, n, D, Pl, h1, _, h3, _, h5, _, h7⟩
  · simp only [List.cons.injEq, and_true] at h1
    exact ⟨none, 0, [], h1, fun h => absurd h (Nat.lt_irrefl 0), fun o ho => (by cases ho)⟩
  · simp only [List.cons.injEq, and_true] at h1
    cases h1
    simp only [if_true] at h5
    have each : ∀ i, i < len → ∃ q : Bool × Int × Int, w.cell? (a'.add (i * 3)) = some (.bool q.1) ∧ w.cell? (a'.add (i * 3 + 1)) = some (.int .u64 q.2.1) ∧ w.cell? (a'.add (i * 3 + 2)) = some (.int .u8 q.2.2) ∧ (Lit.int .u64 q.2.1).wf = true ∧ (Lit.int .u8 q.2.2).wf = true := fun i hil => by
      obtain ⟨cs', g1, g2⟩ := h7 i (by omega)
      rw [ce] at g1
      obtain ⟨_, hlen, hcell⟩ := World.cells?_some g1
      obtain ⟨xs, k, _, _, _, hxl, hff⟩ := DataW.trod_struct he g2
      match xs, hxl, cs', hlen with
      | [y0, y1, y2], _, [v0, v1, v2], _ =>
        have g0 := hff 0 f0 rfl
        have g1 := hff 1 f1 rfl
        have g2 := hff 2 f2 rfl
        simp [o0, o1, o2, c0, c1, c2] at g0 g1 g2
        have e0 := hcell 0 (by omega)
        have e1 := hcell 1 (by omega)
        have e2 := hcell 2 (by omega)
        rw [Deep.add_add] at e0 e1 e2
        obtain ⟨b, z0, _⟩ := DataW.trod_bool hb g0
        obtain ⟨k1, z1, _, w1⟩ := DataW.trod_int hi g1
        obtain ⟨k2, z2, _, w2⟩ := DataW.trod_int hi2 g2
        simp only [List.cons.injEq, and_true] at z0 z1 z2
        subst z0 z1 z2
        exact ⟨(b, k1, k2), by simpa using e0, by simpa using e1, by simpa using e2, w1, w2⟩
    obtain ⟨q, hq⟩ := Deep.choose_lt each
    have hlen : ((List.range len).map q).length = len := by simp
    have hget : ∀ i, i < len → ((List.range len).map q).getD i (false, 0, 0) = q i := fun i hil => by
      rw [List.getD_eq_getElem?_getD, List.getElem?_map, List.getElem?_range hil]; rfl
    refine ⟨some a', cap, (List.range len).map q, by rw [hlen], ?_, fun o ho => ?_⟩
    · intro h0
      rw [hlen] at h0
      have hs : a'.spot = none := by
        have := (hq 0 h0).1
        have e : a'.add (0 * 3) = a' := by simp [Addr.add]
        rw [e] at this
        unfold World.cell? at this
        split at this
        · cases hsp : a'.spot with
          | none => rfl
          | some z => rw [hsp] at this; simp at this
        · cases this
      obtain ⟨b, off, spot⟩ := a'
      simp only at hs
      subst hs
      have hadd : ∀ j, (⟨b, off + j, none⟩ : Addr) = (⟨b, off, none⟩ : Addr).add j := fun j => by
        unfold Addr.add
        split
        · rename_i h; subst h; rfl
        · rfl
      refine ⟨b, off, rfl, ?_, fun i hil => ?_⟩
      · have := cell_lt (hq 0 h0).1
        rw [← hadd] at this
        exact this
      · rw [hlen] at hil
        rw [hget i hil]
        obtain ⟨g0, g1, g2, _, _⟩ := hq i hil
        rw [← hadd] at g0 g1 g2
        exact ⟨g0, g1, g2⟩
    · obtain ⟨i, hil, rfl⟩ := List.mem_map.1 ho
      obtain ⟨_, _, _, w1, w2⟩ := hq i (List.mem_range.1 hil)
      exact ⟨wf_u64 w1, wf_u8' w2⟩
end

/-- A list of leaves beside a tree: a slice of the call's own, or one that is full. -/
structure Lv (w : World) (base bV n : Nat) (vs : Nat → Value) (a : Option Addr) (c : Nat) (m : List Int) : Prop where
  s : Sl w .u64 a m
  nn : a = none → m = [] ∧ c = 0
  le : m.length ≤ c
  far : ∀ ad, a = some ad → ad.block < w.heap.size ∧ ¬ inLog bV n vs ad.block
  fr : Own w base 30 .u64 (.slice a m.length c) m ∨ c = m.length
section
variable {w w' : World} {base bL bV n : Nat} {vs vs' : Nat → Value} {a : Option Addr} {c : Nat} {m : List Int}
theorem Lv.mono (h : Lv w base bV n vs a c m) (hb : Below w.heap.size w w') : Lv w' base bV n vs a c m :=
  ⟨h.s.mono hb, h.nn, h.le, fun ad e => ⟨Nat.lt_of_lt_of_le (h.far ad e).1 hb.size, (h.far ad e).2⟩, h.fr.imp (fun o => o.mono hb) id⟩
theorem Keep.sl {S : Nat → Prop} (hk : Keep S w w') (h : Sl w .u64 a m) (hn : ∀ ad, a = some ad → ¬ S ad.block) : Sl w' .u64 a m := fun h0 => by
  obtain ⟨b, off, e, hl, hc⟩ := h h0
  refine ⟨b, off, e, Nat.lt_of_lt_of_le hl hk.size, fun i hi => ?_⟩
  rw [World.cell?_of_block (w := w) (hk.block b hl (hn _ e))]
  exact hc i hi
theorem Lv.keep (h : Lv w base bV n vs a c m) (hk : Keep (inLog bV n vs) w w') (hi : ∀ i, inLog bV n vs' i → inLog bV n vs i ∨ w.heap.size ≤ i) : Lv w' base bV n vs' a c m :=
  ⟨hk.sl h.s fun ad e => (h.far ad e).2, h.nn, h.le, fun ad e => ⟨Nat.lt_of_lt_of_le (h.far ad e).1 hk.size, fun hin => by
    rcases hi _ hin with h1 | h1
    · exact (h.far ad e).2 h1
    · have := (h.far ad e).1; omega⟩, h.fr.imp (fun o => hk.own o fun g e => by
      cases a with
      | none => cases e
      | some ad => simp only [Value.ownBlock, Option.some.injEq] at e; subst e; exact (h.far ad rfl).2) id⟩
theorem Lv.cut (h : Lv w base bV n vs a c m) {k : Nat} (hk : k ≤ m.length) : Lv w base bV n vs a k (m.take k) := by
  have hl : (m.take k).length = k := by rw [List.length_take]; omega
  exact ⟨Sl.take h.s k, fun e => by
    obtain ⟨rfl, rfl⟩ := h.nn e
    exact ⟨by simp, by simpa using hk⟩, by omega, h.far, .inr hl.symm⟩
theorem Lv.of_own (o : Own w base 30 .u64 (.slice a m.length c) m) (hn : ∀ g, (Value.slice a m.length c).ownBlock = some g → ¬ inLog bV n vs g) : Lv w base bV n vs a c m := by
  obtain ⟨a', c', e, hs, hle, _⟩ := Own.sl o
  injection e with e1 e2 e3
  subst e1 e3
  refine ⟨hs, fun e => ?_, hle, fun ad e => ?_, .inl o⟩
  · rcases o.form with ⟨h0, h1⟩ | ⟨g, _, _, h0, _⟩
    · injection h0 with _ _ h0; exact ⟨h1, h0⟩
    · rw [e] at h0; injection h0 with h0; cases h0
  · subst e
    exact ⟨(o.lt rfl).2, hn _ rfl⟩
theorem Lv.nil (w : World) (base bV n : Nat) (vs : Nat → Value) : Lv w base bV n vs none 0 [] :=
  ⟨Sl.nil _ _ _, fun _ => ⟨rfl, rfl⟩, Nat.le_refl _, fun _ e => (by cases e), .inr rfl⟩

/-- append of one leaf. -/
theorem wpList_lv {P : Program} (w : World) {ops : Array Oper} {rest : List Oper} {o : Oper} {ac : Act} {Q : Exit → Act → World → Prop} (y : Int) (hgd : o.guard = none) (s x : Operand) (t : TypeId)
    (ho : o.op = .call { callee := .builtin .append, args := #[s, x], argTypes := #[t, t] })
    (ht : P.underlying t = some (.slice 30)) (hinfo : (P.info? 30).map (fun i => (i.zero, i.size, i.bytes)) = some (some (.int .u64 0), 1, 8))
    (base bL bV n : Nat) (vs : Nat → Value) (Ls : Nat → List Int) (a : Option Addr) (c : Nat) (m : List Int) (z : Nat) (hs : ac.eval s = .slice a m.length c) (hx : ac.eval x = .slice (some ⟨z, 0, none⟩) 1 1) (hz : z = w.heap.size)
    (hv : Lv w base bV n vs a c m) (hT : LogS w base bL bV n vs Ls) (hlen : m.length ≤ 4096) (hbase : base ≤ w.heap.size) (M : List Int) (hM : M = m ++ [y])
    (h : ∀ a' c' w', LogS w' base bL bV n vs Ls → Lv w' base bV n vs a' c' M → Below base w w' → w.heap.size ≤ w'.heap.size → wpList P ops Q rest (ac.put o.dst (.slice a' M.length c')) w') : wpList P ops Q (o :: rest) ac (w.alloc (.cells #[.int .u64 y] 30)) := by
  subst hz hM
  rcases hv.fr with hown | hfull
  · refine wpList_app1 w 30 .u64 y hgd s x t ho base 8 ht hinfo (by decide) _ m hs hx hown (by omega) hbase fun v' w' h1 h2 => ?_
    have hfar : ∀ g, (Value.slice a m.length c).ownBlock = some g → ¬ inLog bV n vs g := fun g e => by
      cases a with
      | none => cases e
      | some ad => simp only [Value.ownBlock, Option.some.injEq] at e; subst e; exact (hv.far ad rfl).2
    have hk : Keep (fun i => (Value.slice a m.length c).ownBlock = some i) w w' := Keep.grew h2 fun g e => e
    have hT' : LogS w' base bL bV n vs Ls := ⟨hk.blk hT.kL (own_ne_blk hown hT.kL (by decide)), hk.blk hT.kV (own_ne_blk hown hT.kV (by decide)), fun k hk2 => hk.own (hT.own k hk2) fun g e e2 => hfar g e2 (.inr ⟨k, hk2, e⟩), hT.ne, hT.bL, hT.bV⟩
    obtain ⟨a', c', rfl, _, _, _⟩ := Own.sl h1
    refine h a' c' w' hT' (Lv.of_own h1 fun g e hin => ?_) (hk.below (Below.refl _ _) (fun i e => (hown.lt e).1) hbase) h2.by_.size
    have hlt := hT.lt g hin
    rcases Decidable.em ((Value.slice a m.length c).ownBlock = some g) with h3 | h3
    · exact hfar g h3 hin
    · exact h2.ne g hlt h3 e
  · obtain ⟨i, hi, hzz, hsz, hby⟩ := info_parts hinfo
    have hbA : Below w.heap.size w (w.alloc (.cells #[.int .u64 y] 30)) := (Below.refl _ _).alloc (Nat.le_refl _) _
    refine wpList_append_grows _ hgd s x t ho 30 i (.int .u64 0) 1 8 ht hi hzz hsz hby rfl (by omega) a m.length c (m.map (Value.int .u64)) hs (fun e => ⟨by rw [(hv.nn e).1]; rfl, (hv.nn e).2⟩) (by simp) (fun b e j u hu => ?_) ⟨w.heap.size, 0, none⟩ 1 1 [.int .u64 y] hx rfl (fun j u hu => ?_) (fun u hu => ?_) (by omega) (by simp only [maxLen]; omega) (by omega) fun v' w' h1 h2 => ?_
    · have hj : j < m.length := by
        rcases Nat.lt_or_ge j m.length with h | h
        · exact h
        · rw [List.getElem?_eq_none (by simpa using h)] at hu; cases hu
      subst e
      obtain ⟨b', off, e, _, hc⟩ := (hv.s.mono hbA).get hj
      injection e with e
      subst e
      have e : (⟨b', off, none⟩ : Addr).add j = ⟨b', off + j, none⟩ := by unfold Addr.add; split <;> simp_all
      rw [e, hc]
      rw [List.getElem?_map, List.getElem?_eq_getElem hj] at hu
      rw [← hu]
      simp [List.getD_eq_getElem?_getD, List.getElem?_eq_getElem hj]
    · match j, hu with
      | 0, hu =>
        cases hu
        have e : (⟨w.heap.size, 0, none⟩ : Addr).add 0 = ⟨w.heap.size, 0, none⟩ := by simp [Addr.add]
        rw [e]; exact (Blk.newAt rfl).cell rfl
    · simp only [List.mem_singleton] at hu
      subst hu; rfl
    · have hbg : Below (w.alloc (.cells #[.int .u64 y] 30)).heap.size (w.alloc (.cells #[.int .u64 y] 30)) w' := ⟨h2.os, h2.tape, h2.output, h2.size, fun k hk => h2.block k hk (by simp)⟩
      have hb : Below w.heap.size w w' := below2 hbA hbg
      have ho : Own w' (w.alloc (.cells #[.int .u64 y] 30)).heap.size 30 .u64 v' (m ++ [y]) := by
        unfold Own
        rw [List.length_append, List.map_append]
        exact h1
      obtain ⟨a', c', rfl, _, _, _⟩ := Own.sl ho
      have hsz2 : w.heap.size ≤ (w.alloc (.cells #[.int .u64 y] 30)).heap.size := hbA.size
      refine h a' c' w' (hT.mono hb) (Lv.of_own (ho.low (Nat.le_trans hbase hsz2)) fun g e hin => ?_) (hb.mono hbase) hb.size
      have := (ho.lt e).1
      have := hT.lt g hin
      omega
end

end Go.Proofs.Ythkdaoomnfgooaa
