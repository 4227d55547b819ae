/- TopHashRelation's walk. -/
import Derived.Test.YtalmgeefkcebdaaGreatDoorQ36
namespace Go.Proofs.YtalmgeefkcebdaaGreatDoor
open Go.RowKit

theorem POps.below {w w' : World} (h : POps w) (hb : Below w.heap.size w w') : POps w' := by
  have hw : ∀ (a : Addr) v, a.block = 2 → w.cell? a = some v → w'.cell? a = some v := fun a v ha hv => cell_below hb hv
  exact ⟨h.l0.mono hw, h.l1.mono hw, h.l2.mono hw, h.l3.mono hw, h.l4.mono hw⟩
/-- The parts of the program that is built. -/
def K6 (v : Value) (W : World) : Prop := ∃ b, v = .slice (some ⟨b, 0, none⟩) 3 3 ∧ Blk W b #[.bool true, .string nX, .int .i64 1, .int .i64 0, .int .i64 0, .bool false, .string nA, .int .i64 1, .int .i64 0, .int .i64 0, .bool false, .string nB, .int .i64 1, .int .i64 0, .int .i64 0] 34
def K15 (v : Value) (W : World) : Prop := ∃ b, v = .slice (some ⟨b, 0, none⟩) 2 2 ∧ Blk W b #[.int .i64 2, .int .u64 0, .string nA, .slice none 0 0, .int .i64 2, .int .u64 0, .string nB, .slice none 0 0] 29
def KE (t : Tr) (v : Value) (W : World) : Prop := ∃ ev, v = .agg #[.int .i64 ev.op, .int .u64 ev.val, .string ev.nm, .slice ev.ad ev.n ev.c] ∧ Rep W (fun _ => True) t ev
def K17 (t : Tr) (v : Value) (W : World) : Prop := ∃ b y, v = .slice (some ⟨b, 0, none⟩) 2 2 ∧ Blk W b #[.int .i64 2, .int .u64 0, .string nX, .slice none 0 0, .int .i64 y.op, .int .u64 y.val, .string y.nm, .slice y.ad y.n y.c] 29 ∧ Rep W (fun _ => True) t y
def K19 (t : Tr) (v : Value) (W : World) : Prop := ∃ ev, v = .agg #[.int .i64 2, .string ⟨#[]⟩, .bool false, .int .i64 0, .int .i64 0, .int .i64 0, .int .i64 ev.op, .int .u64 ev.val, .string ev.nm, .slice ev.ad ev.n ev.c, .int .i64 0, .int .i64 0, .slice none 0 0] ∧ Rep W (fun _ => True) t ev
def K20 (t : Tr) (v : Value) (W : World) : Prop := ∃ b ev, v = .slice (some ⟨b, 0, none⟩) 1 1 ∧ Blk W b #[.int .i64 2, .string ⟨#[]⟩, .bool false, .int .i64 0, .int .i64 0, .int .i64 0, .int .i64 ev.op, .int .u64 ev.val, .string ev.nm, .slice ev.ad ev.n ev.c, .int .i64 0, .int .i64 0, .slice none 0 0] 38 ∧ Rep W (fun _ => True) t ev
def K21 (t : Tr) (v : Value) (W : World) : Prop := ∃ bd bb, v = .agg #[.slice none 0 0, .slice (some ⟨bd, 0, none⟩) 3 3, .slice (some ⟨bb, 0, none⟩) 1 1] ∧ K6 (.slice (some ⟨bd, 0, none⟩) 3 3) W ∧ K20 t (.slice (some ⟨bb, 0, none⟩) 1 1) W
def K22 (n : Nat) (v : Value) (W : World) : Prop := ∃ b, v = .pointer (some ⟨b, 0, none⟩) ∧ n ≤ b ∧ Blk W b #[.slice none 0 0, .slice none 0 0, .slice none 0 0] 41
section
variable {v : Value} {w w' : World} {t : Tr}
theorem K6.mono (h : K6 v w) (hb : Below w.heap.size w w') : K6 v w' := by
  obtain ⟨b, e, g⟩ := h
  exact ⟨b, e, g.mono hb⟩
theorem K15.mono (h : K15 v w) (hb : Below w.heap.size w w') : K15 v w' := by
  obtain ⟨b, e, g⟩ := h
  exact ⟨b, e, g.mono hb⟩
theorem KE.mono (h : KE t v w) (hb : Below w.heap.size w w') : KE t v w' := by
  obtain ⟨b, e, g⟩ := h
  exact ⟨b, e, g.mono hb⟩
theorem K17.mono (h : K17 t v w) (hb : Below w.heap.size w w') : K17 t v w' := by
  obtain ⟨b, y, e, g, r⟩ := h
  exact ⟨b, y, e, g.mono hb, r.mono hb⟩
theorem K19.mono (h : K19 t v w) (hb : Below w.heap.size w w') : K19 t v w' := by
  obtain ⟨b, e, g⟩ := h
  exact ⟨b, e, g.mono hb⟩
theorem K20.mono (h : K20 t v w) (hb : Below w.heap.size w w') : K20 t v w' := by
  obtain ⟨b, y, e, g, r⟩ := h
  exact ⟨b, y, e, g.mono hb, r.mono hb⟩
theorem K21.mono (h : K21 t v w) (hb : Below w.heap.size w w') : K21 t v w' := by
  obtain ⟨b, c, e, g, r⟩ := h
  exact ⟨b, c, e, g.mono hb, r.mono hb⟩
theorem K22.mono {n : Nat} (h : K22 n v w) (hb : Below w.heap.size w w') : K22 n v w' := by
  obtain ⟨b, e, l, g⟩ := h
  exact ⟨b, e, l, g.mono hb⟩
end
theorem rU_bs {P : Program} {W : World} {p : Later} {cs : Array Value} {T : TypeId} {n : Nat} {φ : Value → World → Prop} (h : φ (.slice (some ⟨(later W p).heap.size, 0, none⟩) n n) ((later W p).alloc (.cells cs T))) :
    Rel.rUpon P (later W p) false φ (.ok (.value (.slice (some ⟨(later W p).heap.size, 0, none⟩) n n)) ((later W p).alloc (.cells cs T))) :=
  ⟨(Below.refl _ _).alloc (Nat.le_refl _) _, h, fun h => by cases h⟩
theorem rU_al {P : Program} {W : World} {p : Later} {cs : Array Value} {T : TypeId} {φ : Value → World → Prop} (h : φ (.pointer (some ⟨(later W p).heap.size, 0, none⟩)) ((later W p).alloc (.cells cs T))) :
    Rel.rUpon P (later W p) false φ (.ok (.value (.pointer (some ⟨(later W p).heap.size, 0, none⟩))) ((later W p).alloc (.cells cs T))) :=
  ⟨(Below.refl _ _).alloc (Nat.le_refl _) _, h, fun h => by cases h⟩
theorem Rep.setT {w : World} {P : Nat → Prop} {c j : Nat} {cs : Array Value} {E : TypeId} {u : Value} (gb : Blk w c cs E) (hE : E ≠ 29) : ∀ {t : Tr} {e : Ev}, Rep w P t e → Rep (w.setCell ⟨c, j, none⟩ u) P t e
  | .nm _, _, h => h
  | .bin _ _ _ _, _, ⟨b, x, y, h1, hp, h2, h3, h4⟩ => ⟨b, x, y, h1, hp, h2.other (fun e => by subst e; exact hE (blk_type gb h2)) _ _, Rep.setT gb hE h3, Rep.setT gb hE h4⟩
theorem pgP_of {w : World} {bd bb : Nat} {ev : Ev} {t : Tr} (gd : Blk w bd #[.bool true, .string nX, .int .i64 1, .int .i64 0, .int .i64 0, .bool false, .string nA, .int .i64 1, .int .i64 0, .int .i64 0, .bool false, .string nB, .int .i64 1, .int .i64 0, .int .i64 0] 34)
    (gb : Blk w bb #[.int .i64 2, .string ⟨#[]⟩, .bool false, .int .i64 0, .int .i64 0, .int .i64 0, .int .i64 ev.op, .int .u64 ev.val, .string ev.nm, .slice ev.ad ev.n ev.c, .int .i64 0, .int .i64 0, .slice none 0 0] 38) (r : Rep w (fun _ => True) t ev) :
    PgP w (.agg #[.slice none 0 0, .slice (some ⟨bd, 0, none⟩) 3 3, .slice (some ⟨bb, 0, none⟩) 1 1]) ds1 t := by
  refine ⟨bd, 3, bb, 1, ev, rfl, fun i hi => ?_, fun j u hu => ?_, r⟩
  · rcases (show i = 0 ∨ i = 1 ∨ i = 2 by have : i < 3 := hi; omega) with rfl | rfl | rfl
    · exact ⟨gd.cell (j := 0) rfl, gd.cell (j := 1) rfl, gd.cell (j := 2) rfl, gd.cell (j := 3) rfl, gd.cell (j := 4) rfl⟩
    · exact ⟨gd.cell (j := 5) rfl, gd.cell (j := 6) rfl, gd.cell (j := 7) rfl, gd.cell (j := 8) rfl, gd.cell (j := 9) rfl⟩
    · exact ⟨gd.cell (j := 10) rfl, gd.cell (j := 11) rfl, gd.cell (j := 12) rfl, gd.cell (j := 13) rfl, gd.cell (j := 14) rfl⟩
  · refine gb.cell ?_
    rw [← hu]
    exact List.getElem?_toArray
theorem sl_two {w : World} {b : Nat} {x y : Int} (g : Blk w b #[.int .u64 x, .int .u64 y] 23) : Sl w .u64 (some ⟨b, 0, none⟩) [x, y] := fun _ =>
  ⟨b, 0, rfl, g.lt, fun i hi => by
    rcases (show i = 0 ∨ i = 1 by have : i < 2 := hi; omega) with rfl | rfl
    · exact g.cell rfl
    · exact g.cell rfl⟩
theorem allW_two {x y : Int} (h : 0 ≤ x ∧ x < 18446744073709551616) (k : 0 ≤ y ∧ y < 18446744073709551616) : AllW [x, y] := fun z hz => by
  rcases List.mem_cons.1 hz with rfl | hz
  · exact h
  · rcases List.mem_cons.1 hz with rfl | hz
    · exact k
    · cases hz
theorem name_K {K : Act → World → Prop} {a : Act} {w0 : World} (h : ∀ W, W = w0 → K a W) : K a w0 := h _ rfl
namespace Rel
/-- Two that may come up. -/
theorem heldTwo {P : Program} {Q : Exit → Act → World → Prop} {md : Region.Mode} {S : World → Prop} {z : Nat} (i j : Nat) {l : List Oper} {oi oj : Oper} {fuel : Nat} {listed : Array Bool} {a : Act} {w : World} (hi : nth l i = some oi) (hj : nth l j = some oj) (hr : Region.ready md l.toArray listed = [i, j])
    (h1 : ∀ K : Act → World → Prop, Shut (∀ a' w', S w' → (S w' → wpAnyL P md l.toArray Q S z fuel (listed.setIfInBounds i true) a' w') → K a' w') → if Region.wanted oi (yielded l.toArray a.tmps) = true then Oper.wp P oi a w K Q else K (a.put oi.dst undef) w)
    (h2 : ∀ K : Act → World → Prop, Shut (∀ a' w', S w' → (S w' → wpAnyL P md l.toArray Q S z fuel (listed.setIfInBounds j true) a' w') → K a' w') → if Region.wanted oj (yielded l.toArray a.tmps) = true then Oper.wp P oj a w K Q else K (a.put oj.dst undef) w) :
    wpAnyL P md l.toArray Q S z (fuel + 1) listed a w :=
  ⟨fun h0 => absurd (hr ▸ h0) (by simp), fun n hn => by
    rw [hr] at hn
    rcases List.mem_cons.1 hn with rfl | hn
    · exact wpOp_step (by rw [← nth_eq]; exact hi) fun K hK => h1 K fun a' w' hS hW => hK a' w' ⟨.inr hS, hW hS⟩
    · rw [List.mem_singleton] at hn
      subst hn
      exact wpOp_step (by rw [← nth_eq]; exact hj) fun K hK => h2 K fun a' w' hS hW => hK a' w' ⟨.inr hS, hW hS⟩⟩
end Rel
set_option maxRecDepth 10000 in
set_option maxHeartbeats 64000000 in
theorem law_any (m k lb l0 l1 l2 : Int) (w : World) (hm : w.cell? ⟨5, 0, none⟩ = some (.int .i64 m)) (hO : POps w) (h5 : 5 < w.heap.size) (hk : 0 ≤ k ∧ k < 256) (hlb : 0 ≤ lb ∧ lb < 65536) (h0 : 0 ≤ l0 ∧ l0 < 18446744073709551616) (h1 : 0 ≤ l1 ∧ l1 < 18446744073709551616) (h2 : 0 ≤ l2 ∧ l2 < 18446744073709551616) :
    Calls Tryz.prog 3 #[.int .u8 k, .int .u16 lb, .agg #[.int .u64 l0, .int .u64 l1, .int .u64 l2]] w fun e w' => e = .returned (.bool true) ∧ Below w.heap.size w w' := by
  have cA := fun W (hb : Below w.heap.size w W) => awake23_any m W (cell_below hb hm) (hO.below hb) (by have := hb.size; omega)
  have cP := fun W => Prime5_any k W hk
  have cN := fun s W => name23_any s W
  have hlw : IntKind.u64.wrap lb = lb := by rw [IntKind.wrap_u64]; omega
  go_enter Tryz.func3, Tryz.ntmps3
  go_wp2_with fail
  refine name_calls fun W hN => ?_
  have hB : Below w.heap.size w W := by rw [hN]; exact (Below.refl _ _).alloc (Nat.le_refl _) _
  have gL : Blk W w.heap.size #[.int .u64 l0, .int .u64 l1, .int .u64 l2] 24 := by rw [hN]; exact Blk.newAt rfl
  clear hN
  refine (cA W hB).mono ?_
  rintro e w1 ⟨rfl, hb1⟩
  replace gL := gL.mono hb1
  have hB1 := below2 hB hb1
  clear hB hb1 cA hm hO
  go_wp2_with fail
  refine (cP w1).mono ?_
  rintro e w2 ⟨p, rfl, hv, hb2⟩
  replace gL := gL.mono hb2
  have hB2 := below2 hB1 hb2
  clear hB1 hb2 cP
  go_wp2_with fail
  refine name_world fun w3 hN => ?_
  have hb3 : Below w2.heap.size w2 w3 := by rw [hN]; exact (Below.refl _ _).alloc (Nat.le_refl _) _
  have gT : Blk w3 w2.heap.size #[.int .i64 1, .int .i64 0, .int .i64 0] 32 := by rw [hN]; exact Blk.newAt rfl
  replace gL := gL.mono hb3
  have hB3 := below2 hB2 hb3
  clear hN hb3 hB2
  have k0 := cell_later' (gT.cell (j := 0) (v := .int .i64 1) rfl); have k1 := cell_later' (gT.cell (j := 1) (v := .int .i64 0) rfl); have k2 := cell_later' (gT.cell (j := 2) (v := .int .i64 0) rfl)
  refine Rel.wp_region_mix 23 [] [(6, K6), (15, K15), (16, KE (.bin 6 lb (.nm nA) (.nm nB))), (17, K17 (.bin 6 lb (.nm nA) (.nm nB))), (18, KE (T1 lb)), (19, K19 (T1 lb)), (20, K20 (T1 lb)), (21, K21 (T1 lb)), (22, K22 w3.heap.size)] Tryz.mixed (by kernel_rfl) (by kernel_rfl) ?_ ?_
  rotate_left
  simp only [List.take_succ_cons, List.take_zero, List.drop_succ_cons, List.drop_zero, List.map_cons, List.map_nil]
  repeat (first | (refine Rel.wpA_b (by rfl) ?_) | (refine Rel.wpA_step (by rfl) fun K hK => ?_; go_simp; first | (refine hK _ ?_; clear hK K) | (apply Exists.intro; refine ⟨fun _ => ?_, hK _ ?_⟩; (first | (go_at_call 6; exact cN _ _)); clear hK K)))
  refine Rel.wpA_nil ?_
  rotate_left
  · intro z hz v u u' h1 h2
    simp only [List.mem_cons, List.not_mem_nil, or_false] at hz
    rcases hz with rfl | rfl | rfl | rfl | rfl | rfl | rfl | rfl | rfl
    · exact K6.mono h1 h2
    · exact K15.mono h1 h2
    · exact KE.mono h1 h2
    · exact K17.mono h1 h2
    · exact KE.mono h1 h2
    · exact K19.mono h1 h2
    · exact K20.mono h1 h2
    · exact K21.mono h1 h2
    · exact K22.mono h1 h2
  refine Rel.wpB_step _ rfl rfl (fun p' hc => ?_) (fun v6 => ?_)
  · go_simp
    exact rU_bs ⟨_, rfl, Blk.new _ _ _⟩
  refine Rel.wpB_step _ rfl rfl (fun p' hc => ?_) (fun v15 => ?_)
  · go_simp
    exact rU_bs ⟨_, rfl, Blk.new _ _ _⟩
  refine Rel.wpB_step _ rfl rfl (fun p' hc => ?_) (fun v16 => ?_)
  · obtain ⟨b, rfl, g⟩ : K15 v15 (later w3 p') := hc _ (List.Mem.tail _ (List.Mem.head _)) (by kernel_rfl)
    go_simp
    exact ⟨Below.refl _ _, ⟨⟨6, lb, ⟨#[]⟩, some ⟨b, 0, none⟩, 2, 2⟩, rfl, b, ⟨2, 0, nA, none, 0, 0⟩, ⟨2, 0, nB, none, 0, 0⟩, rfl, trivial, g, rfl, rfl⟩, fun h => by cases h⟩
  refine Rel.wpB_step _ rfl rfl (fun p' hc => ?_) (fun v17 => ?_)
  · obtain ⟨ev, rfl, g⟩ : KE (.bin 6 lb (.nm nA) (.nm nB)) v16 (later w3 p') := hc _ (List.Mem.tail _ (List.Mem.tail _ (List.Mem.head _))) (by kernel_rfl)
    go_simp
    exact rU_bs ⟨_, ev, rfl, Blk.new _ _ _, g.mono ((Below.refl _ _).alloc (Nat.le_refl _) _)⟩
  refine Rel.wpB_step _ rfl rfl (fun p' hc => ?_) (fun v18 => ?_)
  · obtain ⟨b, y, rfl, g, r⟩ : K17 (.bin 6 lb (.nm nA) (.nm nB)) v17 (later w3 p') := hc _ (List.Mem.tail _ (List.Mem.tail _ (List.Mem.tail _ (List.Mem.head _)))) (by kernel_rfl)
    go_simp
    exact ⟨Below.refl _ _, ⟨⟨14, 0, ⟨#[]⟩, some ⟨b, 0, none⟩, 2, 2⟩, rfl, b, ⟨2, 0, nX, none, 0, 0⟩, y, rfl, trivial, g, rfl, r⟩, fun h => by cases h⟩
  refine Rel.wpB_step _ rfl rfl (fun p' hc => ?_) (fun v19 => ?_)
  · obtain ⟨ev, rfl, g⟩ : KE (T1 lb) v18 (later w3 p') := hc _ (List.Mem.tail _ (List.Mem.tail _ (List.Mem.tail _ (List.Mem.tail _ (List.Mem.head _))))) (by kernel_rfl)
    go_simp
    exact ⟨Below.refl _ _, ⟨ev, rfl, g⟩, fun h => by cases h⟩
  refine Rel.wpB_step _ rfl rfl (fun p' hc => ?_) (fun v20 => ?_)
  · obtain ⟨ev, rfl, g⟩ : K19 (T1 lb) v19 (later w3 p') := hc _ (List.Mem.tail _ (List.Mem.tail _ (List.Mem.tail _ (List.Mem.tail _ (List.Mem.tail _ (List.Mem.head _)))))) (by kernel_rfl)
    go_simp
    exact rU_bs ⟨_, ev, rfl, Blk.new _ _ _, g.mono ((Below.refl _ _).alloc (Nat.le_refl _) _)⟩
  refine Rel.wpB_step _ rfl rfl (fun p' hc => ?_) (fun v21 => ?_)
  · obtain ⟨bd, rfl, gd⟩ : K6 v6 (later w3 p') := hc _ (List.Mem.head _) (by kernel_rfl)
    obtain ⟨bb, ev, rfl, gb, r⟩ : K20 (T1 lb) v20 (later w3 p') := hc _ (List.Mem.tail _ (List.Mem.tail _ (List.Mem.tail _ (List.Mem.tail _ (List.Mem.tail _ (List.Mem.tail _ (List.Mem.head _))))))) (by kernel_rfl)
    go_simp
    exact ⟨Below.refl _ _, ⟨bd, bb, rfl, ⟨bd, rfl, gd⟩, ⟨bb, ev, rfl, gb, r⟩⟩, fun h => by cases h⟩
  refine Rel.wpB_step _ rfl rfl (fun p' hc => ?_) (fun v22 => ?_)
  · go_simp
    exact rU_al ⟨_, rfl, (below_later w3 p').size, Blk.new _ _ _⟩
  refine Rel.wpB_nil ?_
  intro p' hctx hfr
  simp only [List.nil_append, List.cons_append, List.mem_cons, List.not_mem_nil, or_false, forall_eq_or_imp, forall_eq] at hctx
  obtain ⟨_, _, _, _, _, _, _, K, ⟨bt, rfl, lbt, gt⟩⟩ := hctx
  obtain ⟨bd, bb, rfl, ⟨bd', e6, gd⟩, ⟨bb', ev, e20, gb, r⟩⟩ := K
  cases e6
  cases e20
  have hb4 : Below w3.heap.size w3 (later w3 p') := below_later _ _
  clear hfr k0 k1 k2 cN
  generalize later w3 p' = w4 at *
  replace gL := gL.mono hb4
  have hB4 := below2 hB3 hb4
  have hlo3 := hB3.size
  clear hb4 gT hB3
  have y0 := gt.cell (j := 0) (v := .slice none 0 0) rfl; have y1 := gt.cell (j := 1) (v := .slice none 0 0) rfl; have y2 := gt.cell (j := 2) (v := .slice none 0 0) rfl
  have yf := gt.free
  obtain ⟨W5, hW5⟩ : ∃ W5, W5 = ((w4.setCell ⟨bt, 0, none⟩ (.slice none 0 0)).setCell ⟨bt, 1, none⟩ (.slice (some ⟨bd, 0, none⟩) 3 3)).setCell ⟨bt, 2, none⟩ (.slice (some ⟨bb, 0, none⟩) 1 1) := ⟨_, rfl⟩
  have g1 := gt.set 0 (.slice none 0 0)
  have g2 := g1.set 1 (.slice (some ⟨bd, 0, none⟩) 3 3)
  have g3 := g2.set 2 (.slice (some ⟨bb, 0, none⟩) 1 1)
  have nty : ∀ {W : World} {b : Nat} {cs cs' : Array Value} {E : TypeId}, Blk W bt cs 41 → Blk W b cs' E → 41 ≠ E → bt ≠ b := fun h h' hE e => by subst e; exact hE (blk_type h h')
  have gL5 := ((gL.other (nty gt gL (by decide)) 0 (.slice none 0 0)).other (nty gt gL (by decide)) 1 (.slice (some ⟨bd, 0, none⟩) 3 3)).other (nty gt gL (by decide)) 2 (.slice (some ⟨bb, 0, none⟩) 1 1)
  have gd5 := ((gd.other (nty gt gd (by decide)) 0 (.slice none 0 0)).other (nty gt gd (by decide)) 1 (.slice (some ⟨bd, 0, none⟩) 3 3)).other (nty gt gd (by decide)) 2 (.slice (some ⟨bb, 0, none⟩) 1 1)
  have gb5 := ((gb.other (nty gt gb (by decide)) 0 (.slice none 0 0)).other (nty gt gb (by decide)) 1 (.slice (some ⟨bd, 0, none⟩) 3 3)).other (nty gt gb (by decide)) 2 (.slice (some ⟨bb, 0, none⟩) 1 1)
  have r5 := Rep.setT (j := 2) (u := .slice (some ⟨bb, 0, none⟩) 1 1) g2 (by decide) (Rep.setT (j := 1) (u := .slice (some ⟨bd, 0, none⟩) 3 3) g1 (by decide) (Rep.setT (j := 0) (u := .slice none 0 0) gt (by decide) r))
  have hlo : w.heap.size ≤ bt := Nat.le_trans hlo3 lbt
  have hB5 := ((hB4.setCell (p := ⟨bt, 0, none⟩) hlo (.slice none 0 0)).setCell (p := ⟨bt, 1, none⟩) hlo (.slice (some ⟨bd, 0, none⟩) 3 3)).setCell (p := ⟨bt, 2, none⟩) hlo (.slice (some ⟨bb, 0, none⟩) 1 1)
  rw [← hW5] at g3 gL5 gd5 gb5 r5 hB5
  have hP := pgP_of gd5 gb5 r5
  have z0 := g3.cell (j := 0) (v := .slice none 0 0) rfl; have z1 := g3.cell (j := 1) (v := .slice (some ⟨bd, 0, none⟩) 3 3) rfl; have z2 := g3.cell (j := 2) (v := .slice (some ⟨bb, 0, none⟩) 1 1) rfl
  rw [hW5] at z0 z1 z2
  have cC := Compile_any _ ds1 (T1 lb) p hv (cp1 lb hv hlb) W5 hP
  have hp := vld_pos hv
  have hpM : p < 18446744073709551616 := by rcases vld_cases hv with h | h | h | h | h | h | h <;> omega
  have x5 := ext1 (p := p) lb 0 0 0 hv hlb ⟨by omega, by omega⟩ ⟨by omega, by omega⟩ ⟨by omega, by omega⟩
  have xb := bd1 (p := p) lb
  unfold RetCp at cC
  rw [x5.2.2.1, x5.2.2.2.1, x5.2.2.2.2] at cC
  clear gL gd gb r hB4 nty g1 g2 g3 gd5 gb5 r5 hP gt lbt hlo hlo3
  go_wp2_with fail
  rw [← hW5]
  clear z0 z1 z2 y0 y1 y2 yf hW5
  refine cC.mono ?_
  rintro e w6 ⟨ra, rc, R, ha, hc, H, rfl, hR, hH, eR, eH, hb6⟩
  have gL6 := gL5.mono hb6
  have hB6 := below2 hB5 hb6
  clear gL5 hb6 hB5 cC
  -- the values
  obtain ⟨a, ha0⟩ : ∃ a, l0 % p = a := ⟨_, rfl⟩
  obtain ⟨b, hb0⟩ : ∃ b, l1 % p = b := ⟨_, rfl⟩
  obtain ⟨x, hx0⟩ : ∃ x, l2 % p = x := ⟨_, rfl⟩
  have ab : 0 ≤ a ∧ a < p := by rw [← ha0]; exact ⟨Int.emod_nonneg _ (by omega), Int.emod_lt_of_pos _ (by omega)⟩
  have bbd : 0 ≤ b ∧ b < p := by rw [← hb0]; exact ⟨Int.emod_nonneg _ (by omega), Int.emod_lt_of_pos _ (by omega)⟩
  have xbd : 0 ≤ x ∧ x < p := by rw [← hx0]; exact ⟨Int.emod_nonneg _ (by omega), Int.emod_lt_of_pos _ (by omega)⟩
  have ta : l0.tmod p = a := by rw [Int.tmod_eq_emod_of_nonneg h0.1]; exact ha0
  have tb : l1.tmod p = b := by rw [Int.tmod_eq_emod_of_nonneg h1.1]; exact hb0
  have tx : l2.tmod p = x := by rw [Int.tmod_eq_emod_of_nonneg h2.1]; exact hx0
  have wa : IntKind.u64.wrap a = a := by rw [IntKind.wrap_u64]; omega
  have wb : IntKind.u64.wrap b = b := by rw [IntKind.wrap_u64]; omega
  have wx : IntKind.u64.wrap x = x := by rw [IntKind.wrap_u64]; omega
  have hpe : (p == 0) = false := beq_eq_false_iff_ne.2 (by omega)
  have hpn : ¬ p = 0 := by omega
  obtain ⟨h, hh⟩ : ∃ h, (absorb p lb [a, b]).a = h := ⟨_, rfl⟩
  have hhe : hash p lb [a, b] = h := by unfold hash; rw [if_pos hv, hh]
  have hbd : 0 ≤ h ∧ h < p := by
    have h3 := hash_bd p lb [a, b]
    have h4 := hash_lt hv lb [a, b]
    rw [hhe] at h3 h4
    exact ⟨h3.1, h4⟩
  have cH : ∀ W q, Blk W q #[.int .u64 a, .int .u64 b] 23 → Calls Tryz.prog 8 #[.int .u64 p, .int .u64 lb, .slice (some ⟨q, 0, none⟩) 2 2] W fun e w' => e = .returned (.int .u64 h) ∧ Below W.heap.size W w' := fun W q g => by
    have := rHash_any p lb (some ⟨q, 0, none⟩) 2 [a, b] W (by omega) (by omega) (sl_two g) (allW_two (by omega) (by omega)) (show 2 < 1099511627776 by decide)
    rw [hhe] at this
    exact this
  obtain ⟨E, hE⟩ : ∃ E, satE p 1 (cS p ds1 (T1 lb)).vars R 2 H [x] [a, b] = E := ⟨_, rfl⟩
  have hS : ∀ y, 0 ≤ y ∧ y < p → (y = h → satE p 1 (cS p ds1 (T1 lb)).vars R 2 H [y] [a, b] = 0) ∧ (¬ y = h → satE p 1 (cS p ds1 (T1 lb)).vars R 2 H [y] [a, b] = 9) := fun y hy => by
    obtain ⟨wf, q, e1, e2, e3⟩ := ext1 (p := p) lb y a b hv hlb hy ab bbd
    obtain ⟨_, q1, q2⟩ := sat_if wf (by rw [e2]; rfl) xb.1 xb.2 eR.out eH.out
    rw [e1, e2, e3] at q1 q2
    rw [hh] at q
    exact ⟨fun e => q1 (q.2 e), fun e => q2 (fun k => e (q.1 k))⟩
  have hEd : ∃ d : Bool, (E == 0) = d ∧ (x == h) = d := by
    by_cases e : x = h
    · exact ⟨true, by rw [← hE, (hS x xbd).1 e]; rfl, by rw [e]; exact beq_self_eq_true h⟩
    · exact ⟨false, by rw [← hE, (hS x xbd).2 e]; rfl, beq_eq_false_iff_ne.2 e⟩
  obtain ⟨d, dE, dx⟩ := hEd
  have cS1 : ∀ W, RowsP W ra rc R → HintsP W ha hc H → ∀ b1 b2, Blk W b1 #[.int .u64 h] 23 → Blk W b2 #[.int .u64 a, .int .u64 b] 23 → Calls Tryz.prog 9 #[.agg #[.int .u64 p, .int .i64 1, .int .i64 (cS p ds1 (T1 lb)).vars, .slice ra R.length rc, .int .i64 2, .slice ha H.length hc], .slice (some ⟨b1, 0, none⟩) 1 1, .slice (some ⟨b2, 0, none⟩) 2 2] W fun e w' => ∃ v, e = .returned (.tuple #[v, .int .i64 0]) ∧ Below W.heap.size W w' := fun W hR hH b1 b2 g1 g2 => by
    have := aSat_any p 1 (cS p ds1 (T1 lb)).vars ra R rc 2 ha H hc (some ⟨b1, 0, none⟩) 1 [h] (some ⟨b2, 0, none⟩) 2 [a, b] W hR hH (by decide) (sl_one g1) (sl_two g2) (allW_one (by omega)) (allW_two (by omega) (by omega))
    rw [(hS h hbd).1 rfl] at this
    exact this.mono fun e w' ⟨v, h1, _, h3⟩ => ⟨v, h1, h3⟩
  have cS2 : ∀ W, RowsP W ra rc R → HintsP W ha hc H → ∀ b1 b2, Blk W b1 #[.int .u64 x] 23 → Blk W b2 #[.int .u64 a, .int .u64 b] 23 → Calls Tryz.prog 9 #[.agg #[.int .u64 p, .int .i64 1, .int .i64 (cS p ds1 (T1 lb)).vars, .slice ra R.length rc, .int .i64 2, .slice ha H.length hc], .slice (some ⟨b1, 0, none⟩) 1 1, .slice (some ⟨b2, 0, none⟩) 2 2] W fun e w' => ∃ v, e = .returned (.tuple #[v, .int .i64 E]) ∧ Below W.heap.size W w' := fun W hR hH b1 b2 g1 g2 => by
    have := aSat_any p 1 (cS p ds1 (T1 lb)).vars ra R rc 2 ha H hc (some ⟨b1, 0, none⟩) 1 [x] (some ⟨b2, 0, none⟩) 2 [a, b] W hR hH (by decide) (sl_one g1) (sl_two g2) (allW_one (by omega)) (allW_two (by omega) (by omega))
    rw [hE] at this
    exact this.mono fun e w' ⟨v, h1, _, h3⟩ => ⟨v, h1, h3⟩
  generalize (cS p ds1 (T1 lb)).vars = VV at *
  obtain ⟨M, hM⟩ : ∃ M, R.length = M := ⟨_, rfl⟩
  obtain ⟨KH, hKH⟩ : ∃ KH, H.length = KH := ⟨_, rfl⟩
  rw [hM, hKH] at cS1 cS2
  rw [hM, hKH]
  clear hhe hS hE eR eH xb x5 hh ha0 hb0 hx0 hM hKH hv hbd ab bbd xbd
  go_wp2_with fail
  refine name_world fun W7 hN => ?_
  have hb7 : Below w6.heap.size w6 W7 := by rw [hN]; exact (Below.refl _ _).alloc (Nat.le_refl _) _
  have gC : Blk W7 w6.heap.size #[.int .u64 p, .int .i64 1, .int .i64 VV, .slice ra M rc, .int .i64 2, .slice ha KH hc] 47 := by rw [hN]; exact Blk.newAt rfl
  replace gL6 := gL6.mono hb7
  replace hR := hR.mono hb7
  replace hH := hH.mono hb7
  replace hB6 := below2 hB6 hb7
  clear hN hb7
  refine Rel.region_any Tryz.mixed fun w8 hb8 => ?_
  replace gL6 := gL6.mono hb8
  replace gC := gC.mono hb8
  replace hR := hR.mono hb8
  replace hH := hH.mono hb8
  replace hB6 := below2 hB6 hb8
  clear hb8
  refine Rel.any_held (fun W => W.cell? ⟨w.heap.size, 0, none⟩ = some (.int .u64 l0) ∧ W.cell? ⟨w.heap.size, 1, none⟩ = some (.int .u64 l1)) 9 ⟨gL6.cell (j := 0) rfl, gL6.cell (j := 1) rfl⟩ fun hH0 => ?_
  refine Rel.tk (v := ?_) 0 ?_ ?_
  rotate_left
  · (intro W hSw; (try dsimp only at hSw); go_simp; try with_reducible rfl)
  try simp only [Act.put, List.setIfInBounds_toArray, List.set_cons_zero, List.set_cons_succ]
  refine Rel.tk (v := ?_) 1 ?_ ?_
  rotate_left
  · (intro W hSw; (try dsimp only at hSw); go_simp; try with_reducible rfl)
  try simp only [Act.put, List.setIfInBounds_toArray, List.set_cons_zero, List.set_cons_succ]
  refine Rel.tk (v := ?_) 2 ?_ ?_
  rotate_left
  · (intro W hSw; (try dsimp only at hSw); go_simp; try with_reducible rfl)
  try simp only [Act.put, List.setIfInBounds_toArray, List.set_cons_zero, List.set_cons_succ]
  refine Rel.tk (v := ?_) 3 ?_ ?_
  rotate_left
  · (intro W hSw; (try dsimp only at hSw); go_simp; try with_reducible rfl)
  try simp only [Act.put, List.setIfInBounds_toArray, List.set_cons_zero, List.set_cons_succ]
  refine Rel.tk (v := ?_) 4 ?_ ?_
  rotate_left
  · (intro W hSw; (try dsimp only at hSw); go_simp; try with_reducible rfl)
  try simp only [Act.put, List.setIfInBounds_toArray, List.set_cons_zero, List.set_cons_succ]
  refine Rel.tk (v := ?_) 5 ?_ ?_
  rotate_left
  · (intro W hSw; (try dsimp only at hSw); go_simp; try with_reducible rfl)
  try simp only [Act.put, List.setIfInBounds_toArray, List.set_cons_zero, List.set_cons_succ]
  refine Rel.tk (v := ?_) 6 ?_ ?_
  rotate_left
  · (intro W hSw; (try dsimp only at hSw); go_simp; try with_reducible rfl)
  try simp only [Act.put, List.setIfInBounds_toArray, List.set_cons_zero, List.set_cons_succ]
  refine Rel.tk (v := ?_) 7 ?_ ?_
  rotate_left
  · (intro W hSw; (try dsimp only at hSw); go_simp; try with_reducible rfl)
  try simp only [Act.put, List.setIfInBounds_toArray, List.set_cons_zero, List.set_cons_succ]
  refine Rel.tk (v := ?_) 8 ?_ ?_
  rotate_left
  · (intro W hSw; (try dsimp only at hSw); go_simp; try with_reducible rfl)
  try simp only [Act.put, List.setIfInBounds_toArray, List.set_cons_zero, List.set_cons_succ]
  refine Rel.heldLast 9 rfl (by kernel_rfl) rfl (by kernel_rfl) fun K hK => ?_
  go_simp
  refine hK.out _ _ ?_
  clear hK K hH0
  go_wp2_with fail
  refine name_calls fun W9 hN => ?_
  have hb9 : Below w8.heap.size w8 W9 := by rw [hN]; exact (Below.refl _ _).alloc (Nat.le_refl _) _
  have g2 : Blk W9 w8.heap.size #[.int .u64 a, .int .u64 b] 23 := by rw [hN]; exact Blk.newAt rfl
  clear hN
  refine (cH W9 _ g2).mono ?_
  rintro e w10 ⟨rfl, hb10⟩
  have hb910 := below2 hb9 hb10
  replace gL6 := gL6.mono hb910
  replace gC := gC.mono hb910
  replace hR := hR.mono hb910
  replace hH := hH.mono hb910
  replace hB6 := below2 hB6 hb910
  clear hb9 hb10 hb910 g2 cH
  have k0 := gC.cell (j := 0) (v := .int .u64 p) rfl; have k1 := gC.cell (j := 1) (v := .int .i64 1) rfl; have k2 := gC.cell (j := 2) (v := .int .i64 VV) rfl; have k3 := gC.cell (j := 3) (v := .slice ra M rc) rfl; have k4 := gC.cell (j := 4) (v := .int .i64 2) rfl; have k5 := gC.cell (j := 5) (v := .slice ha KH hc) rfl
  go_wp2_with fail
  refine name_calls fun W11 hN => ?_
  have hb11 : Below w10.heap.size w10 W11 := by rw [hN]; exact ((Below.refl _ _).alloc (Nat.le_refl _) _).alloc (by simp) _
  have g1 : Blk W11 w10.heap.size #[.int .u64 h] 23 := by rw [hN]; exact (Blk.newAt rfl).alloc _
  have g2 : Blk W11 (w10.heap.size + 1) #[.int .u64 a, .int .u64 b] 23 := by rw [hN]; exact Blk.newAt (by simp)
  clear hN k0 k1 k2 k3 k4 k5
  refine (cS1 W11 (hR.mono hb11) (hH.mono hb11) _ _ g1 g2).mono ?_
  rintro e w12 ⟨v12, rfl, hb12⟩
  have hb1112 := below2 hb11 hb12
  replace gL6 := gL6.mono hb1112
  replace gC := gC.mono hb1112
  replace hR := hR.mono hb1112
  replace hH := hH.mono hb1112
  replace hB6 := below2 hB6 hb1112
  clear hb11 hb12 hb1112 g1 g2 cS1
  go_wp2_with fail
  refine Rel.region_any Tryz.mixed fun w13 hb13 => ?_
  replace gL6 := gL6.mono hb13
  replace gC := gC.mono hb13
  replace hR := hR.mono hb13
  replace hH := hH.mono hb13
  replace hB6 := below2 hB6 hb13
  clear hb13
  have cell7 : ∀ W, Below w13.heap.size w13 W → W.cell? ⟨w6.heap.size, 0, none⟩ = some (.int .u64 p) ∧ W.cell? ⟨w6.heap.size, 1, none⟩ = some (.int .i64 1) ∧ W.cell? ⟨w6.heap.size, 2, none⟩ = some (.int .i64 VV) ∧ W.cell? ⟨w6.heap.size, 3, none⟩ = some (.slice ra M rc) ∧ W.cell? ⟨w6.heap.size, 4, none⟩ = some (.int .i64 2) ∧ W.cell? ⟨w6.heap.size, 5, none⟩ = some (.slice ha KH hc) ∧ W.cell? ⟨w.heap.size, 2, none⟩ = some (.int .u64 l2) := fun W hb =>
    ⟨(gC.mono hb).cell rfl, (gC.mono hb).cell rfl, (gC.mono hb).cell rfl, (gC.mono hb).cell rfl, (gC.mono hb).cell rfl, (gC.mono hb).cell rfl, (gL6.mono hb).cell rfl⟩
  refine Rel.any_held (fun W => W.cell? ⟨w6.heap.size, 0, none⟩ = some (.int .u64 p) ∧ W.cell? ⟨w6.heap.size, 1, none⟩ = some (.int .i64 1) ∧ W.cell? ⟨w6.heap.size, 2, none⟩ = some (.int .i64 VV) ∧ W.cell? ⟨w6.heap.size, 3, none⟩ = some (.slice ra M rc) ∧ W.cell? ⟨w6.heap.size, 4, none⟩ = some (.int .i64 2) ∧ W.cell? ⟨w6.heap.size, 5, none⟩ = some (.slice ha KH hc) ∧ W.cell? ⟨w.heap.size, 2, none⟩ = some (.int .u64 l2)) 14 (cell7 w13 (Below.refl _ _)) fun hH0 => ?_
  refine Rel.tk (v := ?_) 0 ?_ ?_
  rotate_left
  · (intro W hSw; (try dsimp only at hSw); go_simp; try with_reducible rfl)
  try simp only [Act.put, List.setIfInBounds_toArray, List.set_cons_zero, List.set_cons_succ]
  refine Rel.tk (v := ?_) 1 ?_ ?_
  rotate_left
  · (intro W hSw; (try dsimp only at hSw); go_simp; try with_reducible rfl)
  try simp only [Act.put, List.setIfInBounds_toArray, List.set_cons_zero, List.set_cons_succ]
  refine Rel.tk (v := ?_) 2 ?_ ?_
  rotate_left
  · (intro W hSw; (try dsimp only at hSw); go_simp; try with_reducible rfl)
  try simp only [Act.put, List.setIfInBounds_toArray, List.set_cons_zero, List.set_cons_succ]
  refine Rel.tk (v := ?_) 3 ?_ ?_
  rotate_left
  · (intro W hSw; (try dsimp only at hSw); go_simp; try with_reducible rfl)
  try simp only [Act.put, List.setIfInBounds_toArray, List.set_cons_zero, List.set_cons_succ]
  refine Rel.tk (v := ?_) 4 ?_ ?_
  rotate_left
  · (intro W hSw; (try dsimp only at hSw); go_simp; try with_reducible rfl)
  try simp only [Act.put, List.setIfInBounds_toArray, List.set_cons_zero, List.set_cons_succ]
  refine Rel.tk (v := ?_) 6 ?_ ?_
  rotate_left
  · (intro W hSw; (try dsimp only at hSw); go_simp; try with_reducible rfl)
  try simp only [Act.put, List.setIfInBounds_toArray, List.set_cons_zero, List.set_cons_succ]
  refine Rel.tk (v := ?_) 7 ?_ ?_
  rotate_left
  · (intro W hSw; (try dsimp only at hSw); go_simp; try with_reducible rfl)
  try simp only [Act.put, List.setIfInBounds_toArray, List.set_cons_zero, List.set_cons_succ]
  refine Rel.heldTwo 5 8 rfl rfl (by kernel_rfl) (fun K hK => ?_) (fun K hK => ?_)
  · go_simp
    have hbA : Below w13.heap.size w13 (w13.alloc (.cells #[.int .u64 x] 23)) := (Below.refl _ _).alloc (Nat.le_refl _) _
    refine hK.out _ _ (cell7 _ hbA) (fun hH1 => ?_)
    clear hK K
    try simp only [Act.put, List.setIfInBounds_toArray, List.set_cons_zero, List.set_cons_succ]
    refine Rel.heldNext 8 rfl (by kernel_rfl) fun K hK => ?_
    go_simp
    refine name_K fun W14 hN => ?_
    have hb14 : Below w13.heap.size w13 W14 := by rw [hN]; exact hbA.alloc (by simp) _
    have g1 : Blk W14 w13.heap.size #[.int .u64 x] 23 := by rw [hN]; exact (Blk.newAt rfl).alloc _
    have g2 : Blk W14 (w13.heap.size + 1) #[.int .u64 a, .int .u64 b] 23 := by rw [hN]; exact Blk.newAt (by simp)
    clear hN hbA
    refine hK.out _ _ (cell7 _ hb14) (fun hH2 => ?_)
    clear hK K
    try simp only [Act.put, List.setIfInBounds_toArray, List.set_cons_zero, List.set_cons_succ]
    refine Rel.heldNext 9 rfl (by kernel_rfl) fun K hK => ?_
    go_simp
    refine (cS2 W14 (hR.mono hb14) (hH.mono hb14) _ _ g1 g2).mono ?_
    rintro e w15 ⟨v15, rfl, hb15⟩
    have hb16 := below2 hb14 hb15
    refine hK.out _ _ (cell7 _ hb16) (fun hH3 => ?_)
    clear hK K
    try simp only [Act.put, List.setIfInBounds_toArray, List.set_cons_zero, List.set_cons_succ]
    refine Rel.tk (v := ?_) 10 ?_ ?_
    rotate_left
    · (intro W hSw; (try dsimp only at hSw); go_simp; try with_reducible rfl)
    try simp only [Act.put, List.setIfInBounds_toArray, List.set_cons_zero, List.set_cons_succ]
    refine Rel.tk (v := ?_) 11 ?_ ?_
    rotate_left
    · (intro W hSw; (try dsimp only at hSw); go_simp; try with_reducible rfl)
    try simp only [Act.put, List.setIfInBounds_toArray, List.set_cons_zero, List.set_cons_succ]
    refine Rel.tk (v := ?_) 12 ?_ ?_
    rotate_left
    · (intro W hSw; (try dsimp only at hSw); go_simp; try with_reducible rfl)
    try simp only [Act.put, List.setIfInBounds_toArray, List.set_cons_zero, List.set_cons_succ]
    refine Rel.heldNext 13 rfl (by kernel_rfl) fun K hK => ?_
    go_simp
    refine hK.out _ _ (cell7 _ hb16) (fun hH4 => ?_)
    clear hK K
    try simp only [Act.put, List.setIfInBounds_toArray, List.set_cons_zero, List.set_cons_succ]
    refine Rel.heldLast 14 rfl (by kernel_rfl) rfl (by kernel_rfl) fun K hK => ?_
    go_simp
    have q2 := (gL6.mono hb16).cell (j := 2) (v := .int .u64 l2) rfl
    have hBF := below2 hB6 hb16
    refine hK.out _ _ ?_
    clear hK K hH0 hH1 hH2 hH3 hH4 cell7 gC gL6 hR hH cS2 g1 g2 hb14 hb15 hb16 hB6
    go_wp2
    go_ret
    exact ⟨by first | rfl | simp, hBF⟩
  · go_simp
    have hbA : Below w13.heap.size w13 (w13.alloc (.cells #[.int .u64 a, .int .u64 b] 23)) := (Below.refl _ _).alloc (Nat.le_refl _) _
    refine hK.out _ _ (cell7 _ hbA) (fun hH1 => ?_)
    clear hK K
    try simp only [Act.put, List.setIfInBounds_toArray, List.set_cons_zero, List.set_cons_succ]
    refine Rel.heldNext 5 rfl (by kernel_rfl) fun K hK => ?_
    go_simp
    refine name_K fun W14 hN => ?_
    have hb14 : Below w13.heap.size w13 W14 := by rw [hN]; exact hbA.alloc (by simp) _
    have g2 : Blk W14 w13.heap.size #[.int .u64 a, .int .u64 b] 23 := by rw [hN]; exact (Blk.newAt rfl).alloc _
    have g1 : Blk W14 (w13.heap.size + 1) #[.int .u64 x] 23 := by rw [hN]; exact Blk.newAt (by simp)
    clear hN hbA
    refine hK.out _ _ (cell7 _ hb14) (fun hH2 => ?_)
    clear hK K
    try simp only [Act.put, List.setIfInBounds_toArray, List.set_cons_zero, List.set_cons_succ]
    refine Rel.heldNext 9 rfl (by kernel_rfl) fun K hK => ?_
    go_simp
    refine (cS2 W14 (hR.mono hb14) (hH.mono hb14) _ _ g1 g2).mono ?_
    rintro e w15 ⟨v15, rfl, hb15⟩
    have hb16 := below2 hb14 hb15
    refine hK.out _ _ (cell7 _ hb16) (fun hH3 => ?_)
    clear hK K
    try simp only [Act.put, List.setIfInBounds_toArray, List.set_cons_zero, List.set_cons_succ]
    refine Rel.tk (v := ?_) 10 ?_ ?_
    rotate_left
    · (intro W hSw; (try dsimp only at hSw); go_simp; try with_reducible rfl)
    try simp only [Act.put, List.setIfInBounds_toArray, List.set_cons_zero, List.set_cons_succ]
    refine Rel.tk (v := ?_) 11 ?_ ?_
    rotate_left
    · (intro W hSw; (try dsimp only at hSw); go_simp; try with_reducible rfl)
    try simp only [Act.put, List.setIfInBounds_toArray, List.set_cons_zero, List.set_cons_succ]
    refine Rel.tk (v := ?_) 12 ?_ ?_
    rotate_left
    · (intro W hSw; (try dsimp only at hSw); go_simp; try with_reducible rfl)
    try simp only [Act.put, List.setIfInBounds_toArray, List.set_cons_zero, List.set_cons_succ]
    refine Rel.heldNext 13 rfl (by kernel_rfl) fun K hK => ?_
    go_simp
    refine hK.out _ _ (cell7 _ hb16) (fun hH4 => ?_)
    clear hK K
    try simp only [Act.put, List.setIfInBounds_toArray, List.set_cons_zero, List.set_cons_succ]
    refine Rel.heldLast 14 rfl (by kernel_rfl) rfl (by kernel_rfl) fun K hK => ?_
    go_simp
    have q2 := (gL6.mono hb16).cell (j := 2) (v := .int .u64 l2) rfl
    have hBF := below2 hB6 hb16
    refine hK.out _ _ ?_
    clear hK K hH0 hH1 hH2 hH3 hH4 cell7 gC gL6 hR hH cS2 g1 g2 hb14 hb15 hb16 hB6
    go_wp2
    go_ret
    exact ⟨by first | rfl | simp, hBF⟩
end Go.Proofs.YtalmgeefkcebdaaGreatDoor

