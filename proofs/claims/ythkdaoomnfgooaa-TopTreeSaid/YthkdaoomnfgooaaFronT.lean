/- Copies of frontiers: own, back, small, Clone; append among the relational operations of a region. -/
import Derived.Test.YthkdaoomnfgooaaFron
namespace Go.Proofs.Ythkdaoomnfgooaa
open Go.RowKit

/-- A new slice without elements, of no capacity. -/
def NewE (n : Nat) (E : TypeId) (v : Value) (w : World) : Prop := ∃ b, v = .slice (some ⟨b, 0, none⟩) 0 0 ∧ n ≤ b ∧ Blk w b #[] E
theorem NewE.keep {n : Nat} {E : TypeId} {v : Value} {w w' : World} (h : NewE n E v w) (hb : Below w.heap.size w w') : NewE n E v w' := by
  obtain ⟨b, h1, h2, h3⟩ := h
  exact ⟨b, h1, h2, h3.mono hb⟩
theorem rUpon_newe {P : Program} (W : World) (p : Later) (E : TypeId) :
    Rel.rUpon P (later W p) false (NewE W.heap.size E) (.ok (.value (.slice (some ⟨(later W p).heap.size, 0, none⟩) 0 0)) ((later W p).alloc (.cells #[] E))) :=
  ⟨(Below.refl _ _).alloc (Nat.le_refl _) _, ⟨_, rfl, (below_later W p).size, Blk.new _ _ _⟩, fun h => by cases h⟩

theorem run_app0 {P : Program} {w : World} {t ty E : TypeId} {k : IntKind} {bytes : Nat} (ht : P.underlying t = some (.slice E)) (hinfo : (P.info? E).map (fun i => (i.zero, i.size, i.bytes)) = some (some (.int k 0), 1, bytes)) (h8 : bytes ≤ 8)
    {base g c : Nat} {ys : List Int} {A : Option Addr} (hown : Own w base E k (.slice (some ⟨g, 0, none⟩) 0 0) []) (hsl : Sl w k A ys) (hlen : ys.length < 1099511627776) (hbase : base ≤ w.heap.size) :
    ∃ v' w', (Builtin.append_ #[t, t] ty #[.slice (some ⟨g, 0, none⟩) 0 0, .slice A ys.length c]).run P w = .ok v' w' ∧ Own w' base E k v' ys ∧ Below w.heap.size w w' := by
  obtain ⟨i, hi, hz, hsz, hby⟩ := info_parts hinfo
  rcases Nat.eq_zero_or_pos ys.length with h0 | h0
  · obtain rfl := List.eq_nil_of_length_eq_zero h0
    refine ⟨_, w, ?_, hown, Below.refl _ _⟩
    rcases A with _ | ad
    · simp [Builtin.append_, run_underlying ht, sizeOf, typeInfo, hi, Builtin.lenOf, Builtin.firstCells, storeCells]
    · simp [Builtin.append_, run_underlying ht, sizeOf, typeInfo, hi, Builtin.lenOf, Builtin.firstCells, storeCells, loadCells, loadCellsFrom]
  · obtain ⟨b, off, rfl, _, hc⟩ := hsl h0
    have hfit : ys.length * bytes ≤ 281474976710656 := by
      have : ys.length * bytes ≤ ys.length * 8 := Nat.mul_le_mul_left _ h8
      omega
    have hnews : ∀ j u, (ys.map (Value.int k))[j]? = some u → w.cell? ((⟨b, off, none⟩ : Addr).add j) = some u := fun j u hu => by
      have hj : j < ys.length := by
        rcases Nat.lt_or_ge j ys.length with h | h
        · exact h
        · rw [List.getElem?_eq_none (by simpa using h)] at hu; cases hu
      have e : (⟨b, off, none⟩ : Addr).add j = ⟨b, off + j, none⟩ := by unfold Addr.add; split <;> simp_all
      rw [e, hc j hj]
      rw [List.getElem?_map, List.getElem?_eq_getElem hj] at hu
      rw [← hu]
      simp [List.getD_eq_getElem?_getD, List.getElem?_eq_getElem hj]
    obtain ⟨v', w', hr, h2, h3, _, h5⟩ := run_append_own_at (P := P) w w.heap.size t ty E i (.int k 0) 1 bytes ht hi hz hsz hby rfl (by omega) (.slice none 0 0) 0 _ (Own.nil w w.heap.size E k) ⟨b, off, none⟩ ys.length c (ys.map (Value.int k)) (by simp) hnews (fun u hu => by
        obtain ⟨z, _, rfl⟩ := List.mem_map.1 hu
        rfl) (by simp only [maxLen]; omega) (by
        have : ys.length * bytes ≤ ys.length * 8 := Nat.mul_le_mul_left _ h8
        rw [Nat.zero_add]; omega) (Nat.le_refl _)
    have e : (Builtin.append_ #[t, t] ty #[.slice (some ⟨g, 0, none⟩) 0 0, .slice (some ⟨b, off, none⟩) ys.length c]).run P w = (Builtin.append_ #[t, t] ty #[.slice none 0 0, .slice (some ⟨b, off, none⟩) ys.length c]).run P w := by
      rw [run_append_grow (P := P) (w := w) t ty E i (.int k 0) ht hi hz ⟨g, 0, none⟩ 0 0 [] (by simp) (fun j u hu => by simp at hu) ⟨b, off, none⟩ ys.length c (ys.map (Value.int k)) (by simp [hsz]) hnews (by omega) (by omega) (by
          rw [Nat.zero_add, nextslicecap_zero h0, hby]; exact hfit),
        run_append_nil (P := P) (w := w) t ty E i (.int k 0) ht hi hz ⟨b, off, none⟩ ys.length c (ys.map (Value.int k)) (by simp [hsz]) hnews h0 (by omega) (by rw [hby]; exact hfit)]
      simp
    refine ⟨v', w', by rw [e, hr], ?_, ?_⟩
    · have h2' : Own w' w.heap.size E k v' ys := by simpa [Own] using h2
      exact h2'.low hbase
    · exact ⟨h3.os, h3.tape, h3.output, h3.size, fun i hi => h3.block i hi (by simp [Value.ownBlock])⟩

theorem rUpon_app0 {P : Program} {W0 : World} {p : Later} {o : Oper} {a : Act} (s x : Operand) (t : TypeId)
    (ho : o.op = .call { callee := .builtin .append, args := #[s, x], argTypes := #[t, t] }) {E : TypeId} {k : IntKind} {bytes : Nat}
    (ht : P.underlying t = some (.slice E)) (hinfo : (P.info? E).map (fun i => (i.zero, i.size, i.bytes)) = some (some (.int k 0), 1, bytes)) (h8 : bytes ≤ 8)
    {ys : List Int} {c : Nat} {A : Option Addr} {v : Value} (hv : NewE W0.heap.size E v (later W0 p)) (hs : a.eval s = v) (hx : a.eval x = .slice A ys.length c) (hsl : Sl (later W0 p) k A ys) (hlen : ys.length < 1099511627776) :
    Rel.rUpon P (later W0 p) false (fun v w => Own w W0.heap.size E k v ys) ((execOp a.eval o).run P (later W0 p)) := by
  obtain ⟨g, rfl, n4, g4⟩ := hv
  have hown : Own (later W0 p) W0.heap.size E k (.slice (some ⟨g, 0, none⟩) 0 0) [] := Own.of_blk n4 g4 (Nat.le_refl _) (by simp) rfl rfl
  obtain ⟨v', w', hr, h2, h3⟩ := run_app0 (P := P) (ty := o.type) (c := c) ht hinfo h8 hown hsl hlen (below_later W0 p).size
  unfold execOp
  simp only [ho, resolve, invoke, builtin, Sem.run_bind, Sem.run_pure, Result.andThen_ok, List.map_toArray, List.map_cons, List.map_nil, hs, hx, hr]
  exact ⟨h3, h2, fun h => by cases h⟩

set_option maxHeartbeats 1000000 in
theorem own36_any (d c : Int) (ad : Option Addr) (cap : Nat) (L : List Int) (w : World) (hs : Sl w .u64 ad L) (hl : L.length < 1099511627776) :
    Calls Try.prog 22 #[.agg #[.int .i64 d, .int .i64 c, .slice ad L.length cap]] w (RetF w d c L) := by
  go_enter Try.func22, Try.ntmps22
  go_wp2_with fail
  refine name_world fun W hW => ?_
  have g0 : Blk W w.heap.size #[.int .i64 d, .int .i64 c, .slice ad L.length cap] 24 := by rw [hW]; exact (Blk.newAt rfl).alloc _
  have g1 : Blk W (w.heap.size + 1) #[.int .i64 0, .int .i64 0, .slice none 0 0] 28 := by rw [hW]; exact Blk.newAt (by simp)
  have hB : Below w.heap.size w W := by rw [hW]; exact ((Below.refl _ _).alloc (Nat.le_refl _) _).alloc (by simp) _
  have hz : W.heap.size = w.heap.size + 2 := by rw [hW]; simp
  replace hz := hide hz
  clear hW
  have k0 := cell_later' (g0.cell (j := 0) (v := .int .i64 d) rfl); have k1 := cell_later' (g0.cell (j := 1) (v := .int .i64 c) rfl); have k2 := cell_later' (g0.cell (j := 2) (v := .slice ad L.length cap) rfl)
  refine Rel.wp_region_mix 8 [] [(4, NewE W.heap.size 30), (7, fun v w => Own w W.heap.size 30 .u64 v L)] Try.mixed (by kernel_rfl) (by kernel_rfl) ?_ ?_
  rotate_left
  simp only [List.take_succ_cons, List.take_zero, List.drop_succ_cons, List.drop_zero, List.map_cons, List.map_nil]
  repeat (first | (refine Rel.wpA_b (by rfl) ?_) | (refine Rel.wpA_step (by rfl) fun K hK => ?_; go_simp; first | (refine hK _ ?_; clear hK K) | (apply Exists.intro; refine ⟨fun _ => ?_, hK _ ?_⟩; (first | fail); clear hK K)))
  refine Rel.wpA_nil ?_
  rotate_left
  · intro z hz v u u' h1 h2
    simp only [List.mem_cons, List.not_mem_nil, or_false] at hz
    rcases hz with rfl | rfl
    · exact NewE.keep h1 h2
    · exact Own.mono h1 h2
  refine Rel.wpB_step _ rfl rfl (fun p' hc => ?_) (fun v4 => ?_)
  · go_simp
    exact rUpon_newe _ _ _
  refine Rel.wpB_step _ rfl rfl (fun p' hc => ?_) (fun v7 => ?_)
  · have h4 : NewE W.heap.size 30 v4 (later W p') := hc _ (List.Mem.head _) (by kernel_rfl)
    exact rUpon_app0 _ _ 22 rfl (bytes := 8) Try.underlying22 Try.infoU64 (by decide) h4 rfl rfl ((hs.mono hB).mono (below_later _ _)) hl
  refine Rel.wpB_nil ?_
  intro p' hctx hfr
  simp only [List.nil_append, List.cons_append, List.mem_cons, List.not_mem_nil, or_false, forall_eq_or_imp, forall_eq] at hctx
  obtain ⟨_, o7⟩ := hctx
  have hb2 : Below W.heap.size W (later W p') := below_later _ _
  clear hfr k0 k1 k2 g0
  generalize later W p' = w2 at *
  replace hB := below2 hB hb2
  replace g1 := g1.mono hb2
  obtain ⟨a7, c7, rfl, _, _, _⟩ := Own.sl o7
  have hn : (Value.slice a7 L.length c7).ownBlock ≠ some (w.heap.size + 1) := fun e => by have := (o7.lt e).1; have := hz.out; omega
  replace o7 := o7.low (show w.heap.size ≤ W.heap.size by have := hz.out; omega)
  clear hb2 hz
  have y0 := g1.cell (j := 0) (v := .int .i64 0) rfl; have y1 := g1.cell (j := 1) (v := .int .i64 0) rfl; have y2 := g1.cell (j := 2) (v := .slice none 0 0) rfl
  have f := g1.free
  have l2 := g1.lt
  go_wp2
  exact bodyPost_ret (v := .agg #[.int .i64 d, .int .i64 c, .slice a7 L.length c7]) (by simp [results, Try.results22, go_sem, y0, y1, y2]) rfl ⟨_, rfl, ((o7.other hn _).other hn _).other hn _, below_set3 hB (by omega) _ _ _⟩

set_option maxHeartbeats 1000000 in
theorem back36_any (d c : Int) (ad : Option Addr) (n cap : Nat) (w : World) :
    Calls Try.prog 27 #[.agg #[.int .i64 d, .int .i64 c, .slice ad n cap]] w fun e w' => e = .returned (.agg #[.int .i64 d, .int .i64 c, .slice ad n cap]) ∧ Below w.heap.size w w' := by
  go_enter Try.func27, Try.ntmps27
  go_wp2
  exact bodyPost_ret (v := .agg #[.int .i64 d, .int .i64 c, .slice ad n cap]) (by simp [results, Try.results27, go_sem]) rfl ⟨rfl, ((Below.refl _ _).alloc (Nat.le_refl _) _).alloc (by simp) _⟩

def smallB (d : Int) (n : Nat) : Bool := decide (n ≤ 20 ∧ (d ≤ 8 ∨ 12 < d))
set_option maxHeartbeats 1000000 in
theorem small36_any (d c : Int) (ad : Option Addr) (cap : Nat) (n : Nat) (w : World) :
    Calls Try.prog 20 #[.agg #[.int .i64 d, .int .i64 c, .slice ad n cap]] w fun e w' => e = .returned (.bool (smallB d n)) ∧ Below w.heap.size w w' := by
  by_cases h1 : n ≤ 20
  · by_cases h2 : d ≤ 8
    · have hR : Hid (smallB d n = true) := hide (by unfold smallB; simp; omega)
      go_enter Try.func20, Try.ntmps20
      go_wp2
      go_ret
      exact ⟨ret_bool hR.out.symm, (Below.refl _ _).alloc (Nat.le_refl _) _⟩
    · have h2' : 8 < d := by omega
      by_cases h3 : 12 < d
      · have hR : Hid (smallB d n = true) := hide (by unfold smallB; simp; omega)
        go_enter Try.func20, Try.ntmps20
        go_wp2
        go_ret
        exact ⟨ret_bool hR.out.symm, (Below.refl _ _).alloc (Nat.le_refl _) _⟩
      · have hR : Hid (smallB d n = false) := hide (by unfold smallB; simp; omega)
        have h3' : d ≤ 12 := by omega
        go_enter Try.func20, Try.ntmps20
        go_wp2
        go_ret
        exact ⟨ret_bool hR.out.symm, (Below.refl _ _).alloc (Nat.le_refl _) _⟩
  · have hR : Hid (smallB d n = false) := hide (by unfold smallB; simp; omega)
    have h1' : 20 < n := by omega
    go_enter Try.func20, Try.ntmps20
    go_wp2
    go_ret
    exact ⟨ret_bool hR.out.symm, (Below.refl _ _).alloc (Nat.le_refl _) _⟩

set_option maxHeartbeats 1000000 in
theorem Clone_any (ad : Option Addr) (c : Nat) (xs : List Int) (w : World) (hs : Sl w .u64 ad xs) (hl : xs.length < 1099511627776) :
    Calls Try.prog 60 #[.slice ad xs.length c] w (RetSl w 30 .u64 xs) := by
  rcases ad with _ | ad
  · have hx : xs = [] := by
      rcases Nat.eq_zero_or_pos xs.length with h | h
      · exact List.eq_nil_of_length_eq_zero h
      · obtain ⟨_, _, h, _⟩ := hs h
        cases h
    subst hx
    have hn := fun W : World => Lib.run_eql_slice_nil (P := Try.prog) W 22 30 none 0 c 0 0 Try.underlying22
    go_enter Try.func60, Try.ntmps60
    go_wp2
    go_ret
    exact ⟨_, rfl, Own.nil _ _ _ _, Below.refl _ _⟩
  · have hn := fun W : World => Lib.run_eql_slice_nil (P := Try.prog) W 22 30 (some ad) xs.length c 0 0 Try.underlying22
    go_enter Try.func60, Try.ntmps60
    go_wp2_with (at_builtin; refine wpList_app _ rfl _ _ 22 rfl w.heap.size 30 .u64 8 Try.underlying22 Try.infoU64 (by decide) _ [] xs c (some ad) rfl rfl (Own.empty (Nat.le_refl _)) (hs.alloc _) (by simp; omega) (by simp) ?_; intro v' w' hown hg; refine Hold.mk ?_)
    refine Hold.go ?_
    have hb2 : Below w.heap.size w w' := hg.below ((Below.refl _ _).alloc (Nat.le_refl _) _) (Own.empty (base := w.heap.size) (k := .u64) (Nat.le_refl _)) (Nat.le_refl _) (by simp)
    rw [List.nil_append] at hown
    clear hg
    go_wp2
    go_ret
    exact ⟨_, rfl, hown, hb2⟩

end Go.Proofs.Ythkdaoomnfgooaa
