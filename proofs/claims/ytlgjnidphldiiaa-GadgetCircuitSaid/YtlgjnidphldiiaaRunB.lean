/- Gadgets: run of the program, with gadgets. -/
import Derived.Test.YtlgjnidphldiiaaRunD
import Derived.Test.YtlgjnidphldiiaaRunA
import Derived.Test.YtlgjnidphldiiaaHeld
namespace Go.Proofs.Ytlgjnidphldiiaa
open Go.RowKit

/-- append of a slice, at a step of a region that draws. -/
theorem step_appGL {P : Program} {w : World} {ops : Array Oper} {o : Oper} {a : Act} {K : Act → World → Prop} {Q : Exit → Act → World → Prop} {E' : Prop} {α : Type} (L : Lay α) (xs ys : List α) (hgd : o.guard = none) (s x : Operand) (t : TypeId)
    (ho : o.op = .call { callee := .builtin .append, args := #[s, x], argTypes := #[t, t] })
    (base : Nat) (E : TypeId) (z : Value) (bytes : Nat) (ht : P.underlying t = some (.slice E)) (hinfo : (P.info? E).map (fun i => (i.zero, i.size, i.bytes)) = some (some z, L.m, bytes)) (hz : z.cells.size = L.m) (h8 : bytes ≤ 128)
    (v : Value) (c n : Nat) (A : Option Addr) (hs : a.eval s = v) (hx : a.eval x = .slice A n c) (hn : n = ys.length) (hown : OwnG L w base E v xs) (hsl : SlG L w A ys) (hlen : xs.length + ys.length < 68719476736) (hbase : base ≤ w.heap.size)
    (h : ∀ v' w', OwnG L w' base E v' (xs ++ ys) → Grew w w' v v' → K (a.put o.dst v') w') : if Region.wanted o (yielded ops a.tmps) = true then Oper.wp P o a w K Q else E' := by
  subst hn
  rw [if_pos (by simp only [Region.wanted, hgd])]
  obtain ⟨v', w', hr, h2, h3, h4⟩ := run_appG (P := P) (ty := o.type) (c := c) ht hinfo hz h8 hown hsl hlen hbase
  unfold Oper.wp execOp
  simp only [ho, resolve, invoke, builtin, Sem.run_bind, Sem.run_pure, Result.andThen_ok, List.map_toArray, List.map_cons, List.map_nil, hs, hx, hr]
  exact h v' w' h2 (.of h3 h4)

/-- The state of run: a builder, a list of combinations in a block of its own. -/
structure RG (w wr : World) (b q : Nat) (p pub sec : Int) (la : Option Addr) (n lc : Nat) (S : St) (v : Value) (Ls : List Lc) : Prop where
  below : Below w.heap.size w wr
  hq : w.heap.size ≤ q
  bld : Bld wr w.heap.size b S
  gq : Blk wr q #[v] 55
  ow : OwnG lcL wr w.heap.size 44 v Ls
  ls : ∀ s ∈ Ls, LinT wr s
  g0 : Blk wr w.heap.size #[.int .u64 p, .int .u8 pub, .int .u8 sec, .slice la n lc] 66
section
variable {w wr w' : World} {b q : Nat} {p pub sec : Int} {la : Option Addr} {n lc : Nat} {S S' : St} {v v' : Value} {Ls Ls' : List Lc}
theorem RG.mono (h : RG w wr b q p pub sec la n lc S v Ls) (hb : Below wr.heap.size wr w') : RG w w' b q p pub sec la n lc S v Ls :=
  ⟨below2 h.below hb, h.hq, h.bld.mono hb, h.gq.mono hb, h.ow.mono hb, fun s hs => (h.ls s hs).mono hb, h.g0.mono hb⟩
theorem RG.kept (h : RG w wr b q p pub sec la n lc S v Ls) (k : Kept w.heap.size wr w') (hB : Bld w' w.heap.size b S') : RG w w' b q p pub sec la n lc S' v Ls :=
  ⟨h.below.trans k.below, h.hq, hB, k.typ _ _ _ h.gq (by decide) (by decide) (by decide), k.ownG h.ow (by decide) (by decide) (by decide), fun s hs => k.lin (h.ls s hs), k.typ _ _ _ h.g0 (by decide) (by decide) (by decide)⟩
/-- append and the store of its result. -/
theorem RG.push {ys : List Lc} (h : RG w wr b q p pub sec la n lc S v Ls) (hy : ∀ s ∈ ys, LinT wr s) (hg : Grew wr w' v v') (own' : OwnG lcL w' w.heap.size 44 v' (Ls ++ ys)) :
    RG w (w'.setCell ⟨q, 0, none⟩ v') b q p pub sec la n lc S v' (Ls ++ ys) := by
  have hbz := h.below.size
  have kx : KX XLn w.heap.size wr w' := KX.grew h.ow hg xln1 hbz
  have gq' := hg.blk h.gq (h.ow.neq h.gq (by decide))
  have kx2 : KX XLn w.heap.size w' (w'.setCell ⟨q, 0, none⟩ v') := KX.set gq' xln2 h.hq
  have k := kx.trans kx2
  refine ⟨h.below.trans k.below, h.hq, k.bld xlnR xlnH xlnB xlnT h.bld, gq'.set 0 v', own'.other (own'.neq gq' (by decide)) _, fun s hs => ?_, k.typ _ _ _ h.g0 xlnS⟩
  rcases List.mem_append.1 hs with h1 | h1
  · exact k.lin xlnT (h.ls s h1)
  · exact k.lin xlnT (hy s h1)
end
theorem stO_at {p k x y z n : Int} {S : St} {VL : List Lin} {c : Nat} (h : k % 14 = (c : Int)) : stO p (S, VL) ⟨k, x, y, z, n⟩ = gOp S VL (opd VL x) (opd VL y) (opd VL z) (wOf p n) n c := by
  unfold stO
  simp only
  rw [h, Int.toNat_natCast]
theorem opd_map {Ls : List Lc} {i : Nat} {n : Int} (hi : (i : Int) = n % Ls.length) (hl : i < Ls.length) : (Ls.getD i default).l = opd (Ls.map Lc.l) n := by
  unfold opd
  rw [List.length_map, ← hi, Int.toNat_natCast, getD_map' Lc.l Ls i default [] hl]
def RetRun (w : World) (Q : St × List Lin) (e : Ending) (w' : World) : Prop := ∃ b v Ls, e = .returned (.tuple #[.pointer (some ⟨b, 0, none⟩), v]) ∧ Bld w' w.heap.size b Q.1 ∧ OwnG lcL w' w.heap.size 44 v Ls ∧ (∀ s ∈ Ls, LinT w' s) ∧ Hid (Ls.map Lc.l = Q.2) ∧ Below w.heap.size w w'
theorem xlnO : ¬ XLn 122 := by unfold XLn; decide
theorem bits_map {Bs : List Lc} {S : St} {m : Nat} (hl : Bs.length = m) (h : ∀ i, i < m → (Bs.getD i default).l = [(S.vars + (i : Int), 1)]) : Bs.map Lc.l = bitsL S m := by
  refine List.ext_getElem (by rw [List.length_map, bitsL_len, hl]) fun i h1 h2 => ?_
  have hi : i < Bs.length := by simpa using h1
  have := h i (by omega)
  rw [List.getD_eq_getElem?_getD, List.getElem?_eq_getElem hi] at this
  simp only [bitsL, List.getElem_map, List.getElem_range]
  exact this
theorem bits_ok {Bs : List Lc} {w : World} {m : Nat} (hl : Bs.length = m) (h : ∀ i, i < m → LinT w (Bs.getD i default)) : ∀ s ∈ Bs, LinT w s := fun s hs => by
  obtain ⟨i, hi, rfl⟩ := List.mem_iff_getElem.1 hs
  have := h i (by omega)
  rw [List.getD_eq_getElem?_getD, List.getElem?_eq_getElem hi] at this
  exact this

set_option maxRecDepth 10000 in
set_option maxHeartbeats 64000000 in
theorem run_any (p pub sec : Int) (la : Option Addr) (lc : Nat) (ops : List Op5) (w : World) (hv : vld p = true) (hb : 0 ≤ pub ∧ pub ≤ 4 ∧ 0 ≤ sec ∧ sec ≤ 4) (hO : Ops5 w la lc ops) (hn : ops.length ≤ 12) :
    Calls Try.prog 40 #[.agg #[.int .u64 p, .int .u8 pub, .int .u8 sec, .slice la ops.length lc]] w (RetRun w (runO p ops (newS p pub sec, startL p (pub + sec).toNat))) := by
  obtain ⟨b0, b1, b2, b3⟩ := hb
  have cN := fun W => New20_ok p pub sec W hv ⟨b0, by omega, b2, by omega⟩
  have cC := fun (n : Int) W h => Constant20_any p n W h
  have cI := fun b cs T (i : Int) W g h0 h2 h5 hi => Input20_any b cs T p pub sec i W g h0 h2 h5 hv ⟨b0, b2, by omega⟩ hi
  obtain ⟨N, hNe⟩ : ∃ N : Nat, (N : Int) = pub + sec := ⟨(pub + sec).toNat, by omega⟩
  have hNt : (pub + sec).toNat = N := by omega
  rw [hNt]
  replace hNe := hide hNe
  replace hv := hide hv
  obtain ⟨Q0, hQ0⟩ : ∃ Q0 : St × List Lin, Q0 = (newS p pub sec, startL p N) := ⟨_, rfl⟩
  have hQ1 : Hid (Q0.1 = newS p pub sec ∧ Q0.2 = startL p N) := hide (by rw [hQ0]; exact ⟨rfl, rfl⟩)
  have hRI : Hid (∀ j, j ≤ ops.length → RI p pub sec (List.replicate N 0) (runO p (ops.take j) Q0).1 (runO p (ops.take j) Q0).2 j) := hide (by
    intro j hj
    have h := RI.run (ops.take j) (RI.start (pub := pub) (sec := sec) (I := List.replicate N 0) hv.out (fun x hx => by rw [List.eq_of_mem_replicate hx]; have := vld_pos hv.out; omega) ⟨b0, b1, b2, b3⟩ (by rw [List.length_replicate]; exact hNe.out))
    rw [hNt, List.length_take, Nat.min_eq_left hj, Nat.zero_add] at h
    rw [hQ0]
    exact h)
  rw [← hQ0]
  clear hQ0
  have hz63 : ops.length ≤ 9223372036854775807 := by omega
  clear hNt
  go_enter Try.func40, Try.ntmps40
  go_wp2_with fail
  refine name_calls fun W hN => ?_
  have g0 : Blk W w.heap.size #[.int .u64 p, .int .u8 pub, .int .u8 sec, .slice la ops.length lc] 66 := by rw [hN]; exact Blk.newAt rfl
  have hB : Below w.heap.size w W := by rw [hN]; exact (Below.refl _ _).alloc (Nat.le_refl _) _
  clear hN
  refine (cN W).mono ?_
  rintro e w2 ⟨b, rfl, hB2, hb2⟩
  have hzW := hB.size
  replace hB2 := hB2.low hzW
  replace hB := below2 hB hb2
  have hz2 := hB.size
  replace g0 := g0.mono hb2
  clear cN hb2
  have k0 := cell_later' (g0.cell (j := 0) (v := .int .u64 p) rfl)
  go_wp2_with fail
  refine Rel.wp_region_mix 8 [] [(2, IsLn (keepT (0, fred p 1))), (5, IsLn (keepT (0, fred p 2))), (6, IsL3 w2.heap.size (keepT (0, fred p 1)) (keepT (0, fred p 2))), (7, IsBx w2.heap.size #[.slice none 0 0] 55)] Try.mixed (by kernel_rfl) (by kernel_rfl) ?_ ?_
  rotate_left
  simp only [List.take_succ_cons, List.take_zero, List.drop_succ_cons, List.drop_zero, List.map_cons, List.map_nil]
  repeat (first | (refine Rel.wpA_b (by rfl) ?_) | (refine Rel.wpA_step (by rfl) fun K hK => ?_; go_simp; first | (refine hK _ ?_; clear hK K) | (apply Exists.intro; refine ⟨fun _ => ?_, hK _ ?_⟩; (first | fail); clear hK K)))
  refine Rel.wpA_nil ?_
  rotate_left
  · intro z hz v u u' h1 h2
    simp only [List.mem_cons, List.not_mem_nil, or_false] at hz
    rcases hz with rfl | rfl | rfl | rfl
    · exact IsLn.mono h1 h2
    · exact IsLn.mono h1 h2
    · exact IsL3.mono h1 h2
    · exact IsBx.mono h1 h2
  refine Rel.wpB_step _ rfl rfl (fun p' hc => ?_) (fun v2 => ?_)
  · refine rU_of' (fr := false) (r := .ok (.enter 24 #[.int .u64 p, .int .u64 1]) (later w2 p')) (by kernel_rfl) (by kernel_rfl) ?_
    exact rU_ln (cC 1 _ (by decide))
  refine Rel.wpB_step _ rfl rfl (fun p' hc => ?_) (fun v5 => ?_)
  · refine rU_of' (fr := false) (r := .ok (.enter 24 #[.int .u64 p, .int .u64 2]) (later w2 p')) (by kernel_rfl) (by kernel_rfl) ?_
    exact rU_ln (cC 2 _ (by decide))
  refine Rel.wpB_step _ rfl rfl (fun p' hc => ?_) (fun v6 => ?_)
  · have h2 : IsLn (keepT (0, fred p 1)) v2 (later w2 p') := hc _ (List.Mem.head _) (by kernel_rfl)
    have h5 : IsLn (keepT (0, fred p 2)) v5 (later w2 p') := hc _ (List.Mem.tail _ (List.Mem.head _)) (by kernel_rfl)
    obtain ⟨s1, rfl, e1, l1⟩ := h2
    obtain ⟨s2, rfl, e2, l2⟩ := h5
    refine rU_of' (fr := false) (r := .ok (.value (.slice (some ⟨(later w2 p').heap.size, 0, none⟩) 3 3)) ((later w2 p').alloc (.cells #[.slice none 0 0, lcV s1, lcV s2] 44))) (by kernel_rfl) (by kernel_rfl) ?_
    exact rU_l3 w2 p' s1 s2 _ _ e1 l1 e2 l2
  refine Rel.wpB_step _ rfl rfl (fun p' hc => ?_) (fun v7 => ?_)
  · refine rU_of' (fr := false) (r := .ok (.value (.pointer (some ⟨(later w2 p').heap.size, 0, none⟩))) ((later w2 p').alloc (.cells #[.slice none 0 0] 55))) (by kernel_rfl) (by kernel_rfl) ?_
    exact rU_bx w2 p' _ _
  refine Rel.wpB_nil ?_
  intro p' hctx hfr
  simp only [List.nil_append, List.cons_append, List.mem_cons, List.not_mem_nil, or_false, forall_eq_or_imp, forall_eq] at hctx
  obtain ⟨_, _, ⟨s1, s2, g3, rfl, hg3, gL, e1, l1, e2, l2⟩, ⟨q, rfl, hq, gq⟩⟩ := hctx
  have hbl := below_later w2 p'
  clear hfr k0
  generalize later w2 p' = w3 at *
  replace g0 := g0.mono hbl
  replace hB2 := hB2.mono hbl
  replace hB := below2 hB hbl
  have hq0 : w.heap.size ≤ q := by omega
  have fq := gq.free
  have cq := gq.cell (j := 0) (v := .slice none 0 0) rfl
  obtain ⟨w4, hN⟩ : ∃ w4, w4 = w3.setCell ⟨q, 0, none⟩ (.slice (some ⟨g3, 0, none⟩) 3 3) := ⟨_, rfl⟩
  have kx : KX XLn w.heap.size w3 w4 := by rw [hN]; exact KX.set gq xln2 hq0
  have gq4 : Blk w4 q #[.slice (some ⟨g3, 0, none⟩) 3 3] 55 := by rw [hN]; exact gq.set 0 (.slice (some ⟨g3, 0, none⟩) 3 3)
  have gL4 : Blk w4 g3 #[.slice none 0 0, lcV s1, lcV s2] 44 := by rw [hN]; exact gL.other (fun e => by subst e; exact absurd (blk_type gL gq) (by decide)) _ _
  replace g0 := kx.typ _ _ _ g0 xlnS
  replace hB2 := kx.bld xlnR xlnH xlnB xlnT hB2
  replace hB := hB.trans kx.below
  replace l1 := kx.lin xlnT l1
  replace l2 := kx.lin xlnT l2
  have hL3 : RunB w w4 q (startL p 0) := ⟨⟨_, [⟨none, 0, []⟩, s1, s2], gq4, OwnG.of_blk (xs := [⟨none, 0, []⟩, s1, s2]) (cap := 3) (by omega) gL4 (by simp) (by decide) rfl rfl, by
    intro s hs
    simp only [List.mem_cons, List.not_mem_nil, or_false] at hs
    rcases hs with rfl | rfl | rfl
    · exact LinT.nil _
    · exact l1
    · exact l2, hide (by show [[], s1.l, s2.l] = _; rw [e1.out, e2.out]; rfl)⟩, hq0, hB⟩
  clear kx gq4 gL4 l1 l2 hq hg3 e1 e2 gL gq
  have k1 := g0.cell (j := 1) (v := .int .u8 pub) rfl
  have k2 := g0.cell (j := 2) (v := .int .u8 sec) rfl
  rw [hN] at k1 k2
  replace hN := hide hN
  go_wp2_with fail
  rw [← hN.out]
  clear fq cq k1 k2 hN hbl hB hq0 cC
  go_loopw [46] (fun t46 wr => ∃ k : Nat, k ≤ N ∧ t46 = .int .i64 k ∧ RunB w wr q (startL p k) ∧ Bld wr w.heap.size b (newS p pub sec) ∧ Blk wr w.heap.size #[.int .u64 p, .int .u8 pub, .int .u8 sec, .slice la ops.length lc] 66) (fun t46 _ => N - (intOf t46).toNat)
  case atStart => exact ⟨0, Nat.zero_le _, rfl, hL3, hB2, g0⟩
  case round =>
    clear hL3 hB2 g0
    obtain ⟨k, hk, rfl, hR, hB2, g0⟩ := hrel
    obtain ⟨⟨v, Ls, gq, ow, hls, ev⟩, hq0, hB⟩ := hR
    have kv := cell_later' (gq.cell (j := 0) (v := v) rfl)
    have hNe2 := hNe.out
    by_cases hlt : k < N
    · have hlt' : (k : Int) < pub + sec := by omega
      obtain ⟨cs, gb, h0, h2, h5⟩ := hB2.cells
      have cc := fun P => cI b cs _ k (later wr P) (gb.mono (below_later _ _)) h0 h2 h5 (wfI ⟨by omega, by omega⟩)
      rw [if_pos ⟨by omega, by omega⟩] at cc
      clear hNe2
      go_wp2_with fail
      refine Rel.wp_region_mix 5 [] [(3, IsLn [(1 + (k : Int), 1)]), (4, IsL1 wr.heap.size [(1 + (k : Int), 1)])] Try.mixed (by kernel_rfl) (by kernel_rfl) ?_ ?_
      rotate_left
      simp only [List.take_succ_cons, List.take_zero, List.drop_succ_cons, List.drop_zero, List.map_cons, List.map_nil]
      repeat (first | (refine Rel.wpA_b (by rfl) ?_) | (refine Rel.wpA_step (by rfl) fun K hK => ?_; go_simp; first | (refine hK _ ?_; clear hK K) | (apply Exists.intro; refine ⟨fun _ => ?_, hK _ ?_⟩; (first | fail); clear hK K)))
      refine Rel.wpA_nil ?_
      rotate_left
      · intro z hz v u u' h1 h2
        simp only [List.mem_cons, List.not_mem_nil, or_false] at hz
        rcases hz with rfl | rfl
        · exact IsLn.mono h1 h2
        · exact IsL1.mono h1 h2
      refine Rel.wpB_step _ rfl rfl (fun p' hc => ?_) (fun v3 => ?_)
      · refine rU_of' (fr := false) (r := .ok (.enter 20 #[.pointer (some ⟨b, 0, none⟩), .int .i64 k]) (later wr p')) (by kernel_rfl) (by kernel_rfl) ?_
        exact rU_ln (cc p')
      refine Rel.wpB_step _ rfl rfl (fun p' hc => ?_) (fun v4 => ?_)
      · have h3 : IsLn [(1 + (k : Int), 1)] v3 (later wr p') := hc _ (List.Mem.head _) (by kernel_rfl)
        obtain ⟨s1, rfl, e1, l1⟩ := h3
        refine rU_of' (fr := false) (r := .ok (.value (.slice (some ⟨(later wr p').heap.size, 0, none⟩) 1 1)) ((later wr p').alloc (.cells #[lcV s1] 44))) (by kernel_rfl) (by kernel_rfl) ?_
        exact rU_l1 wr p' s1 _ e1 l1
      refine Rel.wpB_nil ?_
      intro p' hctx hfr
      simp only [List.nil_append, List.cons_append, List.mem_cons, List.not_mem_nil, or_false, forall_eq_or_imp, forall_eq] at hctx
      obtain ⟨_, ⟨s, g1, rfl, hg1, gL, e1, l1⟩⟩ := hctx
      have hbl := below_later wr p'
      clear hfr kv cc h0 h2 h5 gb
      generalize later wr p' = w3 at *
      replace g0 := g0.mono hbl
      replace hB2 := hB2.mono hbl
      replace hB := below2 hB hbl
      replace gq := gq.mono hbl
      replace ow := ow.mono hbl
      replace hls := fun s h => (hls s h).mono hbl
      have hll : Ls.length ≤ 20 := by
        have := congrArg List.length ev.out
        simp [startL, inL] at this
        omega
      have hbz := hB.size
      go_wp2_with (at_builtin; refine wpList_appG _ lcL Ls [s] rfl _ _ 55 rfl w.heap.size 44 (.slice none 0 0) 24 Try.underlying55 Try.infoLc rfl (by decide) _ 1 1 (some ⟨g1, 0, none⟩) rfl rfl rfl ow (SlG.one gL rfl) (by simp; omega) hbz ?_; intro v' w' own' hg'; refine Hold.mk ?_)
      refine Hold.go ?_
      obtain ⟨va, vc, ve, _⟩ := own'.sl
      rw [show (Ls ++ [s]).length = Ls.length + 1 by simp] at ve
      subst ve
      have kx : KX XLn w.heap.size w3 w' := KX.grew ow hg' xln1 hbz
      have gq' := hg'.blk gq (ow.neq gq (by decide))
      have fq := gq'.free
      have cq := gq'.cell (j := 0) (v := v) rfl
      replace g0 := kx.typ _ _ _ g0 xlnS
      replace hB2 := kx.bld xlnR xlnH xlnB xlnT hB2
      replace hB := hB.trans kx.below
      have hls' : ∀ s' ∈ Ls ++ [s], LinT w' s' := fun s' hs => by
        rcases List.mem_append.1 hs with h1 | h1
        · exact kx.lin xlnT (hls s' h1)
        · rw [List.mem_singleton] at h1; subst h1; exact kx.lin xlnT l1
      have kx2 : KX XLn w.heap.size w' (w'.setCell ⟨q, 0, none⟩ (.slice va (Ls.length + 1) vc)) := KX.set gq' xln2 hq0
      have hR2 : RunB w (w'.setCell ⟨q, 0, none⟩ (.slice va (Ls.length + 1) vc)) q (startL p (k + 1)) := ⟨⟨_, Ls ++ [s], gq'.set 0 (.slice va (Ls.length + 1) vc), own'.other (own'.neq gq' (by decide)) _, fun s' hs => kx2.lin xlnT (hls' s' hs), hide (by rw [List.map_append, ev.out, startL_succ, ← e1.out]; rfl)⟩, hq0, hB.trans kx2.below⟩
      replace g0 := kx2.typ _ _ _ g0 xlnS
      replace hB2 := kx2.bld xlnR xlnH xlnB xlnT hB2
      clear ow hls hg' kx kx2 gq own' hls' l1 e1 ev gL hll
      go_wp2
      go_roundw
      case rel => exact ⟨k + 1, by omega, by go_num, hR2, hB2, g0⟩
      case measure => simp [intOf]; omega
    · obtain rfl : k = N := by omega
      have k3 := g0.cell (j := 3) (v := .slice la ops.length lc) rfl
      have hge : pub + sec ≤ (k : Int) := by omega
      clear hNe2
      go_wp2_with fail
      have hRG : RG w wr b q p pub sec la ops.length lc (newS p pub sec) v Ls := ⟨hB, hq0, hB2, gq, ow, hls, g0⟩
      have hev0 : Hid ((newS p pub sec, Ls.map Lc.l) = runO p (ops.take 0) Q0) := hide (by
        rw [List.take_zero]
        show _ = Q0
        rw [ev.out, ← hQ1.out.1, ← hQ1.out.2])
      clear hB hB2 gq ow hls g0 ev kv k3
      obtain ⟨wA, hwA⟩ : ∃ wA, wA = wr := ⟨_, rfl⟩
      subst hwA
      go_loopw [59] (fun t59 wr => ∃ j : Nat, j ≤ ops.length ∧ t59 = .int .i64 j ∧ ∃ S v Ls, RG w wr b q p pub sec la ops.length lc S v Ls ∧ Hid ((S, Ls.map Lc.l) = runO p (ops.take j) Q0)) (fun t59 _ => ops.length - (intOf t59).toNat)
      case atStart => exact ⟨0, Nat.zero_le _, rfl, _, _, _, hRG, hev0⟩
      case round =>
        clear hRG hev0
        obtain ⟨j, hj, rfl, S, v, Ls, D, hev⟩ := hrel
        by_cases hlt : j < ops.length
        · have hlt' : (j : Int) < ops.length := by omega
          obtain ⟨q2, off2, rfl, _, hd⟩ := (hO.mono D.below).s (by omega)
          obtain ⟨d0, d1, d2, d3, d4⟩ := hd j hlt
          have hx := hO.wf _ (getD_mem' hlt default)
          have htk := hide (take_succ_getD ops default hlt)
          have hag : RI p pub sec (List.replicate k 0) S (Ls.map Lc.l) j := by
            have := hRI.out j (by omega)
            rw [← hev.out] at this
            exact this
          generalize ops.getD j default = o at *
          obtain ⟨kk, ox, oy, oz, on⟩ := o
          obtain ⟨⟨hk1, hk2⟩, ⟨hx1, hx2⟩, ⟨hy1, hy2⟩, ⟨hz1, hz2⟩, ⟨hn1, hn2⟩⟩ := hx
          simp only at d0 d1 d2 d3 d4 hk1 hk2 hx1 hx2 hy1 hy2 hz1 hz2 hn1 hn2
          have hL2 : 3 ≤ Ls.length ∧ Ls.length ≤ 100 := by
            have := hag.len
            rw [List.length_map] at this
            omega
          obtain ⟨va, vc, ve, _⟩ := D.ow.sl
          subst ve
          have mx := mod_lt' (show (0 : Int) < Ls.length by omega) ox
          have my := mod_lt' (show (0 : Int) < Ls.length by omega) oy
          have mz := mod_lt' (show (0 : Int) < Ls.length by omega) oz
          obtain ⟨ix, hix⟩ : ∃ i : Nat, (i : Int) = ox % Ls.length := ⟨(ox % Ls.length).toNat, by omega⟩
          obtain ⟨iy, hiy⟩ : ∃ i : Nat, (i : Int) = oy % Ls.length := ⟨(oy % Ls.length).toNat, by omega⟩
          obtain ⟨iz, hiz⟩ : ∃ i : Nat, (i : Int) = oz % Ls.length := ⟨(oz % Ls.length).toNat, by omega⟩
          clear mx my mz
          have hxL : ix < Ls.length := by have := mod_lt' (show (0 : Int) < Ls.length by omega) ox; omega
          have hyL : iy < Ls.length := by have := mod_lt' (show (0 : Int) < Ls.length by omega) oy; omega
          have hzL : iz < Ls.length := by have := mod_lt' (show (0 : Int) < Ls.length by omega) oz; omega
          have cat := fun n i hn hi W h => at_any n q w.heap.size va vc Ls i W hn (D.gq.mono h) (D.ow.mono h) (by omega) hi (by omega)
          have cx := fun W h => cat ox ix ⟨hx1, hx2⟩ hix W h
          have cy := fun W h => cat oy iy ⟨hy1, hy2⟩ hiy W h
          have cz := fun W h => cat oz iz ⟨hz1, hz2⟩ hiz W h
          clear cat
          have lu := D.ls _ (getD_mem' hxL default)
          have ly := D.ls _ (getD_mem' hyL default)
          have lz := D.ls _ (getD_mem' hzL default)
          have zu := hide (hag.lens (List.mem_map_of_mem (f := Lc.l) (getD_mem' hxL default)))
          have zy := hide (hag.lens (List.mem_map_of_mem (f := Lc.l) (getD_mem' hyL default)))
          have zz := hide (hag.lens (List.mem_map_of_mem (f := Lc.l) (getD_mem' hzL default)))
          have mu := hide (opd_map hix hxL).symm
          have my := hide (opd_map hiy hyL).symm
          have mz := hide (opd_map hiz hzL).symm
          clear hix hiy hiz
          generalize Ls.getD ix default = u at *
          generalize Ls.getD iy default = y at *
          generalize Ls.getD iz default = z at *
          have hkm : kk % 14 = 0 ∨ kk % 14 = 1 ∨ kk % 14 = 2 ∨ kk % 14 = 3 ∨ kk % 14 = 4 ∨ kk % 14 = 5 ∨ kk % 14 = 6 ∨ kk % 14 = 7 ∨ kk % 14 = 8 ∨ kk % 14 = 9 ∨ kk % 14 = 10 ∨ kk % 14 = 11 ∨ kk % 14 = 12 ∨ kk % 14 = 13 := by omega
          replace hkm := hide hkm
          replace hag := hide hag
          have hLh := hide hL2
          clear hd hL2
          go_wp2_with fail
          refine name_world fun w5 hN => ?_
          have g9 : Blk w5 wr.heap.size #[.int .u8 kk, .int .u8 ox, .int .u8 oy, .int .u8 oz, .int .u8 on] 122 := by rw [hN]; exact Blk.newAt rfl
          have hb5 : Below wr.heap.size wr w5 := by rw [hN]; exact (Below.refl _ _).alloc (Nat.le_refl _) _
          clear hN d0 d1 d2 d3 d4
          have k1 := cell_later' (g9.cell (j := 1) (v := .int .u8 ox) rfl)
          have k2 := cell_later' (g9.cell (j := 2) (v := .int .u8 oy) rfl)
          have k3 := cell_later' (g9.cell (j := 3) (v := .int .u8 oz) rfl)
          refine wp_region_later Try.mixed (by kernel_rfl) ?_
          repeat (first | go_big_quiet_step (first | (go_at_call_of 84 ox; exact Calls.later_of (cx _ (below2 hb5 (below_later _ _)))) | (go_at_call_of 84 oy; exact Calls.later_of (cy _ (below2 hb5 (below_later _ _)))) | (go_at_call_of 84 oz; exact Calls.later_of (cz _ (below2 hb5 (below_later _ _))))) | quiet_step (first | (go_at_call_of 84 ox; exact Calls.later_of (cx _ (below2 hb5 (below_later _ _)))) | (go_at_call_of 84 oy; exact Calls.later_of (cy _ (below2 hb5 (below_later _ _)))) | (go_at_call_of 84 oz; exact Calls.later_of (cz _ (below2 hb5 (below_later _ _))))))
          refine wpQuiet_nil ?_
          intro w6 hb6
          replace hb6 := below_of_later hb6
          replace D := (D.mono hb5).mono hb6
          replace lu := (lu.mono hb5).mono hb6
          replace ly := (ly.mono hb5).mono hb6
          replace lz := (lz.mono hb5).mono hb6
          replace g9 := g9.mono hb6
          clear cx cy cz k1 k2 k3 hb5 hb6
          have k0 := g9.cell (j := 0) (v := .int .u8 kk) rfl
          rcases hkm.out with hm | hm | hm | hm | hm | hm | hm | hm | hm | hm | hm | hm | hm | hm
          · as_aux_lemma =>
            go_wp2_with fail
            refine Rel.region_any Try.mixed fun w7 hb7 => ?_
            replace D := D.mono hb7
            replace lu := lu.mono hb7
            replace ly := ly.mono hb7
            replace lz := lz.mono hb7
            replace g9 := g9.mono hb7
            have hvS := hag.out.v
            have hbd := hag.out.bd
            refine Rel.any_held (fun W => W.cell? ⟨q, 0, none⟩ = some (.slice va Ls.length vc)) 7 (D.gq.cell (j := 0) (v := .slice va Ls.length vc) rfl) fun hH0 => ?_
            refine Rel.heldTake (v := ?_) 0 rfl (by kernel_rfl) (by kernel_rfl) (by kernel_rfl) (fun _ _ _ h => h) (by assumption) (by rfl) ?_ ?_
            rotate_left
            · (intro W hSw; (try dsimp only at hSw); go_simp; try with_reducible rfl)
            try simp only [Act.put, List.setIfInBounds_toArray, List.set_cons_zero, List.set_cons_succ]
            refine Rel.heldTake (v := ?_) 1 rfl (by kernel_rfl) (by kernel_rfl) (by kernel_rfl) (fun _ _ _ h => h) (by assumption) (by rfl) ?_ ?_
            rotate_left
            · (intro W hSw; (try dsimp only at hSw); go_simp; try with_reducible rfl)
            try simp only [Act.put, List.setIfInBounds_toArray, List.set_cons_zero, List.set_cons_succ]
            refine Rel.heldTake (v := ?_) 2 rfl (by kernel_rfl) (by kernel_rfl) (by kernel_rfl) (fun _ _ _ h => h) (by assumption) (by rfl) ?_ ?_
            rotate_left
            · (intro W hSw; (try dsimp only at hSw); go_simp; try with_reducible rfl)
            try simp only [Act.put, List.setIfInBounds_toArray, List.set_cons_zero, List.set_cons_succ]
            refine Rel.heldTake (v := ?_) 3 rfl (by kernel_rfl) (by kernel_rfl) (by kernel_rfl) (fun _ _ _ h => h) (by assumption) (by rfl) ?_ ?_
            rotate_left
            · (intro W hSw; (try dsimp only at hSw); go_simp; try with_reducible rfl)
            try simp only [Act.put, List.setIfInBounds_toArray, List.set_cons_zero, List.set_cons_succ]
            refine Rel.heldNext 4 rfl (by kernel_rfl) fun K hK => ?_
            go_simp
            refine (Mul20_any w.heap.size b S _ u y w7 D.bld hvS hbd (by omega) lu ly (by have := zu.out; omega) (by have := zy.out; omega)).mono ?_
            rintro e w8 ⟨s, rfl, es, hs, hB8, k8⟩
            have D8 := D.kept k8 hB8
            have g98 := k8.typ _ _ _ g9 (by decide) (by decide) (by decide)
            refine hK.out _ _ (D8.gq.cell (j := 0) (v := .slice va Ls.length vc) rfl) (fun hH1 => ?_)
            clear hK K
            try simp only [Act.put, List.setIfInBounds_toArray, List.set_cons_zero, List.set_cons_succ]
            refine Rel.heldNext 5 rfl (by kernel_rfl) fun K hK => ?_
            go_simp
            have D9 := D8.mono ((Below.refl _ _).alloc (Nat.le_refl _) (.cells #[lcV s] 44))
            have g99 := g98.mono ((Below.refl _ _).alloc (Nat.le_refl _) (.cells #[lcV s] 44))
            have hys : ∀ s' ∈ [s], LinT (w8.alloc (.cells #[lcV s] 44)) s' := fun s' h => by
              rw [List.mem_singleton] at h; subst h; exact hs.mono ((Below.refl _ _).alloc (Nat.le_refl _) _)
            refine hK.out _ _ (D9.gq.cell (j := 0) (v := .slice va Ls.length vc) rfl) (fun hH2 => ?_)
            clear hK K
            try simp only [Act.put, List.setIfInBounds_toArray, List.set_cons_zero, List.set_cons_succ]
            refine Rel.heldNext 6 rfl (by kernel_rfl) fun K hK => ?_
            refine step_appGL lcL Ls [s] rfl _ _ 55 rfl w.heap.size 44 (.slice none 0 0) 24 Try.underlying55 Try.infoLc rfl (by decide) _ 1 1 (some ⟨w8.heap.size, 0, none⟩) rfl rfl rfl D9.ow (SlG.one (Blk.new _ _ _) rfl) (by have := hLh.out; simp; omega) D9.below.size ?_
            intro v' w9 own' hg'
            clear hH2
            obtain ⟨va', vc', ve', _⟩ := own'.sl
            simp only [List.length_append, List.length_cons, List.length_nil, Nat.zero_add] at ve'
            subst ve'
            have gq' := hg'.blk D9.gq (D9.ow.neq D9.gq (by decide))
            have fq' := gq'.free
            have cq' := gq'.cell (j := 0) (v := .slice va Ls.length vc) rfl
            have DD := D9.push (ys := [s]) hys hg' own'
            clear hg' own' D9
            refine hK.out _ _ cq' (fun hH3 => ?_)
            clear hK K
            try simp only [Act.put, List.setIfInBounds_toArray, List.set_cons_zero, List.set_cons_succ]
            refine Rel.heldLast 7 rfl (by kernel_rfl) rfl (by kernel_rfl) fun K hK => ?_
            go_simp
            refine hK.out _ _ ?_
            clear hK K hH0 hH1 hH3 fq' cq' gq'
            have hq' : Hid ((gMul S u.l y.l, (Ls ++ [s]).map Lc.l) = runO p (ops.take (j + 1)) Q0) := hide (by
              rw [htk.out, runO_snoc, ← hev.out, stO_at (c := 0) hm, List.map_append, mu.out, my.out, mz.out]
              show (_, _ ++ [s.l]) = _; rw [es.out]; rfl)
            clear hev htk
            go_wp2
            go_roundw
            case rel => exact ⟨j + 1, by omega, by go_num, _, _, _, DD, hq'⟩
            case measure => simp [intOf]; omega
          · as_aux_lemma =>
            go_wp2_with fail
            have hvS := hag.out.v
            have hbd := hag.out.bd
            refine (Assert20_any w.heap.size b S _ u y w6 D.bld hvS hbd (by omega) lu ly (by have := zu.out; omega) (by have := zy.out; omega)).mono ?_
            rintro e w8 ⟨rfl, hB8, k8⟩
            have DD := D.kept k8 hB8
            have hq' : Hid ((gAssert S u.l y.l, Ls.map Lc.l) = runO p (ops.take (j + 1)) Q0) := hide (by
              rw [htk.out, runO_snoc, ← hev.out, stO_at (c := 1) hm, mu.out, my.out, mz.out]
              rfl)
            clear hev htk
            go_wp2
            go_roundw
            case rel => exact ⟨j + 1, by omega, by go_num, _, _, _, DD, hq'⟩
            case measure => simp [intOf]; omega
          · as_aux_lemma =>
            go_wp2_with fail
            have hvS := hag.out.v
            have hbd := hag.out.bd
            refine (Boolean20_any w.heap.size b S _ u w6 D.bld hbd (by omega) lu (by have := zu.out; omega)).mono ?_
            rintro e w8 ⟨rfl, hB8, k8⟩
            have DD := D.kept k8 hB8
            have hq' : Hid ((gBool S u.l, Ls.map Lc.l) = runO p (ops.take (j + 1)) Q0) := hide (by
              rw [htk.out, runO_snoc, ← hev.out, stO_at (c := 2) hm, mu.out, my.out, mz.out]
              rfl)
            clear hev htk
            go_wp2
            go_roundw
            case rel => exact ⟨j + 1, by omega, by go_num, _, _, _, DD, hq'⟩
            case measure => simp [intOf]; omega
          · as_aux_lemma =>
            go_wp2_with fail
            refine Rel.region_any Try.mixed fun w7 hb7 => ?_
            replace D := D.mono hb7
            replace lu := lu.mono hb7
            replace ly := ly.mono hb7
            replace lz := lz.mono hb7
            replace g9 := g9.mono hb7
            have hvS := hag.out.v
            have hbd := hag.out.bd
            have hn3 := wOf_bd hv.out on
            have hn6 := hn3.2.1
            have cW := fun W => sWidth_any p pub sec (some ⟨q2, off2, none⟩) ops.length lc on W hv.out ⟨hn1, hn2⟩
            rw [← hn3.1] at cW
            clear hn3
            obtain ⟨m, hmm⟩ : ∃ m, m = wOf p on := ⟨_, rfl⟩
            rw [← hmm] at cW hn6
            replace hmm := hide hmm
            refine Rel.any_held (fun W => W.cell? ⟨q, 0, none⟩ = some (.slice va Ls.length vc) ∧ W.cell? ⟨w.heap.size, 0, none⟩ = some (.int .u64 p) ∧ W.cell? ⟨w.heap.size, 1, none⟩ = some (.int .u8 pub) ∧ W.cell? ⟨w.heap.size, 2, none⟩ = some (.int .u8 sec) ∧ W.cell? ⟨w.heap.size, 3, none⟩ = some (.slice (some ⟨q2, off2, none⟩) ops.length lc) ∧ W.cell? ⟨wr.heap.size, 4, none⟩ = some (.int .u8 on)) 9 ⟨D.gq.cell (j := 0) (v := .slice va Ls.length vc) rfl, D.g0.cell (j := 0) (v := .int .u64 p) rfl, D.g0.cell (j := 1) (v := .int .u8 pub) rfl, D.g0.cell (j := 2) (v := .int .u8 sec) rfl, D.g0.cell (j := 3) (v := .slice (some ⟨q2, off2, none⟩) ops.length lc) rfl, g9.cell (j := 4) (v := .int .u8 on) rfl⟩ fun hH0 => ?_
            refine Rel.heldTake (v := ?_) 0 rfl (by kernel_rfl) (by kernel_rfl) (by kernel_rfl) (fun _ _ _ h => h) (by assumption) (by rfl) ?_ ?_
            rotate_left
            · (intro W hSw; (try dsimp only at hSw); go_simp; try with_reducible rfl)
            try simp only [Act.put, List.setIfInBounds_toArray, List.set_cons_zero, List.set_cons_succ]
            refine Rel.heldTake (v := ?_) 1 rfl (by kernel_rfl) (by kernel_rfl) (by kernel_rfl) (fun _ _ _ h => h) (by assumption) (by rfl) ?_ ?_
            rotate_left
            · (intro W hSw; (try dsimp only at hSw); go_simp; try with_reducible rfl)
            try simp only [Act.put, List.setIfInBounds_toArray, List.set_cons_zero, List.set_cons_succ]
            refine Rel.heldTake (v := ?_) 2 rfl (by kernel_rfl) (by kernel_rfl) (by kernel_rfl) (fun _ _ _ h => h) (by assumption) (by rfl) ?_ ?_
            rotate_left
            · (intro W hSw; (try dsimp only at hSw); go_simp; try with_reducible rfl)
            try simp only [Act.put, List.setIfInBounds_toArray, List.set_cons_zero, List.set_cons_succ]
            refine Rel.heldTake (v := ?_) 3 rfl (by kernel_rfl) (by kernel_rfl) (by kernel_rfl) (fun _ _ _ h => h) (by assumption) (by rfl) ?_ ?_
            rotate_left
            · (intro W hSw; (try dsimp only at hSw); go_simp; try with_reducible rfl)
            try simp only [Act.put, List.setIfInBounds_toArray, List.set_cons_zero, List.set_cons_succ]
            refine Rel.heldTake (v := ?_) 4 rfl (by kernel_rfl) (by kernel_rfl) (by kernel_rfl) (fun _ _ _ h => h) (by assumption) (by rfl) ?_ ?_
            rotate_left
            · (intro W hSw; (try dsimp only at hSw); go_simp; try with_reducible rfl)
            try simp only [Act.put, List.setIfInBounds_toArray, List.set_cons_zero, List.set_cons_succ]
            refine Rel.heldTake (v := ?_) 5 rfl (by kernel_rfl) (by kernel_rfl) (by kernel_rfl) (fun _ _ _ h => h) (by assumption) (by rfl) ?_ ?_
            rotate_left
            · (intro W hSw; (try dsimp only at hSw); go_simp; try with_reducible rfl)
            try simp only [Act.put, List.setIfInBounds_toArray, List.set_cons_zero, List.set_cons_succ]
            refine Rel.heldNext 6 rfl (by kernel_rfl) fun K hK => ?_
            go_simp
            refine (cW _).mono ?_
            rintro e wW ⟨rfl, hbW⟩
            replace D := D.mono hbW
            replace lu := lu.mono hbW
            replace ly := ly.mono hbW
            replace lz := lz.mono hbW
            replace g9 := g9.mono hbW
            refine hK.out _ _ ⟨D.gq.cell (j := 0) (v := .slice va Ls.length vc) rfl, D.g0.cell (j := 0) (v := .int .u64 p) rfl, D.g0.cell (j := 1) (v := .int .u8 pub) rfl, D.g0.cell (j := 2) (v := .int .u8 sec) rfl, D.g0.cell (j := 3) (v := .slice (some ⟨q2, off2, none⟩) ops.length lc) rfl, g9.cell (j := 4) (v := .int .u8 on) rfl⟩ (fun hHW => ?_)
            clear hK K
            try simp only [Act.put, List.setIfInBounds_toArray, List.set_cons_zero, List.set_cons_succ]
            clear hH0
            refine Rel.heldNext 7 rfl (by kernel_rfl) fun K hK => ?_
            go_simp
            refine (Bits20_any w.heap.size b S _ u m wW D.bld hvS hbd (by omega) lu (by have := zu.out; omega) (by omega)).mono ?_
            rintro e w8 ⟨vB, Bs, rfl, ownB, lenB, hsB, hB8, k8⟩
            have D9 := D.kept k8 hB8
            have g99 := k8.typ _ _ _ g9 (by decide) (by decide) (by decide)
            obtain ⟨aB, cB, eB, slB, _⟩ := ownB.sl
            subst eB
            have hBl : Hid (Bs.map Lc.l = bitsL S m) := hide (bits_map lenB fun i hi => (hsB i hi).2)
            have hys := bits_ok lenB fun i hi => (hsB i hi).1
            have lenB6 : Bs.length ≤ 6 := by omega
            clear hsB ownB
            replace lenB := hide lenB
            refine hK.out _ _ ⟨D9.gq.cell (j := 0) (v := .slice va Ls.length vc) rfl, D9.g0.cell (j := 0) (v := .int .u64 p) rfl, D9.g0.cell (j := 1) (v := .int .u8 pub) rfl, D9.g0.cell (j := 2) (v := .int .u8 sec) rfl, D9.g0.cell (j := 3) (v := .slice (some ⟨q2, off2, none⟩) ops.length lc) rfl, g99.cell (j := 4) (v := .int .u8 on) rfl⟩ (fun hH1 => ?_)
            clear hK K
            try simp only [Act.put, List.setIfInBounds_toArray, List.set_cons_zero, List.set_cons_succ]
            refine Rel.heldNext 8 rfl (by kernel_rfl) fun K hK => ?_
            refine step_appGL lcL Ls Bs rfl _ _ 55 rfl w.heap.size 44 (.slice none 0 0) 24 Try.underlying55 Try.infoLc rfl (by decide) _ _ _ aB rfl rfl rfl D9.ow slB (by have := hLh.out; omega) D9.below.size ?_
            intro v' w9 own' hg'
            obtain ⟨va', vc', ve', _⟩ := own'.sl
            simp only [List.length_append] at ve'
            subst ve'
            have gq' := hg'.blk D9.gq (D9.ow.neq D9.gq (by decide))
            have fq' := gq'.free
            have cq' := gq'.cell (j := 0) (v := .slice va Ls.length vc) rfl
            have DD := D9.push (ys := Bs) hys hg' own'
            have kx' : KX XLn w.heap.size _ w9 := KX.grew D9.ow hg' xln1 D9.below.size
            have g0' := kx'.typ _ _ _ D9.g0 xlnS
            have g9' := kx'.typ _ _ _ g99 xlnO
            clear hg' own' D9
            refine hK.out _ _ ⟨cq', g0'.cell (j := 0) (v := .int .u64 p) rfl, g0'.cell (j := 1) (v := .int .u8 pub) rfl, g0'.cell (j := 2) (v := .int .u8 sec) rfl, g0'.cell (j := 3) (v := .slice (some ⟨q2, off2, none⟩) ops.length lc) rfl, g9'.cell (j := 4) (v := .int .u8 on) rfl⟩ (fun hH3 => ?_)
            clear hK K
            try simp only [Act.put, List.setIfInBounds_toArray, List.set_cons_zero, List.set_cons_succ]
            refine Rel.heldLast 9 rfl (by kernel_rfl) rfl (by kernel_rfl) fun K hK => ?_
            go_simp
            refine hK.out _ _ ?_
            clear hK K hHW hH1 hH3 fq' cq' gq'
            have hq' : Hid ((gBits S u.l m, (Ls ++ Bs).map Lc.l) = runO p (ops.take (j + 1)) Q0) := hide (by
              rw [htk.out, runO_snoc, ← hev.out, stO_at (c := 3) hm, List.map_append, mu.out, my.out, mz.out]
              rw [hBl.out, hmm.out]; rfl)
            clear hev htk
            go_wp2
            go_roundw
            case rel => exact ⟨j + 1, by omega, by go_num, _, _, _, DD, hq'⟩
            case measure => simp [intOf]; omega
          · as_aux_lemma =>
            go_wp2_with fail
            refine Rel.region_any Try.mixed fun w7 hb7 => ?_
            replace D := D.mono hb7
            replace lu := lu.mono hb7
            replace ly := ly.mono hb7
            replace lz := lz.mono hb7
            replace g9 := g9.mono hb7
            have hvS := hag.out.v
            have hbd := hag.out.bd
            refine Rel.any_held (fun W => W.cell? ⟨q, 0, none⟩ = some (.slice va Ls.length vc)) 6 (D.gq.cell (j := 0) (v := .slice va Ls.length vc) rfl) fun hH0 => ?_
            refine Rel.heldTake (v := ?_) 0 rfl (by kernel_rfl) (by kernel_rfl) (by kernel_rfl) (fun _ _ _ h => h) (by assumption) (by rfl) ?_ ?_
            rotate_left
            · (intro W hSw; (try dsimp only at hSw); go_simp; try with_reducible rfl)
            try simp only [Act.put, List.setIfInBounds_toArray, List.set_cons_zero, List.set_cons_succ]
            refine Rel.heldTake (v := ?_) 1 rfl (by kernel_rfl) (by kernel_rfl) (by kernel_rfl) (fun _ _ _ h => h) (by assumption) (by rfl) ?_ ?_
            rotate_left
            · (intro W hSw; (try dsimp only at hSw); go_simp; try with_reducible rfl)
            try simp only [Act.put, List.setIfInBounds_toArray, List.set_cons_zero, List.set_cons_succ]
            refine Rel.heldTake (v := ?_) 2 rfl (by kernel_rfl) (by kernel_rfl) (by kernel_rfl) (fun _ _ _ h => h) (by assumption) (by rfl) ?_ ?_
            rotate_left
            · (intro W hSw; (try dsimp only at hSw); go_simp; try with_reducible rfl)
            try simp only [Act.put, List.setIfInBounds_toArray, List.set_cons_zero, List.set_cons_succ]
            refine Rel.heldNext 3 rfl (by kernel_rfl) fun K hK => ?_
            go_simp
            refine (IsZero20_any w.heap.size b S _ u w7 D.bld hvS hbd (by omega) lu (by have := zu.out; omega)).mono ?_
            rintro e w8 ⟨s, rfl, es, hs, hB8, k8⟩
            have D8 := D.kept k8 hB8
            have g98 := k8.typ _ _ _ g9 (by decide) (by decide) (by decide)
            refine hK.out _ _ (D8.gq.cell (j := 0) (v := .slice va Ls.length vc) rfl) (fun hH1 => ?_)
            clear hK K
            try simp only [Act.put, List.setIfInBounds_toArray, List.set_cons_zero, List.set_cons_succ]
            refine Rel.heldNext 4 rfl (by kernel_rfl) fun K hK => ?_
            go_simp
            have D9 := D8.mono ((Below.refl _ _).alloc (Nat.le_refl _) (.cells #[lcV s] 44))
            have g99 := g98.mono ((Below.refl _ _).alloc (Nat.le_refl _) (.cells #[lcV s] 44))
            have hys : ∀ s' ∈ [s], LinT (w8.alloc (.cells #[lcV s] 44)) s' := fun s' h => by
              rw [List.mem_singleton] at h; subst h; exact hs.mono ((Below.refl _ _).alloc (Nat.le_refl _) _)
            refine hK.out _ _ (D9.gq.cell (j := 0) (v := .slice va Ls.length vc) rfl) (fun hH2 => ?_)
            clear hK K
            try simp only [Act.put, List.setIfInBounds_toArray, List.set_cons_zero, List.set_cons_succ]
            refine Rel.heldNext 5 rfl (by kernel_rfl) fun K hK => ?_
            refine step_appGL lcL Ls [s] rfl _ _ 55 rfl w.heap.size 44 (.slice none 0 0) 24 Try.underlying55 Try.infoLc rfl (by decide) _ 1 1 (some ⟨w8.heap.size, 0, none⟩) rfl rfl rfl D9.ow (SlG.one (Blk.new _ _ _) rfl) (by have := hLh.out; simp; omega) D9.below.size ?_
            intro v' w9 own' hg'
            clear hH2
            obtain ⟨va', vc', ve', _⟩ := own'.sl
            simp only [List.length_append, List.length_cons, List.length_nil, Nat.zero_add] at ve'
            subst ve'
            have gq' := hg'.blk D9.gq (D9.ow.neq D9.gq (by decide))
            have fq' := gq'.free
            have cq' := gq'.cell (j := 0) (v := .slice va Ls.length vc) rfl
            have DD := D9.push (ys := [s]) hys hg' own'
            clear hg' own' D9
            refine hK.out _ _ cq' (fun hH3 => ?_)
            clear hK K
            try simp only [Act.put, List.setIfInBounds_toArray, List.set_cons_zero, List.set_cons_succ]
            refine Rel.heldLast 6 rfl (by kernel_rfl) rfl (by kernel_rfl) fun K hK => ?_
            go_simp
            refine hK.out _ _ ?_
            clear hK K hH0 hH1 hH3 fq' cq' gq'
            have hq' : Hid (((gIsZero S u.l).1, (Ls ++ [s]).map Lc.l) = runO p (ops.take (j + 1)) Q0) := hide (by
              rw [htk.out, runO_snoc, ← hev.out, stO_at (c := 4) hm, List.map_append, mu.out, my.out, mz.out]
              show (_, _ ++ [s.l]) = _; rw [es.out]; rfl)
            clear hev htk
            go_wp2
            go_roundw
            case rel => exact ⟨j + 1, by omega, by go_num, _, _, _, DD, hq'⟩
            case measure => simp [intOf]; omega
          · as_aux_lemma =>
            go_wp2_with fail
            refine Rel.region_any Try.mixed fun w7 hb7 => ?_
            replace D := D.mono hb7
            replace lu := lu.mono hb7
            replace ly := ly.mono hb7
            replace lz := lz.mono hb7
            replace g9 := g9.mono hb7
            have hvS := hag.out.v
            have hbd := hag.out.bd
            refine Rel.any_held (fun W => W.cell? ⟨q, 0, none⟩ = some (.slice va Ls.length vc)) 7 (D.gq.cell (j := 0) (v := .slice va Ls.length vc) rfl) fun hH0 => ?_
            refine Rel.heldTake (v := ?_) 0 rfl (by kernel_rfl) (by kernel_rfl) (by kernel_rfl) (fun _ _ _ h => h) (by assumption) (by rfl) ?_ ?_
            rotate_left
            · (intro W hSw; (try dsimp only at hSw); go_simp; try with_reducible rfl)
            try simp only [Act.put, List.setIfInBounds_toArray, List.set_cons_zero, List.set_cons_succ]
            refine Rel.heldTake (v := ?_) 1 rfl (by kernel_rfl) (by kernel_rfl) (by kernel_rfl) (fun _ _ _ h => h) (by assumption) (by rfl) ?_ ?_
            rotate_left
            · (intro W hSw; (try dsimp only at hSw); go_simp; try with_reducible rfl)
            try simp only [Act.put, List.setIfInBounds_toArray, List.set_cons_zero, List.set_cons_succ]
            refine Rel.heldTake (v := ?_) 2 rfl (by kernel_rfl) (by kernel_rfl) (by kernel_rfl) (fun _ _ _ h => h) (by assumption) (by rfl) ?_ ?_
            rotate_left
            · (intro W hSw; (try dsimp only at hSw); go_simp; try with_reducible rfl)
            try simp only [Act.put, List.setIfInBounds_toArray, List.set_cons_zero, List.set_cons_succ]
            refine Rel.heldTake (v := ?_) 3 rfl (by kernel_rfl) (by kernel_rfl) (by kernel_rfl) (fun _ _ _ h => h) (by assumption) (by rfl) ?_ ?_
            rotate_left
            · (intro W hSw; (try dsimp only at hSw); go_simp; try with_reducible rfl)
            try simp only [Act.put, List.setIfInBounds_toArray, List.set_cons_zero, List.set_cons_succ]
            refine Rel.heldNext 4 rfl (by kernel_rfl) fun K hK => ?_
            go_simp
            refine (Equal20_any w.heap.size b S _ u y w7 D.bld hvS hbd (by omega) lu ly (by have := zu.out; omega) (by have := zy.out; omega)).mono ?_
            rintro e w8 ⟨s, rfl, es, hs, hB8, k8⟩
            have D8 := D.kept k8 hB8
            have g98 := k8.typ _ _ _ g9 (by decide) (by decide) (by decide)
            refine hK.out _ _ (D8.gq.cell (j := 0) (v := .slice va Ls.length vc) rfl) (fun hH1 => ?_)
            clear hK K
            try simp only [Act.put, List.setIfInBounds_toArray, List.set_cons_zero, List.set_cons_succ]
            refine Rel.heldNext 5 rfl (by kernel_rfl) fun K hK => ?_
            go_simp
            have D9 := D8.mono ((Below.refl _ _).alloc (Nat.le_refl _) (.cells #[lcV s] 44))
            have g99 := g98.mono ((Below.refl _ _).alloc (Nat.le_refl _) (.cells #[lcV s] 44))
            have hys : ∀ s' ∈ [s], LinT (w8.alloc (.cells #[lcV s] 44)) s' := fun s' h => by
              rw [List.mem_singleton] at h; subst h; exact hs.mono ((Below.refl _ _).alloc (Nat.le_refl _) _)
            refine hK.out _ _ (D9.gq.cell (j := 0) (v := .slice va Ls.length vc) rfl) (fun hH2 => ?_)
            clear hK K
            try simp only [Act.put, List.setIfInBounds_toArray, List.set_cons_zero, List.set_cons_succ]
            refine Rel.heldNext 6 rfl (by kernel_rfl) fun K hK => ?_
            refine step_appGL lcL Ls [s] rfl _ _ 55 rfl w.heap.size 44 (.slice none 0 0) 24 Try.underlying55 Try.infoLc rfl (by decide) _ 1 1 (some ⟨w8.heap.size, 0, none⟩) rfl rfl rfl D9.ow (SlG.one (Blk.new _ _ _) rfl) (by have := hLh.out; simp; omega) D9.below.size ?_
            intro v' w9 own' hg'
            clear hH2
            obtain ⟨va', vc', ve', _⟩ := own'.sl
            simp only [List.length_append, List.length_cons, List.length_nil, Nat.zero_add] at ve'
            subst ve'
            have gq' := hg'.blk D9.gq (D9.ow.neq D9.gq (by decide))
            have fq' := gq'.free
            have cq' := gq'.cell (j := 0) (v := .slice va Ls.length vc) rfl
            have DD := D9.push (ys := [s]) hys hg' own'
            clear hg' own' D9
            refine hK.out _ _ cq' (fun hH3 => ?_)
            clear hK K
            try simp only [Act.put, List.setIfInBounds_toArray, List.set_cons_zero, List.set_cons_succ]
            refine Rel.heldLast 7 rfl (by kernel_rfl) rfl (by kernel_rfl) fun K hK => ?_
            go_simp
            refine hK.out _ _ ?_
            clear hK K hH0 hH1 hH3 fq' cq' gq'
            have hq' : Hid (((gEqual S u.l y.l).1, (Ls ++ [s]).map Lc.l) = runO p (ops.take (j + 1)) Q0) := hide (by
              rw [htk.out, runO_snoc, ← hev.out, stO_at (c := 5) hm, List.map_append, mu.out, my.out, mz.out]
              show (_, _ ++ [s.l]) = _; rw [es.out]; rfl)
            clear hev htk
            go_wp2
            go_roundw
            case rel => exact ⟨j + 1, by omega, by go_num, _, _, _, DD, hq'⟩
            case measure => simp [intOf]; omega
          · as_aux_lemma =>
            go_wp2_with fail
            refine Rel.region_any Try.mixed fun w7 hb7 => ?_
            replace D := D.mono hb7
            replace lu := lu.mono hb7
            replace ly := ly.mono hb7
            replace lz := lz.mono hb7
            replace g9 := g9.mono hb7
            have hvS := hag.out.v
            have hbd := hag.out.bd
            obtain ⟨cs0, gB0, h00⟩ := D.bld.cell0
            refine Rel.any_held (fun W => W.cell? ⟨q, 0, none⟩ = some (.slice va Ls.length vc)) 6 (D.gq.cell (j := 0) (v := .slice va Ls.length vc) rfl) fun hH0 => ?_
            refine Rel.heldTake (v := ?_) 0 rfl (by kernel_rfl) (by kernel_rfl) (by kernel_rfl) (fun _ _ _ h => h) (by assumption) (by rfl) ?_ ?_
            rotate_left
            · (intro W hSw; (try dsimp only at hSw); go_simp; try with_reducible rfl)
            try simp only [Act.put, List.setIfInBounds_toArray, List.set_cons_zero, List.set_cons_succ]
            refine Rel.heldTake (v := ?_) 1 rfl (by kernel_rfl) (by kernel_rfl) (by kernel_rfl) (fun _ _ _ h => h) (by assumption) (by rfl) ?_ ?_
            rotate_left
            · (intro W hSw; (try dsimp only at hSw); go_simp; try with_reducible rfl)
            try simp only [Act.put, List.setIfInBounds_toArray, List.set_cons_zero, List.set_cons_succ]
            refine Rel.heldTake (v := ?_) 2 rfl (by kernel_rfl) (by kernel_rfl) (by kernel_rfl) (fun _ _ _ h => h) (by assumption) (by rfl) ?_ ?_
            rotate_left
            · (intro W hSw; (try dsimp only at hSw); go_simp; try with_reducible rfl)
            try simp only [Act.put, List.setIfInBounds_toArray, List.set_cons_zero, List.set_cons_succ]
            refine Rel.heldNext 3 rfl (by kernel_rfl) fun K hK => ?_
            go_simp
            refine (Not20_any b cs0 _ S.p u w7 gB0 h00 hvS lu.ok (by have := zu.out; omega)).mono ?_
            rintro e w8 ⟨s, rfl, es, hs, hb8⟩
            have k8 := Kept.of_below hb8 D.below.size
            have hB8 := D.bld.mono hb8
            have D8 := D.kept k8 hB8
            have g98 := k8.typ _ _ _ g9 (by decide) (by decide) (by decide)
            refine hK.out _ _ (D8.gq.cell (j := 0) (v := .slice va Ls.length vc) rfl) (fun hH1 => ?_)
            clear hK K
            try simp only [Act.put, List.setIfInBounds_toArray, List.set_cons_zero, List.set_cons_succ]
            refine Rel.heldNext 4 rfl (by kernel_rfl) fun K hK => ?_
            go_simp
            have D9 := D8.mono ((Below.refl _ _).alloc (Nat.le_refl _) (.cells #[lcV s] 44))
            have g99 := g98.mono ((Below.refl _ _).alloc (Nat.le_refl _) (.cells #[lcV s] 44))
            have hys : ∀ s' ∈ [s], LinT (w8.alloc (.cells #[lcV s] 44)) s' := fun s' h => by
              rw [List.mem_singleton] at h; subst h; exact hs.mono ((Below.refl _ _).alloc (Nat.le_refl _) _)
            refine hK.out _ _ (D9.gq.cell (j := 0) (v := .slice va Ls.length vc) rfl) (fun hH2 => ?_)
            clear hK K
            try simp only [Act.put, List.setIfInBounds_toArray, List.set_cons_zero, List.set_cons_succ]
            refine Rel.heldNext 5 rfl (by kernel_rfl) fun K hK => ?_
            refine step_appGL lcL Ls [s] rfl _ _ 55 rfl w.heap.size 44 (.slice none 0 0) 24 Try.underlying55 Try.infoLc rfl (by decide) _ 1 1 (some ⟨w8.heap.size, 0, none⟩) rfl rfl rfl D9.ow (SlG.one (Blk.new _ _ _) rfl) (by have := hLh.out; simp; omega) D9.below.size ?_
            intro v' w9 own' hg'
            clear hH2
            obtain ⟨va', vc', ve', _⟩ := own'.sl
            simp only [List.length_append, List.length_cons, List.length_nil, Nat.zero_add] at ve'
            subst ve'
            have gq' := hg'.blk D9.gq (D9.ow.neq D9.gq (by decide))
            have fq' := gq'.free
            have cq' := gq'.cell (j := 0) (v := .slice va Ls.length vc) rfl
            have DD := D9.push (ys := [s]) hys hg' own'
            clear hg' own' D9
            refine hK.out _ _ cq' (fun hH3 => ?_)
            clear hK K
            try simp only [Act.put, List.setIfInBounds_toArray, List.set_cons_zero, List.set_cons_succ]
            refine Rel.heldLast 6 rfl (by kernel_rfl) rfl (by kernel_rfl) fun K hK => ?_
            go_simp
            refine hK.out _ _ ?_
            clear hK K hH0 hH1 hH3 fq' cq' gq'
            have hq' : Hid ((S, (Ls ++ [s]).map Lc.l) = runO p (ops.take (j + 1)) Q0) := hide (by
              rw [htk.out, runO_snoc, ← hev.out, stO_at (c := 6) hm, List.map_append, mu.out, my.out, mz.out]
              show (_, _ ++ [s.l]) = _; rw [es.out]; rfl)
            clear hev htk
            go_wp2
            go_roundw
            case rel => exact ⟨j + 1, by omega, by go_num, _, _, _, DD, hq'⟩
            case measure => simp [intOf]; omega
          · as_aux_lemma =>
            go_wp2_with fail
            refine Rel.region_any Try.mixed fun w7 hb7 => ?_
            replace D := D.mono hb7
            replace lu := lu.mono hb7
            replace ly := ly.mono hb7
            replace lz := lz.mono hb7
            replace g9 := g9.mono hb7
            have hvS := hag.out.v
            have hbd := hag.out.bd
            refine Rel.any_held (fun W => W.cell? ⟨q, 0, none⟩ = some (.slice va Ls.length vc)) 7 (D.gq.cell (j := 0) (v := .slice va Ls.length vc) rfl) fun hH0 => ?_
            refine Rel.heldTake (v := ?_) 0 rfl (by kernel_rfl) (by kernel_rfl) (by kernel_rfl) (fun _ _ _ h => h) (by assumption) (by rfl) ?_ ?_
            rotate_left
            · (intro W hSw; (try dsimp only at hSw); go_simp; try with_reducible rfl)
            try simp only [Act.put, List.setIfInBounds_toArray, List.set_cons_zero, List.set_cons_succ]
            refine Rel.heldTake (v := ?_) 1 rfl (by kernel_rfl) (by kernel_rfl) (by kernel_rfl) (fun _ _ _ h => h) (by assumption) (by rfl) ?_ ?_
            rotate_left
            · (intro W hSw; (try dsimp only at hSw); go_simp; try with_reducible rfl)
            try simp only [Act.put, List.setIfInBounds_toArray, List.set_cons_zero, List.set_cons_succ]
            refine Rel.heldTake (v := ?_) 2 rfl (by kernel_rfl) (by kernel_rfl) (by kernel_rfl) (fun _ _ _ h => h) (by assumption) (by rfl) ?_ ?_
            rotate_left
            · (intro W hSw; (try dsimp only at hSw); go_simp; try with_reducible rfl)
            try simp only [Act.put, List.setIfInBounds_toArray, List.set_cons_zero, List.set_cons_succ]
            refine Rel.heldTake (v := ?_) 3 rfl (by kernel_rfl) (by kernel_rfl) (by kernel_rfl) (fun _ _ _ h => h) (by assumption) (by rfl) ?_ ?_
            rotate_left
            · (intro W hSw; (try dsimp only at hSw); go_simp; try with_reducible rfl)
            try simp only [Act.put, List.setIfInBounds_toArray, List.set_cons_zero, List.set_cons_succ]
            refine Rel.heldNext 4 rfl (by kernel_rfl) fun K hK => ?_
            go_simp
            refine (And20_any w.heap.size b S _ u y w7 D.bld hvS hbd (by omega) lu ly (by have := zu.out; omega) (by have := zy.out; omega)).mono ?_
            rintro e w8 ⟨s, rfl, es, hs, hB8, k8⟩
            have D8 := D.kept k8 hB8
            have g98 := k8.typ _ _ _ g9 (by decide) (by decide) (by decide)
            refine hK.out _ _ (D8.gq.cell (j := 0) (v := .slice va Ls.length vc) rfl) (fun hH1 => ?_)
            clear hK K
            try simp only [Act.put, List.setIfInBounds_toArray, List.set_cons_zero, List.set_cons_succ]
            refine Rel.heldNext 5 rfl (by kernel_rfl) fun K hK => ?_
            go_simp
            have D9 := D8.mono ((Below.refl _ _).alloc (Nat.le_refl _) (.cells #[lcV s] 44))
            have g99 := g98.mono ((Below.refl _ _).alloc (Nat.le_refl _) (.cells #[lcV s] 44))
            have hys : ∀ s' ∈ [s], LinT (w8.alloc (.cells #[lcV s] 44)) s' := fun s' h => by
              rw [List.mem_singleton] at h; subst h; exact hs.mono ((Below.refl _ _).alloc (Nat.le_refl _) _)
            refine hK.out _ _ (D9.gq.cell (j := 0) (v := .slice va Ls.length vc) rfl) (fun hH2 => ?_)
            clear hK K
            try simp only [Act.put, List.setIfInBounds_toArray, List.set_cons_zero, List.set_cons_succ]
            refine Rel.heldNext 6 rfl (by kernel_rfl) fun K hK => ?_
            refine step_appGL lcL Ls [s] rfl _ _ 55 rfl w.heap.size 44 (.slice none 0 0) 24 Try.underlying55 Try.infoLc rfl (by decide) _ 1 1 (some ⟨w8.heap.size, 0, none⟩) rfl rfl rfl D9.ow (SlG.one (Blk.new _ _ _) rfl) (by have := hLh.out; simp; omega) D9.below.size ?_
            intro v' w9 own' hg'
            clear hH2
            obtain ⟨va', vc', ve', _⟩ := own'.sl
            simp only [List.length_append, List.length_cons, List.length_nil, Nat.zero_add] at ve'
            subst ve'
            have gq' := hg'.blk D9.gq (D9.ow.neq D9.gq (by decide))
            have fq' := gq'.free
            have cq' := gq'.cell (j := 0) (v := .slice va Ls.length vc) rfl
            have DD := D9.push (ys := [s]) hys hg' own'
            clear hg' own' D9
            refine hK.out _ _ cq' (fun hH3 => ?_)
            clear hK K
            try simp only [Act.put, List.setIfInBounds_toArray, List.set_cons_zero, List.set_cons_succ]
            refine Rel.heldLast 7 rfl (by kernel_rfl) rfl (by kernel_rfl) fun K hK => ?_
            go_simp
            refine hK.out _ _ ?_
            clear hK K hH0 hH1 hH3 fq' cq' gq'
            have hq' : Hid ((gMul S u.l y.l, (Ls ++ [s]).map Lc.l) = runO p (ops.take (j + 1)) Q0) := hide (by
              rw [htk.out, runO_snoc, ← hev.out, stO_at (c := 7) hm, List.map_append, mu.out, my.out, mz.out]
              show (_, _ ++ [s.l]) = _; rw [es.out]; rfl)
            clear hev htk
            go_wp2
            go_roundw
            case rel => exact ⟨j + 1, by omega, by go_num, _, _, _, DD, hq'⟩
            case measure => simp [intOf]; omega
          · as_aux_lemma =>
            go_wp2_with fail
            refine Rel.region_any Try.mixed fun w7 hb7 => ?_
            replace D := D.mono hb7
            replace lu := lu.mono hb7
            replace ly := ly.mono hb7
            replace lz := lz.mono hb7
            replace g9 := g9.mono hb7
            have hvS := hag.out.v
            have hbd := hag.out.bd
            refine Rel.any_held (fun W => W.cell? ⟨q, 0, none⟩ = some (.slice va Ls.length vc)) 7 (D.gq.cell (j := 0) (v := .slice va Ls.length vc) rfl) fun hH0 => ?_
            refine Rel.heldTake (v := ?_) 0 rfl (by kernel_rfl) (by kernel_rfl) (by kernel_rfl) (fun _ _ _ h => h) (by assumption) (by rfl) ?_ ?_
            rotate_left
            · (intro W hSw; (try dsimp only at hSw); go_simp; try with_reducible rfl)
            try simp only [Act.put, List.setIfInBounds_toArray, List.set_cons_zero, List.set_cons_succ]
            refine Rel.heldTake (v := ?_) 1 rfl (by kernel_rfl) (by kernel_rfl) (by kernel_rfl) (fun _ _ _ h => h) (by assumption) (by rfl) ?_ ?_
            rotate_left
            · (intro W hSw; (try dsimp only at hSw); go_simp; try with_reducible rfl)
            try simp only [Act.put, List.setIfInBounds_toArray, List.set_cons_zero, List.set_cons_succ]
            refine Rel.heldTake (v := ?_) 2 rfl (by kernel_rfl) (by kernel_rfl) (by kernel_rfl) (fun _ _ _ h => h) (by assumption) (by rfl) ?_ ?_
            rotate_left
            · (intro W hSw; (try dsimp only at hSw); go_simp; try with_reducible rfl)
            try simp only [Act.put, List.setIfInBounds_toArray, List.set_cons_zero, List.set_cons_succ]
            refine Rel.heldTake (v := ?_) 3 rfl (by kernel_rfl) (by kernel_rfl) (by kernel_rfl) (fun _ _ _ h => h) (by assumption) (by rfl) ?_ ?_
            rotate_left
            · (intro W hSw; (try dsimp only at hSw); go_simp; try with_reducible rfl)
            try simp only [Act.put, List.setIfInBounds_toArray, List.set_cons_zero, List.set_cons_succ]
            refine Rel.heldNext 4 rfl (by kernel_rfl) fun K hK => ?_
            go_simp
            refine (Or20_any w.heap.size b S _ u y w7 D.bld hvS hbd (by omega) lu ly (by have := zu.out; omega) (by have := zy.out; omega)).mono ?_
            rintro e w8 ⟨s, rfl, es, hs, hB8, k8⟩
            have D8 := D.kept k8 hB8
            have g98 := k8.typ _ _ _ g9 (by decide) (by decide) (by decide)
            refine hK.out _ _ (D8.gq.cell (j := 0) (v := .slice va Ls.length vc) rfl) (fun hH1 => ?_)
            clear hK K
            try simp only [Act.put, List.setIfInBounds_toArray, List.set_cons_zero, List.set_cons_succ]
            refine Rel.heldNext 5 rfl (by kernel_rfl) fun K hK => ?_
            go_simp
            have D9 := D8.mono ((Below.refl _ _).alloc (Nat.le_refl _) (.cells #[lcV s] 44))
            have g99 := g98.mono ((Below.refl _ _).alloc (Nat.le_refl _) (.cells #[lcV s] 44))
            have hys : ∀ s' ∈ [s], LinT (w8.alloc (.cells #[lcV s] 44)) s' := fun s' h => by
              rw [List.mem_singleton] at h; subst h; exact hs.mono ((Below.refl _ _).alloc (Nat.le_refl _) _)
            refine hK.out _ _ (D9.gq.cell (j := 0) (v := .slice va Ls.length vc) rfl) (fun hH2 => ?_)
            clear hK K
            try simp only [Act.put, List.setIfInBounds_toArray, List.set_cons_zero, List.set_cons_succ]
            refine Rel.heldNext 6 rfl (by kernel_rfl) fun K hK => ?_
            refine step_appGL lcL Ls [s] rfl _ _ 55 rfl w.heap.size 44 (.slice none 0 0) 24 Try.underlying55 Try.infoLc rfl (by decide) _ 1 1 (some ⟨w8.heap.size, 0, none⟩) rfl rfl rfl D9.ow (SlG.one (Blk.new _ _ _) rfl) (by have := hLh.out; simp; omega) D9.below.size ?_
            intro v' w9 own' hg'
            clear hH2
            obtain ⟨va', vc', ve', _⟩ := own'.sl
            simp only [List.length_append, List.length_cons, List.length_nil, Nat.zero_add] at ve'
            subst ve'
            have gq' := hg'.blk D9.gq (D9.ow.neq D9.gq (by decide))
            have fq' := gq'.free
            have cq' := gq'.cell (j := 0) (v := .slice va Ls.length vc) rfl
            have DD := D9.push (ys := [s]) hys hg' own'
            clear hg' own' D9
            refine hK.out _ _ cq' (fun hH3 => ?_)
            clear hK K
            try simp only [Act.put, List.setIfInBounds_toArray, List.set_cons_zero, List.set_cons_succ]
            refine Rel.heldLast 7 rfl (by kernel_rfl) rfl (by kernel_rfl) fun K hK => ?_
            go_simp
            refine hK.out _ _ ?_
            clear hK K hH0 hH1 hH3 fq' cq' gq'
            have hq' : Hid (((gOr S u.l y.l).1, (Ls ++ [s]).map Lc.l) = runO p (ops.take (j + 1)) Q0) := hide (by
              rw [htk.out, runO_snoc, ← hev.out, stO_at (c := 8) hm, List.map_append, mu.out, my.out, mz.out]
              show (_, _ ++ [s.l]) = _; rw [es.out]; rfl)
            clear hev htk
            go_wp2
            go_roundw
            case rel => exact ⟨j + 1, by omega, by go_num, _, _, _, DD, hq'⟩
            case measure => simp [intOf]; omega
          · as_aux_lemma =>
            go_wp2_with fail
            refine Rel.region_any Try.mixed fun w7 hb7 => ?_
            replace D := D.mono hb7
            replace lu := lu.mono hb7
            replace ly := ly.mono hb7
            replace lz := lz.mono hb7
            replace g9 := g9.mono hb7
            have hvS := hag.out.v
            have hbd := hag.out.bd
            refine Rel.any_held (fun W => W.cell? ⟨q, 0, none⟩ = some (.slice va Ls.length vc)) 8 (D.gq.cell (j := 0) (v := .slice va Ls.length vc) rfl) fun hH0 => ?_
            refine Rel.heldTake (v := ?_) 0 rfl (by kernel_rfl) (by kernel_rfl) (by kernel_rfl) (fun _ _ _ h => h) (by assumption) (by rfl) ?_ ?_
            rotate_left
            · (intro W hSw; (try dsimp only at hSw); go_simp; try with_reducible rfl)
            try simp only [Act.put, List.setIfInBounds_toArray, List.set_cons_zero, List.set_cons_succ]
            refine Rel.heldTake (v := ?_) 1 rfl (by kernel_rfl) (by kernel_rfl) (by kernel_rfl) (fun _ _ _ h => h) (by assumption) (by rfl) ?_ ?_
            rotate_left
            · (intro W hSw; (try dsimp only at hSw); go_simp; try with_reducible rfl)
            try simp only [Act.put, List.setIfInBounds_toArray, List.set_cons_zero, List.set_cons_succ]
            refine Rel.heldTake (v := ?_) 2 rfl (by kernel_rfl) (by kernel_rfl) (by kernel_rfl) (fun _ _ _ h => h) (by assumption) (by rfl) ?_ ?_
            rotate_left
            · (intro W hSw; (try dsimp only at hSw); go_simp; try with_reducible rfl)
            try simp only [Act.put, List.setIfInBounds_toArray, List.set_cons_zero, List.set_cons_succ]
            refine Rel.heldTake (v := ?_) 3 rfl (by kernel_rfl) (by kernel_rfl) (by kernel_rfl) (fun _ _ _ h => h) (by assumption) (by rfl) ?_ ?_
            rotate_left
            · (intro W hSw; (try dsimp only at hSw); go_simp; try with_reducible rfl)
            try simp only [Act.put, List.setIfInBounds_toArray, List.set_cons_zero, List.set_cons_succ]
            refine Rel.heldTake (v := ?_) 4 rfl (by kernel_rfl) (by kernel_rfl) (by kernel_rfl) (fun _ _ _ h => h) (by assumption) (by rfl) ?_ ?_
            rotate_left
            · (intro W hSw; (try dsimp only at hSw); go_simp; try with_reducible rfl)
            try simp only [Act.put, List.setIfInBounds_toArray, List.set_cons_zero, List.set_cons_succ]
            refine Rel.heldNext 5 rfl (by kernel_rfl) fun K hK => ?_
            go_simp
            refine (Select20_any w.heap.size b S _ u y z w7 D.bld hvS hbd (by omega) lu ly lz (by have := zu.out; omega) (by have := zy.out; omega) (by have := zz.out; omega)).mono ?_
            rintro e w8 ⟨s, rfl, es, hs, hB8, k8⟩
            have D8 := D.kept k8 hB8
            have g98 := k8.typ _ _ _ g9 (by decide) (by decide) (by decide)
            refine hK.out _ _ (D8.gq.cell (j := 0) (v := .slice va Ls.length vc) rfl) (fun hH1 => ?_)
            clear hK K
            try simp only [Act.put, List.setIfInBounds_toArray, List.set_cons_zero, List.set_cons_succ]
            refine Rel.heldNext 6 rfl (by kernel_rfl) fun K hK => ?_
            go_simp
            have D9 := D8.mono ((Below.refl _ _).alloc (Nat.le_refl _) (.cells #[lcV s] 44))
            have g99 := g98.mono ((Below.refl _ _).alloc (Nat.le_refl _) (.cells #[lcV s] 44))
            have hys : ∀ s' ∈ [s], LinT (w8.alloc (.cells #[lcV s] 44)) s' := fun s' h => by
              rw [List.mem_singleton] at h; subst h; exact hs.mono ((Below.refl _ _).alloc (Nat.le_refl _) _)
            refine hK.out _ _ (D9.gq.cell (j := 0) (v := .slice va Ls.length vc) rfl) (fun hH2 => ?_)
            clear hK K
            try simp only [Act.put, List.setIfInBounds_toArray, List.set_cons_zero, List.set_cons_succ]
            refine Rel.heldNext 7 rfl (by kernel_rfl) fun K hK => ?_
            refine step_appGL lcL Ls [s] rfl _ _ 55 rfl w.heap.size 44 (.slice none 0 0) 24 Try.underlying55 Try.infoLc rfl (by decide) _ 1 1 (some ⟨w8.heap.size, 0, none⟩) rfl rfl rfl D9.ow (SlG.one (Blk.new _ _ _) rfl) (by have := hLh.out; simp; omega) D9.below.size ?_
            intro v' w9 own' hg'
            clear hH2
            obtain ⟨va', vc', ve', _⟩ := own'.sl
            simp only [List.length_append, List.length_cons, List.length_nil, Nat.zero_add] at ve'
            subst ve'
            have gq' := hg'.blk D9.gq (D9.ow.neq D9.gq (by decide))
            have fq' := gq'.free
            have cq' := gq'.cell (j := 0) (v := .slice va Ls.length vc) rfl
            have DD := D9.push (ys := [s]) hys hg' own'
            clear hg' own' D9
            refine hK.out _ _ cq' (fun hH3 => ?_)
            clear hK K
            try simp only [Act.put, List.setIfInBounds_toArray, List.set_cons_zero, List.set_cons_succ]
            refine Rel.heldLast 8 rfl (by kernel_rfl) rfl (by kernel_rfl) fun K hK => ?_
            go_simp
            refine hK.out _ _ ?_
            clear hK K hH0 hH1 hH3 fq' cq' gq'
            have hq' : Hid (((gSelect S u.l y.l z.l).1, (Ls ++ [s]).map Lc.l) = runO p (ops.take (j + 1)) Q0) := hide (by
              rw [htk.out, runO_snoc, ← hev.out, stO_at (c := 9) hm, List.map_append, mu.out, my.out, mz.out]
              show (_, _ ++ [s.l]) = _; rw [es.out]; rfl)
            clear hev htk
            go_wp2
            go_roundw
            case rel => exact ⟨j + 1, by omega, by go_num, _, _, _, DD, hq'⟩
            case measure => simp [intOf]; omega
          · as_aux_lemma =>
            go_wp2_with fail
            refine Rel.region_any Try.mixed fun w7 hb7 => ?_
            replace D := D.mono hb7
            replace lu := lu.mono hb7
            replace ly := ly.mono hb7
            replace lz := lz.mono hb7
            replace g9 := g9.mono hb7
            have hvS := hag.out.v
            have hbd := hag.out.bd
            have hn3 := wOf_bd hv.out on
            have hn6 := hn3.2.1
            have cW := fun W => sWidth_any p pub sec (some ⟨q2, off2, none⟩) ops.length lc on W hv.out ⟨hn1, hn2⟩
            rw [← hn3.1] at cW
            clear hn3
            obtain ⟨m, hmm⟩ : ∃ m, m = wOf p on := ⟨_, rfl⟩
            rw [← hmm] at cW hn6
            replace hmm := hide hmm
            refine Rel.any_held (fun W => W.cell? ⟨q, 0, none⟩ = some (.slice va Ls.length vc) ∧ W.cell? ⟨w.heap.size, 0, none⟩ = some (.int .u64 p) ∧ W.cell? ⟨w.heap.size, 1, none⟩ = some (.int .u8 pub) ∧ W.cell? ⟨w.heap.size, 2, none⟩ = some (.int .u8 sec) ∧ W.cell? ⟨w.heap.size, 3, none⟩ = some (.slice (some ⟨q2, off2, none⟩) ops.length lc) ∧ W.cell? ⟨wr.heap.size, 4, none⟩ = some (.int .u8 on)) 11 ⟨D.gq.cell (j := 0) (v := .slice va Ls.length vc) rfl, D.g0.cell (j := 0) (v := .int .u64 p) rfl, D.g0.cell (j := 1) (v := .int .u8 pub) rfl, D.g0.cell (j := 2) (v := .int .u8 sec) rfl, D.g0.cell (j := 3) (v := .slice (some ⟨q2, off2, none⟩) ops.length lc) rfl, g9.cell (j := 4) (v := .int .u8 on) rfl⟩ fun hH0 => ?_
            refine Rel.heldTake (v := ?_) 0 rfl (by kernel_rfl) (by kernel_rfl) (by kernel_rfl) (fun _ _ _ h => h) (by assumption) (by rfl) ?_ ?_
            rotate_left
            · (intro W hSw; (try dsimp only at hSw); go_simp; try with_reducible rfl)
            try simp only [Act.put, List.setIfInBounds_toArray, List.set_cons_zero, List.set_cons_succ]
            refine Rel.heldTake (v := ?_) 1 rfl (by kernel_rfl) (by kernel_rfl) (by kernel_rfl) (fun _ _ _ h => h) (by assumption) (by rfl) ?_ ?_
            rotate_left
            · (intro W hSw; (try dsimp only at hSw); go_simp; try with_reducible rfl)
            try simp only [Act.put, List.setIfInBounds_toArray, List.set_cons_zero, List.set_cons_succ]
            refine Rel.heldTake (v := ?_) 2 rfl (by kernel_rfl) (by kernel_rfl) (by kernel_rfl) (fun _ _ _ h => h) (by assumption) (by rfl) ?_ ?_
            rotate_left
            · (intro W hSw; (try dsimp only at hSw); go_simp; try with_reducible rfl)
            try simp only [Act.put, List.setIfInBounds_toArray, List.set_cons_zero, List.set_cons_succ]
            refine Rel.heldTake (v := ?_) 3 rfl (by kernel_rfl) (by kernel_rfl) (by kernel_rfl) (fun _ _ _ h => h) (by assumption) (by rfl) ?_ ?_
            rotate_left
            · (intro W hSw; (try dsimp only at hSw); go_simp; try with_reducible rfl)
            try simp only [Act.put, List.setIfInBounds_toArray, List.set_cons_zero, List.set_cons_succ]
            refine Rel.heldTake (v := ?_) 4 rfl (by kernel_rfl) (by kernel_rfl) (by kernel_rfl) (fun _ _ _ h => h) (by assumption) (by rfl) ?_ ?_
            rotate_left
            · (intro W hSw; (try dsimp only at hSw); go_simp; try with_reducible rfl)
            try simp only [Act.put, List.setIfInBounds_toArray, List.set_cons_zero, List.set_cons_succ]
            refine Rel.heldTake (v := ?_) 5 rfl (by kernel_rfl) (by kernel_rfl) (by kernel_rfl) (fun _ _ _ h => h) (by assumption) (by rfl) ?_ ?_
            rotate_left
            · (intro W hSw; (try dsimp only at hSw); go_simp; try with_reducible rfl)
            try simp only [Act.put, List.setIfInBounds_toArray, List.set_cons_zero, List.set_cons_succ]
            refine Rel.heldTake (v := ?_) 6 rfl (by kernel_rfl) (by kernel_rfl) (by kernel_rfl) (fun _ _ _ h => h) (by assumption) (by rfl) ?_ ?_
            rotate_left
            · (intro W hSw; (try dsimp only at hSw); go_simp; try with_reducible rfl)
            try simp only [Act.put, List.setIfInBounds_toArray, List.set_cons_zero, List.set_cons_succ]
            refine Rel.heldNext 7 rfl (by kernel_rfl) fun K hK => ?_
            go_simp
            refine (cW _).mono ?_
            rintro e wW ⟨rfl, hbW⟩
            replace D := D.mono hbW
            replace lu := lu.mono hbW
            replace ly := ly.mono hbW
            replace lz := lz.mono hbW
            replace g9 := g9.mono hbW
            refine hK.out _ _ ⟨D.gq.cell (j := 0) (v := .slice va Ls.length vc) rfl, D.g0.cell (j := 0) (v := .int .u64 p) rfl, D.g0.cell (j := 1) (v := .int .u8 pub) rfl, D.g0.cell (j := 2) (v := .int .u8 sec) rfl, D.g0.cell (j := 3) (v := .slice (some ⟨q2, off2, none⟩) ops.length lc) rfl, g9.cell (j := 4) (v := .int .u8 on) rfl⟩ (fun hHW => ?_)
            clear hK K
            try simp only [Act.put, List.setIfInBounds_toArray, List.set_cons_zero, List.set_cons_succ]
            clear hH0
            refine Rel.heldNext 8 rfl (by kernel_rfl) fun K hK => ?_
            go_simp
            refine (Less20_any w.heap.size b S _ u y m wW D.bld hvS hbd (by omega) lu ly (by have := zu.out; omega) (by have := zy.out; omega) (by omega)).mono ?_
            rintro e w8 ⟨s, rfl, es, hs, hB8, k8⟩
            have D8 := D.kept k8 hB8
            have g98 := k8.typ _ _ _ g9 (by decide) (by decide) (by decide)
            refine hK.out _ _ ⟨D8.gq.cell (j := 0) (v := .slice va Ls.length vc) rfl, D8.g0.cell (j := 0) (v := .int .u64 p) rfl, D8.g0.cell (j := 1) (v := .int .u8 pub) rfl, D8.g0.cell (j := 2) (v := .int .u8 sec) rfl, D8.g0.cell (j := 3) (v := .slice (some ⟨q2, off2, none⟩) ops.length lc) rfl, g98.cell (j := 4) (v := .int .u8 on) rfl⟩ (fun hH1 => ?_)
            clear hK K
            try simp only [Act.put, List.setIfInBounds_toArray, List.set_cons_zero, List.set_cons_succ]
            refine Rel.heldNext 9 rfl (by kernel_rfl) fun K hK => ?_
            go_simp
            have D9 := D8.mono ((Below.refl _ _).alloc (Nat.le_refl _) (.cells #[lcV s] 44))
            have g99 := g98.mono ((Below.refl _ _).alloc (Nat.le_refl _) (.cells #[lcV s] 44))
            have hys : ∀ s' ∈ [s], LinT (w8.alloc (.cells #[lcV s] 44)) s' := fun s' h => by
              rw [List.mem_singleton] at h; subst h; exact hs.mono ((Below.refl _ _).alloc (Nat.le_refl _) _)
            refine hK.out _ _ ⟨D9.gq.cell (j := 0) (v := .slice va Ls.length vc) rfl, D9.g0.cell (j := 0) (v := .int .u64 p) rfl, D9.g0.cell (j := 1) (v := .int .u8 pub) rfl, D9.g0.cell (j := 2) (v := .int .u8 sec) rfl, D9.g0.cell (j := 3) (v := .slice (some ⟨q2, off2, none⟩) ops.length lc) rfl, g99.cell (j := 4) (v := .int .u8 on) rfl⟩ (fun hH2 => ?_)
            clear hK K
            try simp only [Act.put, List.setIfInBounds_toArray, List.set_cons_zero, List.set_cons_succ]
            refine Rel.heldNext 10 rfl (by kernel_rfl) fun K hK => ?_
            refine step_appGL lcL Ls [s] rfl _ _ 55 rfl w.heap.size 44 (.slice none 0 0) 24 Try.underlying55 Try.infoLc rfl (by decide) _ 1 1 (some ⟨w8.heap.size, 0, none⟩) rfl rfl rfl D9.ow (SlG.one (Blk.new _ _ _) rfl) (by have := hLh.out; simp; omega) D9.below.size ?_
            intro v' w9 own' hg'
            clear hH2
            obtain ⟨va', vc', ve', _⟩ := own'.sl
            simp only [List.length_append, List.length_cons, List.length_nil, Nat.zero_add] at ve'
            subst ve'
            have gq' := hg'.blk D9.gq (D9.ow.neq D9.gq (by decide))
            have fq' := gq'.free
            have cq' := gq'.cell (j := 0) (v := .slice va Ls.length vc) rfl
            have DD := D9.push (ys := [s]) hys hg' own'
            have kx' : KX XLn w.heap.size _ w9 := KX.grew D9.ow hg' xln1 D9.below.size
            have g0' := kx'.typ _ _ _ D9.g0 xlnS
            have g9' := kx'.typ _ _ _ g99 xlnO
            clear hg' own' D9
            refine hK.out _ _ ⟨cq', g0'.cell (j := 0) (v := .int .u64 p) rfl, g0'.cell (j := 1) (v := .int .u8 pub) rfl, g0'.cell (j := 2) (v := .int .u8 sec) rfl, g0'.cell (j := 3) (v := .slice (some ⟨q2, off2, none⟩) ops.length lc) rfl, g9'.cell (j := 4) (v := .int .u8 on) rfl⟩ (fun hH3 => ?_)
            clear hK K
            try simp only [Act.put, List.setIfInBounds_toArray, List.set_cons_zero, List.set_cons_succ]
            refine Rel.heldLast 11 rfl (by kernel_rfl) rfl (by kernel_rfl) fun K hK => ?_
            go_simp
            refine hK.out _ _ ?_
            clear hK K hHW hH1 hH3 fq' cq' gq'
            have hq' : Hid (((gLess S u.l y.l m).1, (Ls ++ [s]).map Lc.l) = runO p (ops.take (j + 1)) Q0) := hide (by
              rw [htk.out, runO_snoc, ← hev.out, stO_at (c := 10) hm, List.map_append, mu.out, my.out, mz.out]
              show (_, _ ++ [s.l]) = _; rw [es.out, hmm.out]; rfl)
            clear hev htk
            go_wp2
            go_roundw
            case rel => exact ⟨j + 1, by omega, by go_num, _, _, _, DD, hq'⟩
            case measure => simp [intOf]; omega
          · as_aux_lemma =>
            go_wp2_with fail
            refine Rel.region_any Try.mixed fun w7 hb7 => ?_
            replace D := D.mono hb7
            replace lu := lu.mono hb7
            replace ly := ly.mono hb7
            replace lz := lz.mono hb7
            replace g9 := g9.mono hb7
            have hvS := hag.out.v
            have hbd := hag.out.bd
            refine Rel.any_held (fun W => W.cell? ⟨q, 0, none⟩ = some (.slice va Ls.length vc) ∧ W.cell? ⟨w.heap.size, 0, none⟩ = some (.int .u64 p)) 8 ⟨D.gq.cell (j := 0) (v := .slice va Ls.length vc) rfl, D.g0.cell (j := 0) (v := .int .u64 p) rfl⟩ fun hH0 => ?_
            refine Rel.heldTake (v := ?_) 0 rfl (by kernel_rfl) (by kernel_rfl) (by kernel_rfl) (fun _ _ _ h => h) (by assumption) (by rfl) ?_ ?_
            rotate_left
            · (intro W hSw; (try dsimp only at hSw); go_simp; try with_reducible rfl)
            try simp only [Act.put, List.setIfInBounds_toArray, List.set_cons_zero, List.set_cons_succ]
            refine Rel.heldTake (v := ?_) 1 rfl (by kernel_rfl) (by kernel_rfl) (by kernel_rfl) (fun _ _ _ h => h) (by assumption) (by rfl) ?_ ?_
            rotate_left
            · (intro W hSw; (try dsimp only at hSw); go_simp; try with_reducible rfl)
            try simp only [Act.put, List.setIfInBounds_toArray, List.set_cons_zero, List.set_cons_succ]
            refine Rel.heldTake (v := ?_) 2 rfl (by kernel_rfl) (by kernel_rfl) (by kernel_rfl) (fun _ _ _ h => h) (by assumption) (by rfl) ?_ ?_
            rotate_left
            · (intro W hSw; (try dsimp only at hSw); go_simp; try with_reducible rfl)
            try simp only [Act.put, List.setIfInBounds_toArray, List.set_cons_zero, List.set_cons_succ]
            refine Rel.heldTake (v := ?_) 3 rfl (by kernel_rfl) (by kernel_rfl) (by kernel_rfl) (fun _ _ _ h => h) (by assumption) (by rfl) ?_ ?_
            rotate_left
            · (intro W hSw; (try dsimp only at hSw); go_simp; try with_reducible rfl)
            try simp only [Act.put, List.setIfInBounds_toArray, List.set_cons_zero, List.set_cons_succ]
            refine Rel.heldTake (v := ?_) 4 rfl (by kernel_rfl) (by kernel_rfl) (by kernel_rfl) (fun _ _ _ h => h) (by assumption) (by rfl) ?_ ?_
            rotate_left
            · (intro W hSw; (try dsimp only at hSw); go_simp; try with_reducible rfl)
            try simp only [Act.put, List.setIfInBounds_toArray, List.set_cons_zero, List.set_cons_succ]
            refine Rel.heldNext 5 rfl (by kernel_rfl) fun K hK => ?_
            go_simp
            refine (gAdd_any p u y w7 lu.ok ly.ok (fun _ => by have := zu.out; have := zy.out; omega)).mono ?_
            rintro e w8 ⟨s, rfl, es, hs, hb8⟩
            have k8 := Kept.of_below hb8 D.below.size
            have hB8 := D.bld.mono hb8
            have D8 := D.kept k8 hB8
            have g98 := k8.typ _ _ _ g9 (by decide) (by decide) (by decide)
            refine hK.out _ _ ⟨D8.gq.cell (j := 0) (v := .slice va Ls.length vc) rfl, D8.g0.cell (j := 0) (v := .int .u64 p) rfl⟩ (fun hH1 => ?_)
            clear hK K
            try simp only [Act.put, List.setIfInBounds_toArray, List.set_cons_zero, List.set_cons_succ]
            refine Rel.heldNext 6 rfl (by kernel_rfl) fun K hK => ?_
            go_simp
            have D9 := D8.mono ((Below.refl _ _).alloc (Nat.le_refl _) (.cells #[lcV s] 44))
            have g99 := g98.mono ((Below.refl _ _).alloc (Nat.le_refl _) (.cells #[lcV s] 44))
            have hys : ∀ s' ∈ [s], LinT (w8.alloc (.cells #[lcV s] 44)) s' := fun s' h => by
              rw [List.mem_singleton] at h; subst h; exact hs.mono ((Below.refl _ _).alloc (Nat.le_refl _) _)
            refine hK.out _ _ ⟨D9.gq.cell (j := 0) (v := .slice va Ls.length vc) rfl, D9.g0.cell (j := 0) (v := .int .u64 p) rfl⟩ (fun hH2 => ?_)
            clear hK K
            try simp only [Act.put, List.setIfInBounds_toArray, List.set_cons_zero, List.set_cons_succ]
            refine Rel.heldNext 7 rfl (by kernel_rfl) fun K hK => ?_
            refine step_appGL lcL Ls [s] rfl _ _ 55 rfl w.heap.size 44 (.slice none 0 0) 24 Try.underlying55 Try.infoLc rfl (by decide) _ 1 1 (some ⟨w8.heap.size, 0, none⟩) rfl rfl rfl D9.ow (SlG.one (Blk.new _ _ _) rfl) (by have := hLh.out; simp; omega) D9.below.size ?_
            intro v' w9 own' hg'
            clear hH2
            obtain ⟨va', vc', ve', _⟩ := own'.sl
            simp only [List.length_append, List.length_cons, List.length_nil, Nat.zero_add] at ve'
            subst ve'
            have gq' := hg'.blk D9.gq (D9.ow.neq D9.gq (by decide))
            have fq' := gq'.free
            have cq' := gq'.cell (j := 0) (v := .slice va Ls.length vc) rfl
            have DD := D9.push (ys := [s]) hys hg' own'
            have kx' : KX XLn w.heap.size _ w9 := KX.grew D9.ow hg' xln1 D9.below.size
            have g0' := kx'.typ _ _ _ D9.g0 xlnS
            clear hg' own' D9
            refine hK.out _ _ ⟨cq', g0'.cell (j := 0) (v := .int .u64 p) rfl⟩ (fun hH3 => ?_)
            clear hK K
            try simp only [Act.put, List.setIfInBounds_toArray, List.set_cons_zero, List.set_cons_succ]
            refine Rel.heldLast 8 rfl (by kernel_rfl) rfl (by kernel_rfl) fun K hK => ?_
            go_simp
            refine hK.out _ _ ?_
            clear hK K hH0 hH1 hH3 fq' cq' gq'
            have hq' : Hid ((S, (Ls ++ [s]).map Lc.l) = runO p (ops.take (j + 1)) Q0) := hide (by
              rw [htk.out, runO_snoc, ← hev.out, stO_at (c := 11) hm, List.map_append, mu.out, my.out, mz.out]
              show (_, _ ++ [s.l]) = _; rw [es.out]; show _ = (S, _ ++ [addL S.p u.l y.l]); rw [hag.out.pp]; rfl)
            clear hev htk
            go_wp2
            go_roundw
            case rel => exact ⟨j + 1, by omega, by go_num, _, _, _, DD, hq'⟩
            case measure => simp [intOf]; omega
          · as_aux_lemma =>
            go_wp2_with fail
            refine Rel.region_any Try.mixed fun w7 hb7 => ?_
            replace D := D.mono hb7
            replace lu := lu.mono hb7
            replace ly := ly.mono hb7
            replace lz := lz.mono hb7
            replace g9 := g9.mono hb7
            have hvS := hag.out.v
            have hbd := hag.out.bd
            have hwu : IntKind.u64.wrap on = on := by rw [IntKind.wrap_u64]; omega
            refine Rel.any_held (fun W => W.cell? ⟨q, 0, none⟩ = some (.slice va Ls.length vc) ∧ W.cell? ⟨w.heap.size, 0, none⟩ = some (.int .u64 p) ∧ W.cell? ⟨wr.heap.size, 4, none⟩ = some (.int .u8 on)) 10 ⟨D.gq.cell (j := 0) (v := .slice va Ls.length vc) rfl, D.g0.cell (j := 0) (v := .int .u64 p) rfl, g9.cell (j := 4) (v := .int .u8 on) rfl⟩ fun hH0 => ?_
            refine Rel.heldTake (v := ?_) 0 rfl (by kernel_rfl) (by kernel_rfl) (by kernel_rfl) (fun _ _ _ h => h) (by assumption) (by rfl) ?_ ?_
            rotate_left
            · (intro W hSw; (try dsimp only at hSw); go_simp; try with_reducible rfl)
            try simp only [Act.put, List.setIfInBounds_toArray, List.set_cons_zero, List.set_cons_succ]
            refine Rel.heldTake (v := ?_) 1 rfl (by kernel_rfl) (by kernel_rfl) (by kernel_rfl) (fun _ _ _ h => h) (by assumption) (by rfl) ?_ ?_
            rotate_left
            · (intro W hSw; (try dsimp only at hSw); go_simp; try with_reducible rfl)
            try simp only [Act.put, List.setIfInBounds_toArray, List.set_cons_zero, List.set_cons_succ]
            refine Rel.heldTake (v := ?_) 2 rfl (by kernel_rfl) (by kernel_rfl) (by kernel_rfl) (fun _ _ _ h => h) (by assumption) (by rfl) ?_ ?_
            rotate_left
            · (intro W hSw; (try dsimp only at hSw); go_simp; try with_reducible rfl)
            try simp only [Act.put, List.setIfInBounds_toArray, List.set_cons_zero, List.set_cons_succ]
            refine Rel.heldTake (v := ?_) 3 rfl (by kernel_rfl) (by kernel_rfl) (by kernel_rfl) (fun _ _ _ h => h) (by assumption) (by rfl) ?_ ?_
            rotate_left
            · (intro W hSw; (try dsimp only at hSw); go_simp; try with_reducible rfl)
            try simp only [Act.put, List.setIfInBounds_toArray, List.set_cons_zero, List.set_cons_succ]
            refine Rel.heldTake (v := ?_) 4 rfl (by kernel_rfl) (by kernel_rfl) (by kernel_rfl) (fun _ _ _ h => h) (by assumption) (by rfl) ?_ ?_
            rotate_left
            · (intro W hSw; (try dsimp only at hSw); go_simp; try with_reducible rfl)
            try simp only [Act.put, List.setIfInBounds_toArray, List.set_cons_zero, List.set_cons_succ]
            refine Rel.heldTake (v := ?_) 5 rfl (by kernel_rfl) (by kernel_rfl) (by kernel_rfl) (fun _ _ _ h => h) (by assumption) (by rfl) ?_ ?_
            rotate_left
            · (intro W hSw; (try dsimp only at hSw); go_simp; try with_reducible rfl)
            try simp only [Act.put, List.setIfInBounds_toArray, List.set_cons_zero, List.set_cons_succ]
            refine Rel.heldTake (v := ?_) 6 rfl (by kernel_rfl) (by kernel_rfl) (by kernel_rfl) (fun _ _ _ h => h) (by assumption) (by rfl) ?_ ?_
            rotate_left
            · (intro W hSw; (try dsimp only at hSw); go_simp; try with_reducible rfl)
            try simp only [Act.put, List.setIfInBounds_toArray, List.set_cons_zero, List.set_cons_succ]
            refine Rel.heldNext 7 rfl (by kernel_rfl) fun K hK => ?_
            go_simp
            refine (gScale_any p on u w7 lu.ok (fun _ => by have := zu.out; omega) ⟨by omega, by omega⟩).mono ?_
            rintro e w8 ⟨s, rfl, es, hs, hb8⟩
            have k8 := Kept.of_below hb8 D.below.size
            have hB8 := D.bld.mono hb8
            have D8 := D.kept k8 hB8
            have g98 := k8.typ _ _ _ g9 (by decide) (by decide) (by decide)
            refine hK.out _ _ ⟨D8.gq.cell (j := 0) (v := .slice va Ls.length vc) rfl, D8.g0.cell (j := 0) (v := .int .u64 p) rfl, g98.cell (j := 4) (v := .int .u8 on) rfl⟩ (fun hH1 => ?_)
            clear hK K
            try simp only [Act.put, List.setIfInBounds_toArray, List.set_cons_zero, List.set_cons_succ]
            refine Rel.heldNext 8 rfl (by kernel_rfl) fun K hK => ?_
            go_simp
            have D9 := D8.mono ((Below.refl _ _).alloc (Nat.le_refl _) (.cells #[lcV s] 44))
            have g99 := g98.mono ((Below.refl _ _).alloc (Nat.le_refl _) (.cells #[lcV s] 44))
            have hys : ∀ s' ∈ [s], LinT (w8.alloc (.cells #[lcV s] 44)) s' := fun s' h => by
              rw [List.mem_singleton] at h; subst h; exact hs.mono ((Below.refl _ _).alloc (Nat.le_refl _) _)
            refine hK.out _ _ ⟨D9.gq.cell (j := 0) (v := .slice va Ls.length vc) rfl, D9.g0.cell (j := 0) (v := .int .u64 p) rfl, g99.cell (j := 4) (v := .int .u8 on) rfl⟩ (fun hH2 => ?_)
            clear hK K
            try simp only [Act.put, List.setIfInBounds_toArray, List.set_cons_zero, List.set_cons_succ]
            refine Rel.heldNext 9 rfl (by kernel_rfl) fun K hK => ?_
            refine step_appGL lcL Ls [s] rfl _ _ 55 rfl w.heap.size 44 (.slice none 0 0) 24 Try.underlying55 Try.infoLc rfl (by decide) _ 1 1 (some ⟨w8.heap.size, 0, none⟩) rfl rfl rfl D9.ow (SlG.one (Blk.new _ _ _) rfl) (by have := hLh.out; simp; omega) D9.below.size ?_
            intro v' w9 own' hg'
            clear hH2
            obtain ⟨va', vc', ve', _⟩ := own'.sl
            simp only [List.length_append, List.length_cons, List.length_nil, Nat.zero_add] at ve'
            subst ve'
            have gq' := hg'.blk D9.gq (D9.ow.neq D9.gq (by decide))
            have fq' := gq'.free
            have cq' := gq'.cell (j := 0) (v := .slice va Ls.length vc) rfl
            have DD := D9.push (ys := [s]) hys hg' own'
            have kx' : KX XLn w.heap.size _ w9 := KX.grew D9.ow hg' xln1 D9.below.size
            have g0' := kx'.typ _ _ _ D9.g0 xlnS
            have g9' := kx'.typ _ _ _ g99 xlnO
            clear hg' own' D9
            refine hK.out _ _ ⟨cq', g0'.cell (j := 0) (v := .int .u64 p) rfl, g9'.cell (j := 4) (v := .int .u8 on) rfl⟩ (fun hH3 => ?_)
            clear hK K
            try simp only [Act.put, List.setIfInBounds_toArray, List.set_cons_zero, List.set_cons_succ]
            refine Rel.heldLast 10 rfl (by kernel_rfl) rfl (by kernel_rfl) fun K hK => ?_
            go_simp
            refine hK.out _ _ ?_
            clear hK K hH0 hH1 hH3 fq' cq' gq'
            have hq' : Hid ((S, (Ls ++ [s]).map Lc.l) = runO p (ops.take (j + 1)) Q0) := hide (by
              rw [htk.out, runO_snoc, ← hev.out, stO_at (c := 12) hm, List.map_append, mu.out, my.out, mz.out]
              show (_, _ ++ [s.l]) = _; rw [es.out]; show _ = (S, _ ++ [addP S.p [] u.l on]); rw [hag.out.pp])
            clear hev htk
            go_wp2
            go_roundw
            case rel => exact ⟨j + 1, by omega, by go_num, _, _, _, DD, hq'⟩
            case measure => simp [intOf]; omega
          · as_aux_lemma =>
            go_wp2_with fail
            refine Rel.region_any Try.mixed fun w7 hb7 => ?_
            replace D := D.mono hb7
            replace lu := lu.mono hb7
            replace ly := ly.mono hb7
            replace lz := lz.mono hb7
            replace g9 := g9.mono hb7
            have hvS := hag.out.v
            have hbd := hag.out.bd
            have hm4 := mod_lt' (show (0 : Int) < 4 by decide) on
            obtain ⟨m, hmm⟩ : ∃ m : Nat, (m : Int) = on % 4 := ⟨(on % 4).toNat, by omega⟩
            have hmt : on.tmod 4 = (m : Int) := by rw [Int.tmod_eq_emod_of_nonneg hn1, hmm]
            have hm3 : (m : Int) ≤ 3 := by omega
            have hwu : IntKind.u64.wrap on = on := by rw [IntKind.wrap_u64]; omega
            have hwi : IntKind.i64.wrap on = on := by rw [IntKind.wrap_i64]; omega
            have hm0 : (0 : Int) ≤ (m : Int) := by omega
            obtain ⟨Vs, hVs⟩ : ∃ Vs, Vs = [u, y, z].take m := ⟨_, rfl⟩
            have hVl : Vs.length = m := by rw [hVs, List.length_take]; simp; omega
            have hVm : ∀ s ∈ Vs, s = u ∨ s = y ∨ s = z := fun s hs => by
              rw [hVs] at hs
              have := List.mem_of_mem_take hs
              simpa using this
            have hVe : Hid (Vs.map Lc.l = [u.l, y.l, z.l].take (on % 4).toNat) := hide (by rw [hVs, ← hmm, Int.toNat_natCast, List.map_take]; rfl)
            have cH := fun W (D : RG w W b q p pub sec (some ⟨q2, off2, none⟩) ops.length lc S (.slice va Ls.length vc) Ls) g (gV : Blk W g #[lcV u, lcV y, lcV z] 44) (l1 : LinT W u) (l2 : LinT W y) (l3 : LinT W z) => Hash20_any w.heap.size b g S _ on (some ⟨g, 0, none⟩) 3 Vs W D.bld hvS hbd (by omega) ⟨by omega, by omega⟩ (OwnG.of_blk (cap := 3) (Nat.le_refl g) gV (by omega) (by decide) rfl (by rw [hVl, hVs, show m * lcL.m = m from Nat.mul_one m, flat1]; show List.take m (List.map lcV [u, y, z]) = _; exact List.map_take.symm)) (fun s hs => by rcases hVm s hs with rfl | rfl | rfl <;> assumption) (fun s hs => by have := zu.out; have := zy.out; have := zz.out; rcases hVm s hs with rfl | rfl | rfl <;> omega) (by omega)
            rw [hVl, hVe.out] at cH
            clear hVs hVl hVm hm4
            replace hmm := hide hmm
            refine Rel.any_held (fun W => W.cell? ⟨q, 0, none⟩ = some (.slice va Ls.length vc) ∧ W.cell? ⟨wr.heap.size, 4, none⟩ = some (.int .u8 on)) 17 ⟨D.gq.cell (j := 0) (v := .slice va Ls.length vc) rfl, g9.cell (j := 4) (v := .int .u8 on) rfl⟩ fun hH0 => ?_
            refine Rel.heldTake (v := ?_) 0 rfl (by kernel_rfl) (by kernel_rfl) (by kernel_rfl) (fun _ _ _ h => h) (by assumption) (by rfl) ?_ ?_
            rotate_left
            · (intro W hSw; (try dsimp only at hSw); go_simp; try with_reducible rfl)
            try simp only [Act.put, List.setIfInBounds_toArray, List.set_cons_zero, List.set_cons_succ]
            refine Rel.heldTake (v := ?_) 1 rfl (by kernel_rfl) (by kernel_rfl) (by kernel_rfl) (fun _ _ _ h => h) (by assumption) (by rfl) ?_ ?_
            rotate_left
            · (intro W hSw; (try dsimp only at hSw); go_simp; try with_reducible rfl)
            try simp only [Act.put, List.setIfInBounds_toArray, List.set_cons_zero, List.set_cons_succ]
            refine Rel.heldTake (v := ?_) 2 rfl (by kernel_rfl) (by kernel_rfl) (by kernel_rfl) (fun _ _ _ h => h) (by assumption) (by rfl) ?_ ?_
            rotate_left
            · (intro W hSw; (try dsimp only at hSw); go_simp; try with_reducible rfl)
            try simp only [Act.put, List.setIfInBounds_toArray, List.set_cons_zero, List.set_cons_succ]
            refine Rel.heldTake (v := ?_) 3 rfl (by kernel_rfl) (by kernel_rfl) (by kernel_rfl) (fun _ _ _ h => h) (by assumption) (by rfl) ?_ ?_
            rotate_left
            · (intro W hSw; (try dsimp only at hSw); go_simp; try with_reducible rfl)
            try simp only [Act.put, List.setIfInBounds_toArray, List.set_cons_zero, List.set_cons_succ]
            refine Rel.heldTake (v := ?_) 4 rfl (by kernel_rfl) (by kernel_rfl) (by kernel_rfl) (fun _ _ _ h => h) (by assumption) (by rfl) ?_ ?_
            rotate_left
            · (intro W hSw; (try dsimp only at hSw); go_simp; try with_reducible rfl)
            try simp only [Act.put, List.setIfInBounds_toArray, List.set_cons_zero, List.set_cons_succ]
            refine Rel.heldTake (v := ?_) 5 rfl (by kernel_rfl) (by kernel_rfl) (by kernel_rfl) (fun _ _ _ h => h) (by assumption) (by rfl) ?_ ?_
            rotate_left
            · (intro W hSw; (try dsimp only at hSw); go_simp; try with_reducible rfl)
            try simp only [Act.put, List.setIfInBounds_toArray, List.set_cons_zero, List.set_cons_succ]
            refine Rel.heldTake (v := ?_) 6 rfl (by kernel_rfl) (by kernel_rfl) (by kernel_rfl) (fun _ _ _ h => h) (by assumption) (by rfl) ?_ ?_
            rotate_left
            · (intro W hSw; (try dsimp only at hSw); go_simp; try with_reducible rfl)
            try simp only [Act.put, List.setIfInBounds_toArray, List.set_cons_zero, List.set_cons_succ]
            refine Rel.heldTake (v := ?_) 7 rfl (by kernel_rfl) (by kernel_rfl) (by kernel_rfl) (fun _ _ _ h => h) (by assumption) (by rfl) ?_ ?_
            rotate_left
            · (intro W hSw; (try dsimp only at hSw); go_simp; try with_reducible rfl)
            try simp only [Act.put, List.setIfInBounds_toArray, List.set_cons_zero, List.set_cons_succ]
            refine Rel.heldTake (v := ?_) 9 rfl (by kernel_rfl) (by kernel_rfl) (by kernel_rfl) (fun _ _ _ h => h) (by assumption) (by rfl) ?_ ?_
            rotate_left
            · (intro W hSw; (try dsimp only at hSw); go_simp; try with_reducible rfl)
            try simp only [Act.put, List.setIfInBounds_toArray, List.set_cons_zero, List.set_cons_succ]
            refine Rel.heldTake (v := ?_) 10 rfl (by kernel_rfl) (by kernel_rfl) (by kernel_rfl) (fun _ _ _ h => h) (by assumption) (by rfl) ?_ ?_
            rotate_left
            · (intro W hSw; (try dsimp only at hSw); go_simp; try with_reducible rfl)
            try simp only [Act.put, List.setIfInBounds_toArray, List.set_cons_zero, List.set_cons_succ]
            refine Rel.heldTake (v := ?_) 11 rfl (by kernel_rfl) (by kernel_rfl) (by kernel_rfl) (fun _ _ _ h => h) (by assumption) (by rfl) ?_ ?_
            rotate_left
            · (intro W hSw; (try dsimp only at hSw); go_simp; try with_reducible rfl)
            try simp only [Act.put, List.setIfInBounds_toArray, List.set_cons_zero, List.set_cons_succ]
            refine Rel.heldTake (v := ?_) 12 rfl (by kernel_rfl) (by kernel_rfl) (by kernel_rfl) (fun _ _ _ h => h) (by assumption) (by rfl) ?_ ?_
            rotate_left
            · (intro W hSw; (try dsimp only at hSw); go_simp; try with_reducible rfl)
            try simp only [Act.put, List.setIfInBounds_toArray, List.set_cons_zero, List.set_cons_succ]
            refine Rel.heldNext 8 rfl (by kernel_rfl) fun K hK => ?_
            go_simp
            have hbA : Below w7.heap.size w7 (w7.alloc (.cells #[lcV u, lcV y, lcV z] 44)) := (Below.refl _ _).alloc (Nat.le_refl _) _
            replace D := D.mono hbA
            replace lu := lu.mono hbA
            replace ly := ly.mono hbA
            replace lz := lz.mono hbA
            replace g9 := g9.mono hbA
            refine hK.out _ _ ⟨D.gq.cell (j := 0) (v := .slice va Ls.length vc) rfl, g9.cell (j := 4) (v := .int .u8 on) rfl⟩ (fun hHW => ?_)
            clear hK K
            try simp only [Act.put, List.setIfInBounds_toArray, List.set_cons_zero, List.set_cons_succ]
            clear hH0
            refine Rel.heldTake (v := ?_) 13 rfl (by kernel_rfl) (by kernel_rfl) (by kernel_rfl) (fun _ _ _ h => h) (by assumption) (by rfl) ?_ ?_
            rotate_left
            · (intro W hSw; (try dsimp only at hSw); go_simp; try with_reducible rfl)
            try simp only [Act.put, List.setIfInBounds_toArray, List.set_cons_zero, List.set_cons_succ]
            refine Rel.heldNext 14 rfl (by kernel_rfl) fun K hK => ?_
            go_simp
            refine (cH _ D _ (Blk.new _ _ _) lu ly lz).mono ?_
            rintro e w8 ⟨s, rfl, es, hs, hB8, k8⟩
            clear cH
            have D8 := D.kept k8 hB8
            have g98 := k8.typ _ _ _ g9 (by decide) (by decide) (by decide)
            refine hK.out _ _ ⟨D8.gq.cell (j := 0) (v := .slice va Ls.length vc) rfl, g98.cell (j := 4) (v := .int .u8 on) rfl⟩ (fun hH1 => ?_)
            clear hK K
            try simp only [Act.put, List.setIfInBounds_toArray, List.set_cons_zero, List.set_cons_succ]
            refine Rel.heldNext 15 rfl (by kernel_rfl) fun K hK => ?_
            go_simp
            have D9 := D8.mono ((Below.refl _ _).alloc (Nat.le_refl _) (.cells #[lcV s] 44))
            have g99 := g98.mono ((Below.refl _ _).alloc (Nat.le_refl _) (.cells #[lcV s] 44))
            have hys : ∀ s' ∈ [s], LinT (w8.alloc (.cells #[lcV s] 44)) s' := fun s' h => by
              rw [List.mem_singleton] at h; subst h; exact hs.mono ((Below.refl _ _).alloc (Nat.le_refl _) _)
            refine hK.out _ _ ⟨D9.gq.cell (j := 0) (v := .slice va Ls.length vc) rfl, g99.cell (j := 4) (v := .int .u8 on) rfl⟩ (fun hH2 => ?_)
            clear hK K
            try simp only [Act.put, List.setIfInBounds_toArray, List.set_cons_zero, List.set_cons_succ]
            refine Rel.heldNext 16 rfl (by kernel_rfl) fun K hK => ?_
            refine step_appGL lcL Ls [s] rfl _ _ 55 rfl w.heap.size 44 (.slice none 0 0) 24 Try.underlying55 Try.infoLc rfl (by decide) _ 1 1 (some ⟨w8.heap.size, 0, none⟩) rfl rfl rfl D9.ow (SlG.one (Blk.new _ _ _) rfl) (by have := hLh.out; simp; omega) D9.below.size ?_
            intro v' w9 own' hg'
            clear hH2
            obtain ⟨va', vc', ve', _⟩ := own'.sl
            simp only [List.length_append, List.length_cons, List.length_nil, Nat.zero_add] at ve'
            subst ve'
            have gq' := hg'.blk D9.gq (D9.ow.neq D9.gq (by decide))
            have fq' := gq'.free
            have cq' := gq'.cell (j := 0) (v := .slice va Ls.length vc) rfl
            have DD := D9.push (ys := [s]) hys hg' own'
            have kx' : KX XLn w.heap.size _ w9 := KX.grew D9.ow hg' xln1 D9.below.size
            have g0' := kx'.typ _ _ _ D9.g0 xlnS
            have g9' := kx'.typ _ _ _ g99 xlnO
            clear hg' own' D9
            refine hK.out _ _ ⟨cq', g9'.cell (j := 4) (v := .int .u8 on) rfl⟩ (fun hH3 => ?_)
            clear hK K
            try simp only [Act.put, List.setIfInBounds_toArray, List.set_cons_zero, List.set_cons_succ]
            refine Rel.heldLast 17 rfl (by kernel_rfl) rfl (by kernel_rfl) fun K hK => ?_
            go_simp
            refine hK.out _ _ ?_
            clear hK K hHW hH1 hH3 fq' cq' gq'
            have hq' : Hid (((gHash S on ([u.l, y.l, z.l].take (on % 4).toNat)).1, (Ls ++ [s]).map Lc.l) = runO p (ops.take (j + 1)) Q0) := hide (by
              rw [htk.out, runO_snoc, ← hev.out, stO_at (c := 13) hm, List.map_append, mu.out, my.out, mz.out]
              show (_, _ ++ [s.l]) = _; rw [es.out]; rfl)
            clear hev htk
            go_wp2
            go_roundw
            case rel => exact ⟨j + 1, by omega, by go_num, _, _, _, DD, hq'⟩
            case measure => simp [intOf]; omega
        · obtain rfl : j = ops.length := by omega
          rw [List.take_length] at hev
          have kv := cell_later' (D.gq.cell (j := 0) (v := v) rfl)
          go_wp2_with fail
          refine wp_region_later Try.mixed (by kernel_rfl) ?_
          repeat (first | go_big_quiet_step (first | fail) | quiet_step (first | fail))
          refine wpQuiet_nil ?_
          intro w5 hb5
          replace hb5 := below_of_later hb5
          go_wp2
          exact bodyPost_ret (v := .tuple #[.pointer (some ⟨b, 0, none⟩), v]) (by simp [results, Try.results40, go_sem]) rfl ⟨b, v, Ls, rfl, by rw [← hev.out]; exact D.bld.mono hb5, D.ow.mono hb5, fun s h => (D.ls s h).mono hb5, hide (by rw [← hev.out]), below2 D.below hb5⟩
end Go.Proofs.Ytlgjnidphldiiaa
