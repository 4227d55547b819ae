/- Trees of leaves: awake. -/
import Derived.Test.YthkdaoomnfgooaaTreeC
import Derived.Test.YthkdaoomnfgooaaOpen
import Derived.Deep.SlicePairs
namespace Go.Proofs.Ythkdaoomnfgooaa
open Go.RowKit

theorem keep_own {w w' : World} {base bV d : Nat} {vs vs' : Nat → Value} {E : TypeId} {k : IntKind} {v : Value} {xs : List Int} (hk : Keep (inLog bV d vs) w w') (hi : ∀ i, inLog bV d vs' i → inLog bV d vs i ∨ w.heap.size ≤ i) (o : Own w base E k v xs) (hn : ∀ g, v.ownBlock = some g → ¬ inLog bV d vs g) :
    Own w' base E k v xs ∧ ∀ g, v.ownBlock = some g → ¬ inLog bV d vs' g :=
  ⟨hk.own o hn, fun g e h => by
    rcases hi g h with h1 | h1
    · exact hn g e h1
    · have := (o.lt e).2; omega⟩

set_option maxRecDepth 10000 in
set_option maxHeartbeats 4000000 in
theorem awake37 (w : World) : Calls Try.prog 42 #[] w fun e w' => e = .returned (.bool true) ∧ Below w.heap.size w w' := by
  have cN := TNew_any 1 w (by decide) (by decide)
  have c0 := fun W : World => rHash_any big 6 none 0 [] W (by decide) (by decide) (Sl.nil _ _ _) (fun x hx => by cases hx) (by decide)
  have e0 : hash big 6 [] = emp 0 := rfl
  rw [e0] at c0
  have hEb := emp_bd 0
  have cA5 : ∀ (base bL bV : Nat) (vs : Nat → Value) (W : World), (LogS W base bL bV 1 vs fun k => lev k []) → base ≤ W.heap.size → Calls Try.prog 45 #[.pointer (some ⟨bL, 0, none⟩), .int .u64 5] W fun e w' => e = .returned (.int .i64 0) ∧ LogR W w' base bL bV 1 vs fun k => lev k [5] := fun base bL bV vs W h hb => by
    have := TAppend_any W base bL bV 1 vs [] 5 h (by decide) (by decide) ⟨by decide, by decide⟩ (by decide) (fun x hx => by cases hx) hb
    rw [show tappE 1 [] 5 = 0 by decide, show tappL 1 [] 5 = [5] by decide] at this
    exact this
  have cA6 : ∀ (base bL bV : Nat) (vs : Nat → Value) (W : World), (LogS W base bL bV 1 vs fun k => lev k [5]) → base ≤ W.heap.size → Calls Try.prog 45 #[.pointer (some ⟨bL, 0, none⟩), .int .u64 6] W fun e w' => e = .returned (.int .i64 0) ∧ LogR W w' base bL bV 1 vs fun k => lev k [5, 6] := fun base bL bV vs W h hb => by
    have := TAppend_any W base bL bV 1 vs [5] 6 h (by decide) (by decide) ⟨by decide, by decide⟩ (by decide) (fun x hx => by rw [List.mem_singleton.1 hx]; decide) hb
    rw [show tappE 1 [5] 6 = 0 by decide, show tappL 1 [5] 6 = [5, 6] by decide] at this
    exact this
  have cA7 : ∀ (base bL bV : Nat) (vs : Nat → Value) (W : World), (LogS W base bL bV 1 vs fun k => lev k [5, 6]) → base ≤ W.heap.size → Calls Try.prog 45 #[.pointer (some ⟨bL, 0, none⟩), .int .u64 7] W fun e w' => e = .returned (.int .i64 16) ∧ LogR W w' base bL bV 1 vs fun k => lev k [5, 6] := fun base bL bV vs W h hb => by
    have := TAppend_any W base bL bV 1 vs [5, 6] 7 h (by decide) (by decide) ⟨by decide, by decide⟩ (by decide) (pair_W ⟨by decide, by decide⟩ ⟨by decide, by decide⟩) hb
    rw [show tappE 1 [5, 6] 7 = 16 by decide, show tappL 1 [5, 6] 7 = [5, 6] by decide] at this
    exact this
  have cC1 : ∀ (base bL bV : Nat) (vs : Nat → Value) (W : World), (LogS W base bL bV 1 vs fun k => lev k [5, 6]) → base ≤ W.heap.size → Calls Try.prog 51 #[.pointer (some ⟨bL, 0, none⟩), .int .i64 1] W fun e w' => e = .returned (.int .i64 0) ∧ LogR W w' base bL bV 1 vs fun k => lev k [5] := fun base bL bV vs W h hb => by
    have := TTruncate_any W base bL bV 1 vs [5, 6] 1 h (by decide) (by decide) (by decide) (pair_W ⟨by decide, by decide⟩ ⟨by decide, by decide⟩) hb
    rw [show tcutE [5, 6] 1 = 0 by decide, show tcutL [5, 6] 1 = [5] by decide] at this
    exact this
  obtain ⟨E, hE⟩ : ∃ E, E = emp 0 := ⟨_, rfl⟩
  have cP5 : ∀ (base bL bV : Nat) (vs : Nat → Value) (W : World), (LogS W base bL bV 1 vs fun k => lev k [5]) → Calls Try.prog 46 #[.pointer (some ⟨bL, 0, none⟩), .int .i64 0] W (RetP W [E] 0) := fun base bL bV vs W h => by
    have := TPath_any W base bL bV 1 vs [5] 0 h (by decide) (by decide) (by decide)
    rw [show tpathV 1 [5] 0 = [E] by rw [hE]; simp [tpathV, leafOk, tpath, List.range_succ, sib, dig], show tpathE [5] 0 = 0 by decide] at this
    exact this
  have cP6 : ∀ (base bL bV : Nat) (vs : Nat → Value) (W : World), (LogS W base bL bV 1 vs fun k => lev k [5, 6]) → Calls Try.prog 46 #[.pointer (some ⟨bL, 0, none⟩), .int .i64 0] W (RetP W [6] 0) := fun base bL bV vs W h => by
    have := TPath_any W base bL bV 1 vs [5, 6] 0 h (by decide) (by decide) (by decide)
    rw [show tpathV 1 [5, 6] 0 = [6] by simp [tpathV, leafOk, tpath, List.range_succ, sib, dig], show tpathE [5, 6] 0 = 0 by decide] at this
    exact this
  obtain ⟨R, hR⟩ : ∃ R, R = nd 5 E := ⟨_, rfl⟩
  have cR5 : ∀ (base bL bV : Nat) (vs : Nat → Value) (W : World), (LogS W base bL bV 1 vs fun k => lev k [5]) → Calls Try.prog 48 #[.pointer (some ⟨bL, 0, none⟩)] W fun e w' => e = .returned (.int .u64 R) ∧ Below W.heap.size W w' := fun base bL bV vs W h => by
    have := TRoot_any W base bL bV 1 vs [5] h (by decide) (by decide)
    rw [show dig 1 0 [5] = R by rw [hR, hE]; simp [dig]] at this
    exact this
  rw [← hE] at c0 hEb
  have c1 := fun (ad : Option Addr) (W : World) h => rHash_any big 6 ad 2 [5, E] W (by decide) (by decide) h (pair_W ⟨by decide, by decide⟩ hEb) (by simp)
  have e1 : hash big 6 [5, E] = R := by rw [hR]; rfl
  rw [e1] at c1
  have cS := fun (x : Int) (ad ad' : Option Addr) (c c' : Nat) (W : World) hs ht => rSame1_any ad ad' c c' [x] [x] W hs ht (by simp)
  simp only at cS
  have cSE := cS E
  have cS6 := cS 6
  have hRR : (R == R) = true := by simp
  clear e0 hE hR e1 hEb cS
  go_enter Try.func42, Try.ntmps42
  go_wp2_with fail
  refine cN.mono ?_
  rintro e w1 ⟨bL, bV, vs, rfl, T, hB⟩
  clear cN
  go_wp2_with fail
  refine (cA5 _ _ _ _ _ T hB.size).mono ?_
  rintro e w2 ⟨rfl, vs2, T2, i2, k2⟩
  replace hB := k2.below hB (fun i hi => T.low i hi) hB.size
  clear cA5 T i2 k2 vs
  go_wp2_with fail
  refine (c0 w2).mono ?_
  rintro e w3 ⟨rfl, hb3⟩
  replace hB := below2 hB hb3
  replace T2 := T2.mono hb3
  clear c0 hb3
  go_wp2_with fail
  refine name_calls fun W hW => ?_
  replace hB : Below w.heap.size w W := by rw [hW]; exact hB.alloc hB.size _
  replace T2 : LogS W w.heap.size bL bV 1 vs2 fun k => lev k [5] := by rw [hW]; exact T2.alloc _
  have g0 : Blk W w3.heap.size #[.int .u64 5, .int .u64 E] 30 := by rw [hW]; exact Blk.newAt rfl
  have s0 := Sl.blk (k := .u64) [5, E] g0 rfl
  clear hW g0
  refine (c1 _ W s0).mono ?_
  rintro e w4 ⟨rfl, hb4⟩
  replace hB := below2 hB hb4
  replace T2 := T2.mono hb4
  clear c1 hb4 s0
  go_wp2_with fail
  refine (cP5 _ _ _ _ w4 T2).mono ?_
  rintro e w5 ⟨va, rfl, oa, hb5⟩
  obtain ⟨aa, ca, rfl, _, _, _⟩ := Own.sl oa
  have na : ∀ g, (Value.slice aa [E].length ca).ownBlock = some g → ¬ inLog bV 1 vs2 g := fun g e hi => by have := (oa.lt e).1; have := T2.lt g hi; omega
  replace oa := oa.low hB.size
  replace hB := below2 hB hb5
  replace T2 := T2.mono hb5
  clear hb5
  go_wp2_with fail
  refine (cR5 _ _ _ _ w5 T2).mono ?_
  rintro e w6 ⟨rfl, hb6⟩
  replace hB := below2 hB hb6
  replace T2 := T2.mono hb6
  replace oa := oa.mono hb6
  clear hb6
  go_wp2_with fail
  refine (cA6 _ _ _ _ w6 T2 hB.size).mono ?_
  rintro e w7 ⟨rfl, vs7, T7, i7, k7⟩
  replace hB := k7.below hB (fun i hi => T2.low i hi) hB.size
  replace na := keep_own k7 i7 oa na
  replace oa := na.1
  replace na := na.2
  clear cA6 T2 i7 k7
  go_wp2_with fail
  refine (cA7 _ _ _ _ w7 T7 hB.size).mono ?_
  rintro e w8 ⟨rfl, vs8, T8, i8, k8⟩
  replace hB := k8.below hB (fun i hi => T7.low i hi) hB.size
  replace na := keep_own k8 i8 oa na
  replace oa := na.1
  replace na := na.2
  clear cA7 T7 i8 k8 vs7
  go_wp2_with fail
  refine (cP6 _ _ _ _ w8 T8).mono ?_
  rintro e w9 ⟨vb, rfl, ob, hb9⟩
  obtain ⟨ab, cb, rfl, _, _, _⟩ := Own.sl ob
  have nb : ∀ g, (Value.slice ab [6].length cb).ownBlock = some g → ¬ inLog bV 1 vs8 g := fun g e hi => by have := (ob.lt e).1; have := T8.lt g hi; omega
  replace ob := ob.low hB.size
  replace hB := below2 hB hb9
  replace T8 := T8.mono hb9
  replace oa := oa.mono hb9
  clear hb9 cP6
  go_wp2_with fail
  refine (cC1 _ _ _ _ w9 T8 hB.size).mono ?_
  rintro e w10 ⟨rfl, vs10, T10, i10, k10⟩
  replace hB := k10.below hB (fun i hi => T8.low i hi) hB.size
  replace na := keep_own k10 i10 oa na
  replace oa := na.1
  replace na := na.2
  replace nb := keep_own k10 i10 ob nb
  replace ob := nb.1
  replace nb := nb.2
  clear cC1 T8 i10 k10 vs8
  go_wp2_with fail
  refine (cP5 _ _ _ _ w10 T10).mono ?_
  rintro e w11 ⟨vc, rfl, oc, hb11⟩
  obtain ⟨ac, cc, rfl, _, _, _⟩ := Own.sl oc
  replace oc := oc.low hB.size
  replace hB := below2 hB hb11
  replace T10 := T10.mono hb11
  replace oa := oa.mono hb11
  replace ob := ob.mono hb11
  clear hb11 cP5 na nb
  go_wp2_with fail
  refine (cR5 _ _ _ _ w11 T10).mono ?_
  rintro e w12 ⟨rfl, hb12⟩
  replace hB := below2 hB hb12
  replace oa := oa.mono hb12
  replace ob := ob.mono hb12
  replace oc := oc.mono hb12
  clear hb12 cR5 T10
  obtain ⟨_, _, he, sa, _, _⟩ := Own.sl oa
  injection he with he1 he2 he3
  subst he1
  clear he2 he3
  obtain ⟨_, _, he, sb, _, _⟩ := Own.sl ob
  injection he with he1 he2 he3
  subst he1
  clear he2 he3
  obtain ⟨_, _, he, sc, _, _⟩ := Own.sl oc
  injection he with he1 he2 he3
  subst he1
  clear he2 he3 oa ob oc
  go_wp2_with fail
  refine name_calls fun W2 hW => ?_
  have gn : Blk W2 w12.heap.size #[.int .u64 E] 30 := by rw [hW]; exact Blk.newAt rfl
  replace hB : Below w.heap.size w W2 := by rw [hW]; exact hB.alloc hB.size _
  replace sa : Sl W2 .u64 aa [E] := by rw [hW]; exact sa.alloc _
  replace sb : Sl W2 .u64 ab [6] := by rw [hW]; exact sb.alloc _
  replace sc : Sl W2 .u64 ac [E] := by rw [hW]; exact sc.alloc _
  have sn := Sl.blk (k := .u64) [E] gn rfl
  clear hW gn
  refine (cSE _ _ _ _ W2 sa sn).mono ?_
  rintro e w13 ⟨rfl, hb13⟩
  replace hB := below2 hB hb13
  replace sa := sa.mono hb13
  replace sb := sb.mono hb13
  replace sc := sc.mono hb13
  clear hb13 sn
  go_wp2_with fail
  refine name_calls fun W3 hW => ?_
  have gn : Blk W3 w13.heap.size #[.int .u64 6] 30 := by rw [hW]; exact Blk.newAt rfl
  replace hB : Below w.heap.size w W3 := by rw [hW]; exact hB.alloc hB.size _
  replace sa : Sl W3 .u64 aa [E] := by rw [hW]; exact sa.alloc _
  replace sb : Sl W3 .u64 ab [6] := by rw [hW]; exact sb.alloc _
  replace sc : Sl W3 .u64 ac [E] := by rw [hW]; exact sc.alloc _
  have sn := Sl.blk (k := .u64) [6] gn rfl
  clear hW gn
  refine (cS6 _ _ _ _ W3 sb sn).mono ?_
  rintro e w14 ⟨rfl, hb14⟩
  replace hB := below2 hB hb14
  replace sa := sa.mono hb14
  replace sc := sc.mono hb14
  clear hb14 sn sb cS6
  go_wp2_with fail
  refine (cSE _ _ _ _ w14 sc sa).mono ?_
  rintro e w15 ⟨rfl, hb15⟩
  replace hB := below2 hB hb15
  clear hb15 sa sc cSE
  go_wp2
  go_ret
  exact ⟨rfl, hB⟩

end Go.Proofs.Ythkdaoomnfgooaa

/- A slice of operations as a law's parameter. -/
namespace Go.Proofs.Ythkdaoomnfgooaa
open Go.ChangeShapes Go.WideShapes Go.ChangeAt Go.RowKit

/-- A parameter that is a slice of operations. -/
structure OpP (w : World) (a : Option Addr) (c : Nat) (ops : List (Bool × Int)) : Prop where
  s : OpS w a ops
  w : OpsW ops
  le : ops.length ≤ c

def pairOf : Value → Value → Bool × Int
  | .bool b, .int _ n => (b, n)
  | _, _ => (false, 0)

section
variable {H : Type} {enc : TypeId × Value → H} {P : Program} {w : World}

theorem open_ops {r : Reach} {b0 : Nat} {t e : TypeId} {f0 f1 : Field} {v : Value} {d : DataW H} {ps : List MemPlace} (ht : P.underlying t = some (.slice e)) (he : P.underlying e = some (.struct #[f0, f1]))
    (ce : P.cellsOf e = 2) (o0 : f0.offset = 0) (o1 : f1.offset = 1) (c0 : P.cellsOf f0.type = 1) (c1 : P.cellsOf f1.type = 1) (hb : P.underlying f0.type = some .bool) (hi : P.underlying f1.type = some (.int .u64))
    (hd : DataW.Trod enc P w 0 (fun _ => true) true t v d ps) (hval : Value.okWide P w r b0 t v) :
    ∃ (ad : Option Addr) (c : Nat) (ops : List (Bool × Int)), v = .slice ad ops.length c ∧ OpP w ad c ops := by
  obtain ⟨a, len, cap, rfl⟩ := okWide_slice ht hval
  obtain ⟨fuel, hf⟩ := hd
  have hcells : (Value.slice a len cap).cells.toList = [.slice a len cap] := by simp [Value.cells]
  rw [hcells] at hf
  rcases Deep.open_slice_pairs ht he ce o0 o1 c0 c1 hf with ⟨h1, _⟩ | ⟨a', len', cap', m, n, V0, V1, D0, D1, P0, P1, h1, _, h3, _, h5, _, h7⟩
  · simp only [List.cons.injEq, and_true] at h1
    exact ⟨none, 0, [], h1, fun h => absurd h (Nat.lt_irrefl 0), fun o ho => (by cases ho), Nat.le_refl _⟩
  · simp only [List.cons.injEq, and_true] at h1
    cases h1
    simp only [if_true] at h5
    have each : ∀ i, i < len → ∃ b k, V0 i = .bool b ∧ V1 i = .int .u64 k ∧ (Lit.int .u64 k).wf = true := fun i hi2 => by
      obtain ⟨_, _, g0, g1⟩ := h7 i (by omega)
      obtain ⟨b, e0, _⟩ := DataW.trod_bool hb g0
      obtain ⟨k, e1, _, hw⟩ := DataW.trod_int hi g1
      simp only [List.cons.injEq, and_true] at e0 e1
      exact ⟨b, k, e0, e1, hw⟩
    have hlen : ((List.range len).map fun i => pairOf (V0 i) (V1 i)).length = len := by simp
    have hget : ∀ i, i < len → ((List.range len).map fun i => pairOf (V0 i) (V1 i)).getD i (false, 0) = pairOf (V0 i) (V1 i) := fun i hi2 => by
      rw [List.getD_eq_getElem?_getD, List.getElem?_map, List.getElem?_range hi2]; rfl
    refine ⟨some a', cap, (List.range len).map fun i => pairOf (V0 i) (V1 i), by rw [hlen], ?_, fun o ho => ?_, by rw [hlen]; exact h3⟩
    · intro h0
      rw [hlen] at h0
      have hs : a'.spot = none := by
        have := (h7 0 (by omega)).1
        have e : a'.add (0 * 2) = a' := by simp [Addr.add]
        rw [e] at this
        unfold World.cell? at this
        split at this
        · cases hsp : a'.spot with
          | none => rfl
          | some z => rw [hsp] at this; simp at this
        · cases this
      obtain ⟨b, off, spot⟩ := a'
      simp only at hs
      subst hs
      have hadd : ∀ j, (⟨b, off + j, none⟩ : Addr) = (⟨b, off, none⟩ : Addr).add j := fun j => by
        unfold Addr.add
        split
        · rename_i h; subst h; rfl
        · rfl
      refine ⟨b, off, rfl, ?_, fun i hi2 => ?_⟩
      · have := cell_lt (h7 0 (by omega)).1
        rw [← hadd] at this
        exact this
      · rw [hlen] at hi2
        rw [hget i hi2]
        obtain ⟨k0, k, e0, e1, _⟩ := each i hi2
        obtain ⟨g0, g1, _, _⟩ := h7 i (by omega)
        rw [e0, e1]
        rw [← hadd, e0] at g0
        rw [← hadd, e1] at g1
        exact ⟨g0, g1⟩
    · obtain ⟨i, hi2, rfl⟩ := List.mem_map.1 ho
      obtain ⟨k0, k, e0, e1, hw⟩ := each i (List.mem_range.1 hi2)
      rw [e0, e1]
      exact wf_u64 hw
end

set_option maxRecDepth 10000 in
set_option maxHeartbeats 2000000 in
theorem play_bad (d : Int) (ad : Option Addr) (n cap : Nat) (w : World) (h : d < 1 ∨ 12 < d) :
    Calls Try.prog 43 #[.int .i64 d, .slice ad n cap] w fun e w' => e = .returned (.tuple #[.pointer none, .slice none 0 0, .bool true]) ∧ Below w.heap.size w w' := by
  have cN := TNew_bad d w h
  rcases h with h | h
  · go_enter Try.func43, Try.ntmps43
    go_wp2_with fail
    refine cN.mono ?_
    rintro e w1 ⟨rfl, hB⟩
    clear cN
    go_wp2
    exact bodyPost_ret (v := .tuple #[.pointer none, .slice none 0 0, .bool true]) (by simp [results, Try.results43, go_sem]) rfl ⟨rfl, hB⟩
  · have h1 : 1 ≤ d := by omega
    go_enter Try.func43, Try.ntmps43
    go_wp2_with fail
    refine cN.mono ?_
    rintro e w1 ⟨rfl, hB⟩
    clear cN
    go_wp2
    exact bodyPost_ret (v := .tuple #[.pointer none, .slice none 0 0, .bool true]) (by simp [results, Try.results43, go_sem]) rfl ⟨rfl, hB⟩

end Go.Proofs.Ythkdaoomnfgooaa
