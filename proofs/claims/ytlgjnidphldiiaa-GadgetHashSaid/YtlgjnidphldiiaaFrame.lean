/- What the frames of the laws share: opening and shutting arguments, the post of a law that changes nothing. -/
import Derived.Test.YtlgjnidphldiiaaPermC
import Derived.Test.YtlgjnidphldiiaaHead
import Derived.Laws.IdiomArrays
import Derived.ChangeSlices
import Derived.Carry
import Derived.Deep.RegionWith
namespace Go.Proofs.Ytlgjnidphldiiaa
open Go.ChangeShapes Go.WideShapes Go.ChangeAt Go.RowKit

theorem own : ownKnob Try.prog.godebug = none := by kernel_rfl
theorem Try.laidOut : laidOutB Try.prog = true := by kernel_rfl

/-- Behind a call that changes nothing that was there: the post of a row that is not asked to be called again. -/
theorem post_of_below {H : Type} {enc : TypeId × Value → H} {P : Program} {f : Func} {s : ChangeSpec} {apart fresh handsOn : Bool} {W W' : World} {args : Array Value} {v : Value} {ds gs : List (DataW H)} {before pa pv : List MemPlace}
    (hW : DataW.Whole enc P f.params.toList s.vars apart W args.toList ds gs before)
    (hres : ∀ (b : Nat) (sp : Nat → Bool) (hd : Bool), DataW.TrodAll enc P W' b sp hd f.resultTypes.toList (v.resultList f.resultTypes.size) (s.fn H (ds ++ gs)).results [])
    (hargs : ∀ sp : Nat → Bool, (∀ p ∈ before, sp p.block = true) → (sp = fun b => decide (b < W.heap.size)) → DataW.TrodAll enc P W' 0 sp true f.params.toList args.toList (s.fn H (ds ++ gs)).args pa)
    (hvars : ∀ sp : Nat → Bool, (∀ p ∈ before, sp p.block = true) → DataW.TrodVars enc P W' sp s.vars (s.fn H (ds ++ gs)).vars pv)
    (hps : before = pa ++ pv) (hb : Below W.heap.size W W') :
    s.post enc P f apart fresh handsOn false W args v W' := by
  have hold : ∀ p ∈ before, (fun b => decide (b < W.heap.size)) p.block = true := fun p hp => by simpa using hW.lt p hp
  refine ⟨ds, gs, before, [], pa, pv, hW, hres _ _ _, hargs _ hold rfl, hvars _ hold, World.keptBut_mono (fun p hp => ⟨hp, ?_⟩) (hb.frame (· ∈ before)), fun h => by cases h⟩
  rw [hps, List.mem_append] at hp
  exact Or.inr hp

section
variable {H : Type} {enc : TypeId × Value → H} {P : Program} {w : World} {base : Nat} {spare : Nat → Bool} {held : Bool}

/-- An array of three words of 64 bits. -/
theorem open_arr3 {r : Reach} {b0 : Nat} {t e : TypeId} {v : Value} {d : DataW H} {ps : List MemPlace} (ht : P.underlying t = some (.array 3 e)) (he : P.underlying e = some (.int .u64)) (hc : P.cellsOf e = 1) (hs : P.cellsOf t = 3)
    (hval : Value.okWide P w r b0 t v) (hd : DataW.Trod enc P w base spare held t v d ps) :
    ∃ x y z, v = .agg #[.int .u64 x, .int .u64 y, .int .u64 z] ∧ d = .agg [.lit (.int .u64 x), .lit (.int .u64 y), .lit (.int .u64 z)] ∧ ps = [] ∧ (Lit.int .u64 x).wf = true ∧ (Lit.int .u64 y).wf = true ∧ (Lit.int .u64 z).wf = true := by
  have h1 : ∃ cs : Array Value, v = .agg cs ∧ cs.size = 3 := by
    simp only [Value.okWide, ht] at hval
    obtain ⟨cs, h1, h2, _⟩ := hval
    exact ⟨cs, h1, by rw [h2, hs]⟩
  obtain ⟨cs, rfl, hn⟩ := h1
  obtain ⟨fuel, hf⟩ := hd
  obtain ⟨c0, c1, c2, hcs⟩ : ∃ c0 c1 c2, cs.toList = [c0, c1, c2] := by
    match h : cs.toList, (by simpa using hn : cs.toList.length = 3) with
    | [a, b, c], _ => exact ⟨a, b, c, rfl⟩
  obtain rfl : cs = #[c0, c1, c2] := by cases cs; simp_all
  have hcells : (Value.agg #[c0, c1, c2]).cells.toList = [c0, c1, c2] := by simp [Value.cells]
  rw [hcells] at hf
  obtain ⟨y0, y1, y2, n, hx, h0, h1, h2⟩ := trod_array3 ht hc hf
  obtain ⟨x, hx0, rfl, wx⟩ := DataW.trod_int he h0
  obtain ⟨y, hx1, rfl, wy⟩ := DataW.trod_int he h1
  obtain ⟨z, hx2, rfl, wz⟩ := DataW.trod_int he h2
  simp only [List.cons.injEq, and_true] at hx0 hx1 hx2
  subst hx0 hx1 hx2
  simp only [Prod.mk.injEq, List.append_nil] at hx
  exact ⟨x, y, z, rfl, hx.1, hx.2, wx, wy, wz⟩

theorem wf_u64 {x : Int} (h : (Lit.int .u64 x).wf = true) : 0 ≤ x ∧ x < 18446744073709551616 := by
  simp [Lit.wf, IntKind.min, IntKind.max, IntKind.signed, IntKind.bits] at h
  omega
end
end Go.Proofs.Ytlgjnidphldiiaa
