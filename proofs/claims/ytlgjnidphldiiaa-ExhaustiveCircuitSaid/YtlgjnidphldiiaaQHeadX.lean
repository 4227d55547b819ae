/- Closed facts on the translation's head, reckoned once, so that each row's look is cheap. -/
import Derived.Test.YtlgjnidphldiiaaRows
import Derived.JoinedOf
import Derived.KernelRfl
import Derived.Test.YtlgjnidphldiiaaQPermX
import Derived.Laws.IdiomArrays
import Derived.ChangeSlices
import Derived.Carry
import Derived.Deep.RegionWith
namespace Go.Proofs.Ytlgjnidphldiiaa
open Go

/-- The head's signs. -/
def Try.signs : List Char := List.map Char.ofNat [104, 97, 114, 110, 101, 115, 115, 32, 97, 101, 101, 97, 52, 99, 101, 49, 52, 48, 102, 98, 97, 49, 102, 100, 49, 56, 57, 48, 101, 50, 57, 99, 54, 102, 100, 102, 57, 52, 97, 55, 51, 49, 49, 53, 55, 102, 55, 51, 98, 99, 52, 97, 98, 57, 52, 57, 99, 100, 54, 97, 100, 55, 52, 98, 99, 48, 98, 102, 56, 55, 53, 97, 32, 99, 117, 116, 32, 97, 116, 32, 109, 111, 105, 100, 111, 114, 101, 47, 109, 111, 105, 100, 111, 114, 101, 108, 97, 119, 50, 48, 46, 71, 97, 100, 103, 101, 116, 78, 101, 119, 32, 109, 111, 105, 100, 111, 114, 101, 47, 109, 111, 105, 100, 111, 114, 101, 108, 97, 119, 50, 48, 46, 71, 97, 100, 103, 101, 116, 76, 105, 110, 101, 97, 114, 32, 109, 111, 105, 100, 111, 114, 101, 47, 109, 111, 105, 100, 111, 114, 101, 108, 97, 119, 50, 48, 46, 71, 97, 100, 103, 101, 116, 72, 97, 115, 104, 32, 109, 111, 105, 100, 111, 114, 101, 47, 109, 111, 105, 100, 111, 114, 101, 108, 97, 119, 50, 48, 46, 71, 97, 100, 103, 101, 116, 67, 105, 114, 99, 117, 105, 116, 32, 109, 111, 105, 100, 111, 114, 101, 47, 109, 111, 105, 100, 111, 114, 101, 108, 97, 119, 50, 48, 46, 71, 97, 100, 103, 101, 116, 77, 101, 97, 110, 105, 110, 103, 32, 109, 111, 105, 100, 111, 114, 101, 47, 109, 111, 105, 100, 111, 114, 101, 108, 97, 119, 50, 48, 46, 71, 97, 100, 103, 101, 116, 85, 110, 105, 113, 117, 101, 32, 109, 111, 105, 100, 111, 114, 101, 47, 109, 111, 105, 100, 111, 114, 101, 108, 97, 119, 50, 48, 46, 71, 97, 100, 103, 101, 116, 82, 97, 110, 103, 101, 32, 109, 111, 105, 100, 111, 114, 101, 47, 109, 111, 105, 100, 111, 114, 101, 108, 97, 119, 50, 51, 46, 69, 120, 104, 97, 117, 115, 116, 105, 118, 101, 67, 111, 117, 110, 116, 32, 109, 111, 105, 100, 111, 114, 101, 47, 109, 111, 105, 100, 111, 114, 101, 108, 97, 119, 50, 51, 46, 69, 120, 104, 97, 117, 115, 116, 105, 118, 101, 83, 117, 109, 32, 109, 111, 105, 100, 111, 114, 101, 47, 109, 111, 105, 100, 111, 114, 101, 108, 97, 119, 50, 51, 46, 69, 120, 104, 97, 117, 115, 116, 105, 118, 101, 73, 110, 112, 117, 116, 115, 32, 109, 111, 105, 100, 111, 114, 101, 47, 109, 111, 105, 100, 111, 114, 101, 108, 97, 119, 50, 51, 46, 69, 120, 104, 97, 117, 115, 116, 105, 118, 101, 67, 105, 114, 99, 117, 105, 116]
theorem Try.order : Try.prog.initOrder.toList = Try.signs := by
  have h : Try.prog.initOrder = String.ofList Try.signs := by kernel_rfl
  rw [h, String.toList_ofList]
theorem Try.first : (behindMainWord (wordsSigns Try.signs)).head? = some "cut".toList := by kernel_rfl
theorem Try.head : ∃ rest, behindMainWord (wordsSigns Try.prog.initOrder.toList) = "cut".toList :: rest := by
  rw [Try.order]
  have h := Try.first
  generalize behindMainWord (wordsSigns Try.signs) = l at h
  cases l with
  | nil => cases h
  | cons c rest => simp only [List.head?_cons, Option.some.injEq] at h; exact ⟨rest, by rw [h]⟩
theorem strip_cut (rest : List (List Char)) : stripLifts liftWords ("cut".toList :: rest) = ([], "cut".toList :: rest) := by kernel_rfl
theorem Try.laysLater : Try.prog.laysLater = false := by kernel_rfl
theorem Try.bearsReflect : Try.prog.bearsReflect = false := by kernel_rfl
theorem Try.doorFits : Try.prog.doorFits [] = true := by kernel_rfl
theorem cut_gc : (("cut".toList : List Char) == "gc".toList) = false := by kernel_rfl
theorem cut_spec : (("cut".toList : List Char) == "spec".toList) = false := by kernel_rfl
theorem cut_carried : (("cut".toList : List Char) == "carried".toList) = false := by kernel_rfl
theorem cut_cut : (("cut".toList : List Char) == "cut".toList) = true := by kernel_rfl

/-! Over any program: nothing of the program is reckoned here. -/
theorem mayEnter_of {P : Program} {rest : List (List Char)} (h : behindMainWord (wordsSigns P.initOrder.toList) = "cut".toList :: rest) (h1 : P.laysLater = false) (h2 : P.bearsReflect = false) (h3 : P.doorFits [] = true) : P.mayEnter = true := by
  unfold Program.mayEnter
  rw [h]
  simp only [strip_cut, cut_gc, cut_spec, cut_carried, h1, h2, h3, Bool.false_or, Bool.false_and, Bool.not_false, Bool.or_true, Bool.and_true, List.head?_cons]
  have : (some "cut".toList == some "cut".toList) = true := by kernel_rfl
  rw [this]
  rfl
theorem headLifts_of {P : Program} {rest : List (List Char)} (h : behindMainWord (wordsSigns P.initOrder.toList) = "cut".toList :: rest) : P.headLifts = [] := by
  unfold Program.headLifts
  rw [h]
  simp only [strip_cut]
  split <;> rfl
theorem liftsFinal_of {P : Program} {rest : List (List Char)} (h : behindMainWord (wordsSigns P.initOrder.toList) = "cut".toList :: rest) : P.liftsFinal = false := by
  unfold Program.liftsFinal
  rw [h, headLifts_of h]
  simp only [List.head?_cons]
  have : (some "cut".toList == some "carried".toList) = false := by kernel_rfl
  rw [this]
  rfl
theorem make_of {P : Program} {rest : List (List Char)} (h : behindMainWord (wordsSigns P.initOrder.toList) = "cut".toList :: rest) : P.make = some .cut := by
  unfold Program.make
  rw [h]
  simp only [cut_gc, cut_spec, cut_cut, Bool.or_false, Bool.true_or, if_true, Bool.false_eq_true, if_false]

theorem Try.mayEnter : Try.prog.mayEnter = true := Try.head.elim fun _ h => mayEnter_of h Try.laysLater Try.bearsReflect Try.doorFits
theorem Try.liftsFinal : Try.prog.liftsFinal = false := Try.head.elim fun _ h => liftsFinal_of h
theorem Try.make : Try.prog.make = some .cut := Try.head.elim fun _ h => make_of h

end Go.Proofs.Ytlgjnidphldiiaa

/- What the frames of the laws share: opening and shutting arguments, the post of a law that changes nothing. -/
namespace Go.Proofs.Ytlgjnidphldiiaa
open Go.ChangeShapes Go.WideShapes Go.ChangeAt Go.RowKit

theorem own : ownKnob Try.prog.godebug = none := by kernel_rfl
theorem Try.laidOut : laidOutB Try.prog = true := by kernel_rfl

/-- Behind a call that changes nothing that was there: the post of a row that is not asked to be called again. -/
theorem post_of_below {H : Type} {enc : TypeId × Value → H} {P : Program} {f : Func} {s : ChangeSpec} {apart fresh handsOn : Bool} {W W' : World} {args : Array Value} {v : Value} {ds gs : List (DataW H)} {before pa pv : List MemPlace}
    (hW : DataW.Whole enc P f.params.toList s.vars apart W args.toList ds gs before)
    (hres : ∀ (b : Nat) (sp : Nat → Bool) (hd : Bool), DataW.TrodAll enc P W' b sp hd f.resultTypes.toList (v.resultList f.resultTypes.size) (s.fn H (ds ++ gs)).results [])
    (hargs : ∀ sp : Nat → Bool, (∀ p ∈ before, sp p.block = true) → (sp = fun b => decide (b < W.heap.size)) → DataW.TrodAll enc P W' 0 sp true f.params.toList args.toList (s.fn H (ds ++ gs)).args pa)
    (hvars : ∀ sp : Nat → Bool, (∀ p ∈ before, sp p.block = true) → DataW.TrodVars enc P W' sp s.vars (s.fn H (ds ++ gs)).vars pv)
    (hps : before = pa ++ pv) (hb : Below W.heap.size W W') :
    s.post enc P f apart fresh handsOn false W args v W' := by
  have hold : ∀ p ∈ before, (fun b => decide (b < W.heap.size)) p.block = true := fun p hp => by simpa using hW.lt p hp
  refine ⟨ds, gs, before, [], pa, pv, hW, hres _ _ _, hargs _ hold rfl, hvars _ hold, World.keptBut_mono (fun p hp => ⟨hp, ?_⟩) (hb.frame (· ∈ before)), fun h => by cases h⟩
  rw [hps, List.mem_append] at hp
  exact Or.inr hp

section
variable {H : Type} {enc : TypeId × Value → H} {P : Program} {w : World} {base : Nat} {spare : Nat → Bool} {held : Bool}

theorem wf_u64 {x : Int} (h : (Lit.int .u64 x).wf = true) : 0 ≤ x ∧ x < 18446744073709551616 := by
  simp [Lit.wf, IntKind.min, IntKind.max, IntKind.signed, IntKind.bits] at h
  omega
end
end Go.Proofs.Ytlgjnidphldiiaa
