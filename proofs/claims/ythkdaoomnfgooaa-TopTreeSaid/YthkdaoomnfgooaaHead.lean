/- Closed facts on the translation's head, reckoned once, so that each row's look is cheap. -/
import Derived.Test.YthkdaoomnfgooaaRows
import Derived.JoinedOf
import Derived.KernelRfl
namespace Go.Proofs.Ythkdaoomnfgooaa
open Go

/-- The head's signs. -/
def Try.signs : List Char := List.map Char.ofNat [104, 97, 114, 110, 101, 115, 115, 32, 99, 102, 102, 99, 49, 52, 56, 102, 55, 100, 102, 54, 55, 54, 98, 57, 101, 49, 54, 51, 102, 102, 99, 100, 97, 54, 54, 57, 48, 54, 52, 54, 52, 98, 55, 98, 53, 48, 50, 56, 57, 102, 56, 99, 97, 98, 48, 54, 51, 100, 57, 53, 51, 57, 52, 102, 51, 49, 100, 101, 49, 51, 48, 54, 32, 99, 117, 116, 32, 97, 116, 32, 109, 111, 105, 100, 111, 114, 101, 47, 109, 111, 105, 100, 111, 114, 101, 108, 97, 119, 51, 54, 46, 70, 114, 111, 110, 116, 105, 101, 114, 86, 97, 108, 105, 100, 32, 109, 111, 105, 100, 111, 114, 101, 47, 109, 111, 105, 100, 111, 114, 101, 108, 97, 119, 51, 54, 46, 70, 114, 111, 110, 116, 105, 101, 114, 78, 101, 119, 32, 109, 111, 105, 100, 111, 114, 101, 47, 109, 111, 105, 100, 111, 114, 101, 108, 97, 119, 51, 54, 46, 70, 114, 111, 110, 116, 105, 101, 114, 65, 112, 112, 101, 110, 100, 32, 109, 111, 105, 100, 111, 114, 101, 47, 109, 111, 105, 100, 111, 114, 101, 108, 97, 119, 51, 54, 46, 70, 114, 111, 110, 116, 105, 101, 114, 82, 111, 111, 116, 32, 109, 111, 105, 100, 111, 114, 101, 47, 109, 111, 105, 100, 111, 114, 101, 108, 97, 119, 51, 54, 46, 70, 114, 111, 110, 116, 105, 101, 114, 70, 117, 108, 108, 32, 109, 111, 105, 100, 111, 114, 101, 47, 109, 111, 105, 100, 111, 114, 101, 108, 97, 119, 51, 54, 46, 70, 114, 111, 110, 116, 105, 101, 114, 68, 101, 116, 101, 114, 109, 105, 110, 101, 100, 32, 109, 111, 105, 100, 111, 114, 101, 47, 109, 111, 105, 100, 111, 114, 101, 108, 97, 119, 51, 54, 46, 70, 114, 111, 110, 116, 105, 101, 114, 80, 97, 116, 104, 115, 32, 109, 111, 105, 100, 111, 114, 101, 47, 109, 111, 105, 100, 111, 114, 101, 108, 97, 119, 51, 54, 46, 70, 114, 111, 110, 116, 105, 101, 114, 67, 108, 105, 109, 98, 32, 109, 111, 105, 100, 111, 114, 101, 47, 109, 111, 105, 100, 111, 114, 101, 108, 97, 119, 51, 55, 46, 84, 114, 101, 101, 108, 111, 103, 72, 105, 115, 116, 111, 114, 121, 32, 109, 111, 105, 100, 111, 114, 101, 47, 109, 111, 105, 100, 111, 114, 101, 108, 97, 119, 51, 55, 46, 84, 114, 101, 101, 108, 111, 103, 77, 97, 116, 99, 104, 101, 115, 76, 105, 115, 116, 32, 109, 111, 105, 100, 111, 114, 101, 47, 109, 111, 105, 100, 111, 114, 101, 108, 97, 119, 51, 55, 46, 84, 114, 101, 101, 108, 111, 103, 83, 116, 101, 112, 115, 32, 109, 111, 105, 100, 111, 114, 101, 47, 109, 111, 105, 100, 111, 114, 101, 108, 97, 119, 51, 55, 46, 84, 114, 101, 101, 108, 111, 103, 85, 110, 100, 111, 32, 109, 111, 105, 100, 111, 114, 101, 47, 109, 111, 105, 100, 111, 114, 101, 108, 97, 119, 51, 55, 46, 84, 114, 101, 101, 108, 111, 103, 69, 114, 114, 111, 114, 115, 32, 109, 111, 105, 100, 111, 114, 101, 47, 109, 111, 105, 100, 111, 114, 101, 108, 97, 119, 51, 55, 46, 84, 114, 101, 101, 108, 111, 103, 80, 97, 116, 104, 115, 32, 109, 111, 105, 100, 111, 114, 101, 47, 109, 111, 105, 100, 111, 114, 101, 108, 97, 119, 51, 55, 46, 84, 114, 101, 101, 108, 111, 103, 70, 114, 111, 110, 116, 105, 101, 114, 32, 109, 111, 105, 100, 111, 114, 101, 47, 109, 111, 105, 100, 111, 114, 101, 116, 111, 112, 46, 84, 111, 112, 84, 114, 101, 101]
theorem Try.order : Try.prog.initOrder.toList = Try.signs := by
  have h : Try.prog.initOrder = String.ofList Try.signs := by kernel_rfl
  rw [h, String.toList_ofList]
theorem Try.first : (behindMainWord (wordsSigns Try.signs)).head? = some "cut".toList := by kernel_rfl
theorem Try.head : ∃ rest, behindMainWord (wordsSigns Try.prog.initOrder.toList) = "cut".toList :: rest := by
  rw [Try.order]
  have h := Try.first
  generalize behindMainWord (wordsSigns Try.signs) = l at h
  cases l with
  | nil => cases h
  | cons c rest => simp only [List.head?_cons, Option.some.injEq] at h; exact ⟨rest, by rw [h]⟩
theorem strip_cut (rest : List (List Char)) : stripLifts liftWords ("cut".toList :: rest) = ([], "cut".toList :: rest) := by kernel_rfl
theorem Try.laysLater : Try.prog.laysLater = false := by kernel_rfl
theorem Try.bearsReflect : Try.prog.bearsReflect = false := by kernel_rfl
theorem Try.doorFits : Try.prog.doorFits [] = true := by kernel_rfl
theorem cut_gc : (("cut".toList : List Char) == "gc".toList) = false := by kernel_rfl
theorem cut_spec : (("cut".toList : List Char) == "spec".toList) = false := by kernel_rfl
theorem cut_carried : (("cut".toList : List Char) == "carried".toList) = false := by kernel_rfl
theorem cut_cut : (("cut".toList : List Char) == "cut".toList) = true := by kernel_rfl

/-! Over any program: nothing of the program is reckoned here. -/
theorem mayEnter_of {P : Program} {rest : List (List Char)} (h : behindMainWord (wordsSigns P.initOrder.toList) = "cut".toList :: rest) (h1 : P.laysLater = false) (h2 : P.bearsReflect = false) (h3 : P.doorFits [] = true) : P.mayEnter = true := by
  unfold Program.mayEnter
  rw [h]
  simp only [strip_cut, cut_gc, cut_spec, cut_carried, h1, h2, h3, Bool.false_or, Bool.false_and, Bool.not_false, Bool.or_true, Bool.and_true, List.head?_cons]
  have : (some "cut".toList == some "cut".toList) = true := by kernel_rfl
  rw [this]
  rfl
theorem headLifts_of {P : Program} {rest : List (List Char)} (h : behindMainWord (wordsSigns P.initOrder.toList) = "cut".toList :: rest) : P.headLifts = [] := by
  unfold Program.headLifts
  rw [h]
  simp only [strip_cut]
  split <;> rfl
theorem liftsFinal_of {P : Program} {rest : List (List Char)} (h : behindMainWord (wordsSigns P.initOrder.toList) = "cut".toList :: rest) : P.liftsFinal = false := by
  unfold Program.liftsFinal
  rw [h, headLifts_of h]
  simp only [List.head?_cons]
  have : (some "cut".toList == some "carried".toList) = false := by kernel_rfl
  rw [this]
  rfl
theorem make_of {P : Program} {rest : List (List Char)} (h : behindMainWord (wordsSigns P.initOrder.toList) = "cut".toList :: rest) : P.make = some .cut := by
  unfold Program.make
  rw [h]
  simp only [cut_gc, cut_spec, cut_cut, Bool.or_false, Bool.true_or, if_true, Bool.false_eq_true, if_false]

theorem Try.mayEnter : Try.prog.mayEnter = true := Try.head.elim fun _ h => mayEnter_of h Try.laysLater Try.bearsReflect Try.doorFits
theorem Try.liftsFinal : Try.prog.liftsFinal = false := Try.head.elim fun _ h => liftsFinal_of h
theorem Try.make : Try.prog.make = some .cut := Try.head.elim fun _ h => make_of h

end Go.Proofs.Ythkdaoomnfgooaa
