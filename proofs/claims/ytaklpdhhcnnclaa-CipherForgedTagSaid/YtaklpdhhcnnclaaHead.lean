/- Closed facts on the translation's head, reckoned once, so that each row's look is cheap. -/
import Derived.Test.YtaklpdhhcnnclaaRows
import Derived.JoinedOf
import Derived.KernelRfl
namespace Go.Proofs.Ytaklpdhhcnnclaa
open Go

/-- The head's signs. -/
def Try.signs : List Char := List.map Char.ofNat [104, 97, 114, 110, 101, 115, 115, 32, 101, 56, 52, 56, 52, 97, 57, 53, 52, 52, 55, 56, 54, 51, 54, 56, 98, 54, 101, 56, 49, 50, 98, 97, 53, 49, 98, 50, 53, 54, 51, 54, 52, 53, 97, 51, 97, 50, 52, 56, 101, 56, 55, 49, 53, 97, 52, 48, 51, 98, 57, 57, 97, 54, 50, 55, 55, 53, 48, 49, 52, 55, 53, 100, 32, 99, 117, 116, 32, 97, 116, 32, 109, 111, 105, 100, 111, 114, 101, 47, 109, 111, 105, 100, 111, 114, 101, 108, 97, 119, 48, 55, 46, 80, 101, 114, 109, 117, 116, 97, 116, 105, 111, 110, 67, 111, 110, 115, 116, 97, 110, 116, 32, 109, 111, 105, 100, 111, 114, 101, 47, 109, 111, 105, 100, 111, 114, 101, 108, 97, 119, 48, 55, 46, 80, 101, 114, 109, 117, 116, 97, 116, 105, 111, 110, 77, 105, 120, 32, 109, 111, 105, 100, 111, 114, 101, 47, 109, 111, 105, 100, 111, 114, 101, 108, 97, 119, 48, 55, 46, 80, 101, 114, 109, 117, 116, 97, 116, 105, 111, 110, 85, 110, 109, 105, 120, 32, 109, 111, 105, 100, 111, 114, 101, 47, 109, 111, 105, 100, 111, 114, 101, 108, 97, 119, 48, 55, 46, 80, 101, 114, 109, 117, 116, 97, 116, 105, 111, 110, 80, 101, 114, 109, 117, 116, 101, 32, 109, 111, 105, 100, 111, 114, 101, 47, 109, 111, 105, 100, 111, 114, 101, 108, 97, 119, 48, 55, 46, 80, 101, 114, 109, 117, 116, 97, 116, 105, 111, 110, 68, 105, 102, 102, 101, 114, 101, 110, 116, 32, 109, 111, 105, 100, 111, 114, 101, 47, 109, 111, 105, 100, 111, 114, 101, 108, 97, 119, 48, 55, 46, 80, 101, 114, 109, 117, 116, 97, 116, 105, 111, 110, 73, 110, 118, 101, 114, 115, 101, 32, 109, 111, 105, 100, 111, 114, 101, 47, 109, 111, 105, 100, 111, 114, 101, 108, 97, 119, 48, 55, 46, 80, 101, 114, 109, 117, 116, 97, 116, 105, 111, 110, 66, 111, 116, 104, 32, 109, 111, 105, 100, 111, 114, 101, 47, 109, 111, 105, 100, 111, 114, 101, 108, 97, 119, 48, 56, 46, 83, 112, 111, 110, 103, 101, 72, 97, 115, 104, 32, 109, 111, 105, 100, 111, 114, 101, 47, 109, 111, 105, 100, 111, 114, 101, 108, 97, 119, 48, 56, 46, 83, 112, 111, 110, 103, 101, 82, 101, 100, 117, 99, 101, 100, 32, 109, 111, 105, 100, 111, 114, 101, 47, 109, 111, 105, 100, 111, 114, 101, 108, 97, 119, 48, 56, 46, 83, 112, 111, 110, 103, 101, 80, 97, 99, 107, 32, 109, 111, 105, 100, 111, 114, 101, 47, 109, 111, 105, 100, 111, 114, 101, 108, 97, 119, 48, 56, 46, 83, 112, 111, 110, 103, 101, 85, 110, 112, 97, 99, 107, 32, 109, 111, 105, 100, 111, 114, 101, 47, 109, 111, 105, 100, 111, 114, 101, 108, 97, 119, 48, 56, 46, 83, 112, 111, 110, 103, 101, 66, 121, 116, 101, 115, 32, 109, 111, 105, 100, 111, 114, 101, 47, 109, 111, 105, 100, 111, 114, 101, 108, 97, 119, 48, 56, 46, 83, 112, 111, 110, 103, 101, 83, 113, 117, 101, 101, 122, 101, 32, 109, 111, 105, 100, 111, 114, 101, 47, 109, 111, 105, 100, 111, 114, 101, 108, 97, 119, 48, 56, 46, 83, 112, 111, 110, 103, 101, 80, 114, 101, 102, 105, 120, 32, 109, 111, 105, 100, 111, 114, 101, 47, 109, 111, 105, 100, 111, 114, 101, 108, 97, 119, 48, 57, 46, 67, 105, 112, 104, 101, 114, 83, 101, 97, 108, 32, 109, 111, 105, 100, 111, 114, 101, 47, 109, 111, 105, 100, 111, 114, 101, 108, 97, 119, 48, 57, 46, 67, 105, 112, 104, 101, 114, 79, 112, 101, 110, 32, 109, 111, 105, 100, 111, 114, 101, 47, 109, 111, 105, 100, 111, 114, 101, 108, 97, 119, 48, 57, 46, 67, 105, 112, 104, 101, 114, 82, 111, 117, 110, 100, 84, 114, 105, 112, 32, 109, 111, 105, 100, 111, 114, 101, 47, 109, 111, 105, 100, 111, 114, 101, 108, 97, 119, 48, 57, 46, 67, 105, 112, 104, 101, 114, 73, 110, 106, 101, 99, 116, 105, 118, 101, 32, 109, 111, 105, 100, 111, 114, 101, 47, 109, 111, 105, 100, 111, 114, 101, 108, 97, 119, 48, 57, 46, 67, 105, 112, 104, 101, 114, 70, 111, 114, 103, 101, 100, 84, 97, 103, 32, 109, 111, 105, 100, 111, 114, 101, 47, 109, 111, 105, 100, 111, 114, 101, 108, 97, 119, 48, 57, 46, 67, 105, 112, 104, 101, 114, 84, 97, 103, 32, 109, 111, 105, 100, 111, 114, 101, 47, 109, 111, 105, 100, 111, 114, 101, 108, 97, 119, 48, 57, 46, 67, 105, 112, 104, 101, 114, 66, 105, 106, 101, 99, 116, 105, 118, 101]
theorem Try.order : Try.prog.initOrder.toList = Try.signs := by
  have h : Try.prog.initOrder = String.ofList Try.signs := by kernel_rfl
  rw [h, String.toList_ofList]
theorem Try.first : (behindMainWord (wordsSigns Try.signs)).head? = some "cut".toList := by kernel_rfl
theorem Try.head : ∃ rest, behindMainWord (wordsSigns Try.prog.initOrder.toList) = "cut".toList :: rest := by
  rw [Try.order]
  have h := Try.first
  generalize behindMainWord (wordsSigns Try.signs) = l at h
  cases l with
  | nil => cases h
  | cons c rest => simp only [List.head?_cons, Option.some.injEq] at h; exact ⟨rest, by rw [h]⟩
theorem strip_cut (rest : List (List Char)) : stripLifts liftWords ("cut".toList :: rest) = ([], "cut".toList :: rest) := by kernel_rfl
theorem Try.laysLater : Try.prog.laysLater = false := by kernel_rfl
theorem Try.bearsReflect : Try.prog.bearsReflect = false := by kernel_rfl
theorem Try.doorFits : Try.prog.doorFits [] = true := by kernel_rfl
theorem cut_gc : (("cut".toList : List Char) == "gc".toList) = false := by kernel_rfl
theorem cut_spec : (("cut".toList : List Char) == "spec".toList) = false := by kernel_rfl
theorem cut_carried : (("cut".toList : List Char) == "carried".toList) = false := by kernel_rfl
theorem cut_cut : (("cut".toList : List Char) == "cut".toList) = true := by kernel_rfl

/-! Over any program: nothing of the program is reckoned here. -/
theorem mayEnter_of {P : Program} {rest : List (List Char)} (h : behindMainWord (wordsSigns P.initOrder.toList) = "cut".toList :: rest) (h1 : P.laysLater = false) (h2 : P.bearsReflect = false) (h3 : P.doorFits [] = true) : P.mayEnter = true := by
  unfold Program.mayEnter
  rw [h]
  simp only [strip_cut, cut_gc, cut_spec, cut_carried, h1, h2, h3, Bool.false_or, Bool.false_and, Bool.not_false, Bool.or_true, Bool.and_true, List.head?_cons]
  have : (some "cut".toList == some "cut".toList) = true := by kernel_rfl
  rw [this]
  rfl
theorem headLifts_of {P : Program} {rest : List (List Char)} (h : behindMainWord (wordsSigns P.initOrder.toList) = "cut".toList :: rest) : P.headLifts = [] := by
  unfold Program.headLifts
  rw [h]
  simp only [strip_cut]
  split <;> rfl
theorem liftsFinal_of {P : Program} {rest : List (List Char)} (h : behindMainWord (wordsSigns P.initOrder.toList) = "cut".toList :: rest) : P.liftsFinal = false := by
  unfold Program.liftsFinal
  rw [h, headLifts_of h]
  simp only [List.head?_cons]
  have : (some "cut".toList == some "carried".toList) = false := by kernel_rfl
  rw [this]
  rfl
theorem make_of {P : Program} {rest : List (List Char)} (h : behindMainWord (wordsSigns P.initOrder.toList) = "cut".toList :: rest) : P.make = some .cut := by
  unfold Program.make
  rw [h]
  simp only [cut_gc, cut_spec, cut_cut, Bool.or_false, Bool.true_or, if_true, Bool.false_eq_true, if_false]

theorem Try.mayEnter : Try.prog.mayEnter = true := Try.head.elim fun _ h => mayEnter_of h Try.laysLater Try.bearsReflect Try.doorFits
theorem Try.liftsFinal : Try.prog.liftsFinal = false := Try.head.elim fun _ h => liftsFinal_of h
theorem Try.make : Try.prog.make = some .cut := Try.head.elim fun _ h => make_of h

end Go.Proofs.Ytaklpdhhcnnclaa
