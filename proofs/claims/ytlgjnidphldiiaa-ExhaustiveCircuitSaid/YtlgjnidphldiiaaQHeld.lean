/- A region that draws its order: loads are taken first while a condition on the world holds; the last operation, which waits for all, may end it. -/
import Derived.Test.YtlgjnidphldiiaaQSeg
import Derived.OrdersHeld
import Derived.Deep.RegionHeld
import Derived.BigRegion
namespace Go.Proofs.Ytlgjnidphldiiaa
open Go.RowKit
namespace Rel

section
variable {P : Program} {ops : Array Oper} {Q : Exit → Act → World → Prop} {md : Region.Mode} {S : World → Prop} {z : Nat}

/-- Whatever order is picked; S holds behind every operation but number z. -/
def wpAnyL (P : Program) (md : Region.Mode) (ops : Array Oper) (Q : Exit → Act → World → Prop) (S : World → Prop) (z : Nat) : Nat → Array Bool → Act → World → Prop
  | 0, listed, a, w => Region.ready md ops listed = [] ∧ Q .normal a w
  | fuel + 1, listed, a, w =>
    (Region.ready md ops listed = [] → Q .normal a w) ∧
    ∀ i ∈ Region.ready md ops listed, wpOp P ops Q i (fun a' w' => (i = z ∨ S w') ∧ wpAnyL P md ops Q S z fuel (listed.setIfInBounds i true) a' w') a w

theorem wpAny_of_L : ∀ (fuel : Nat) (listed : Array Bool) (a : Act) (w : World), wpAnyL P md ops Q S z fuel listed a w → wpAny P md ops Q fuel listed a w
  | 0, _, _, _, h => h
  | fuel + 1, _, _, _, h => ⟨h.1, fun i hi => wpOp_mono (fun a' w' h' => wpAny_of_L fuel _ a' w' h'.2) (h.2 i hi)⟩

/-- Number z waits for all others, at once or through others. -/
def waitsAll (ops : Array Oper) (z : Nat) : Bool := (List.range ops.size).all fun i => i == z || z == ops.size || anc ops ops.size z i
/-- What has been carried out is closed. -/
def doneB (ops : Array Oper) (listed : Array Bool) : Bool :=
  listed.size == ops.size && (List.range ops.size).all fun i => !listed.getD i false || match ops[i]? with
    | some o => o.after.all fun e => !Region.binds .any e || listed.getD e.on false
    | none => true
theorem doneB_spec {listed : Array Bool} (h : doneB ops listed = true) : Done ops listed := by
  unfold doneB at h
  rw [Bool.and_eq_true, beq_iff_eq, List.all_eq_true] at h
  refine ⟨h.1, fun i o ho hl j hj => ?_⟩
  have hi : i < ops.size := (Array.getElem?_eq_some_iff.1 ho).1
  have h2 := h.2 i (List.mem_range.2 hi)
  rw [hl, ho] at h2
  simp only [Bool.not_true, Bool.false_or] at h2
  obtain ⟨e, he, hb, rfl⟩ := needs_spec.1 hj
  have h3 := Array.all_eq_true'.1 h2 e he
  rw [hb] at h3
  simpa using h3

theorem wpAnyL_first {i : Nat} {oi : Oper} {v : Value} (hi : ops[i]? = some oi) (hsel : ∀ (j : Nat) (o : Oper) cs b, ops[j]? = some o → o.op ≠ .select cs b) (hz : waitsAll ops z = true)
    (hQ : ∀ c a w, Q (.panic c) (a.put oi.dst v) w → Q (.panic c) a w) :
    ∀ (fuel : Nat) (listed : Array Bool) (a : Act) (w : World), Done ops listed →
      (∀ j oj, ops[j]? = some oj → j ≠ i → listed.getD j true = false → (∀ e ∈ oj.after, Region.binds .any e = true → e.on ≠ i) → oi.apart ops oj = true) →
      i ∈ Region.ready .any ops listed → YieldsIf P ops S oi v a → S w →
      wpAnyL P .any ops Q S z fuel (listed.setIfInBounds i true) (a.put oi.dst v) w → wpAnyL P .any ops Q S z (fuel + 1) listed a w := by
  intro fuel
  induction fuel with
  | zero =>
    intro listed a w _ _ hr hy hS H
    refine ⟨fun h => (by rw [h] at hr; cases hr), fun j hj => ?_⟩
    by_cases hji : j = i
    · subst hji; exact hy.wpOp hi hS ⟨.inr hS, H⟩
    · have := ready_mono hj hji
      rw [H.1] at this
      cases this
  | succ fuel ih =>
    intro listed a w D hfree hr hy hS H
    refine ⟨fun h => (by rw [h] at hr; cases hr), fun j hj => ?_⟩
    by_cases hji : j = i
    · subst hji; exact hy.wpOp hi hS ⟨.inr hS, H⟩
    · have h1 := H.2 j (ready_mono hj hji)
      obtain ⟨hjun, oj, hoj, hall⟩ := mem_ready.1 hj
      have hnot : ∀ e ∈ oj.after, Region.binds .any e = true → e.on ≠ i := fun e he hb heq => by
        have h1 := hall e he hb
        have h0 := (mem_ready.1 hr).1
        rw [heq] at h1
        rcases Nat.lt_or_ge i listed.size with h' | h'
        · simp [h'] at h0 h1; rw [h0] at h1; cases h1
        · simp [Array.getElem?_eq_none h'] at h1
      have hjz : j ≠ z := fun e => by
        subst e
        unfold waitsAll at hz
        have hil : i < ops.size := (Array.getElem?_eq_some_iff.1 hi).1
        have hjl : j < ops.size := (Array.getElem?_eq_some_iff.1 hoj).1
        have h2 := List.all_eq_true.1 hz i (List.mem_range.2 hil)
        rw [Bool.or_eq_true, Bool.or_eq_true, beq_iff_eq, beq_iff_eq] at h2
        rcases h2 with (h2 | h2) | h2
        · exact hji h2.symm
        · omega
        · have h3 := anc_done D ops.size j i h2 fun o ho k hk => by
            rw [hoj] at ho
            cases ho
            obtain ⟨e, he, hb, rfl⟩ := needs_spec.1 hk
            exact hall e he hb
          obtain ⟨_, _, h4, _⟩ := (mem_ready' D.size).1 hr
          rw [h3] at h4
          cases h4
      have h2 := wpOp_putIf hoj (hfree j oj hoj hji hjun hnot) (fun cs b => hsel i oi cs b hi) (fun cs b => hsel j oj cs b hoj) hQ hy h1
      have hfree' : ∀ k ok, ops[k]? = some ok → k ≠ i → (listed.setIfInBounds j true).getD k true = false →
          (∀ e ∈ ok.after, Region.binds .any e = true → e.on ≠ i) → oi.apart ops ok = true := fun k ok hk hki hun hno => by
        refine hfree k ok hk hki ?_ hno
        by_cases hjk : j = k
        · subst hjk; exact hjun
        · rw [getD_set_ne true hjk] at hun; exact hun
      refine wpOp_mono (fun a' w' h3 => ?_) h2
      have hS' : S w' := h3.2.1.resolve_left hjz
      refine ⟨.inr hS', ih (listed.setIfInBounds j true) a' w' (D.set hj) hfree' (ready_mono hr (Ne.symm hji)) h3.1 hS' ?_⟩
      rw [Array.setIfInBounds_comm _ _ hji]
      exact h3.2.2

/-- The operation with a number. -/
def nth : List Oper → Nat → Option Oper
  | [], _ => none
  | o :: _, 0 => some o
  | _ :: l, n + 1 => nth l n
theorem nth_eq : ∀ (l : List Oper) (n : Nat), nth l n = l.toArray[n]?
  | [], _ => by simp [nth]
  | o :: l, 0 => by simp [nth]
  | o :: l, n + 1 => by rw [nth, nth_eq l n]; simp

/-- An operation is taken first. -/
theorem heldTake (i : Nat) {l : List Oper} {oi : Oper} {v : Value} {fuel : Nat} {listed : Array Bool} {a : Act} {w : World} (hi : nth l i = some oi)
    (hs : (Region.noSelect l.toArray && waitsAll l.toArray z && doneB l.toArray listed) = true) (hf : Region.free .any l.toArray listed i = true) (hr : (Region.ready .any l.toArray listed).contains i = true)
    (hQ : ∀ c a w, Q (.panic c) (a.put oi.dst v) w → Q (.panic c) a w) (hS : S w) (hw : Region.wanted oi (yielded l.toArray a.tmps) = true) (hy : ∀ w, S w → (execOp a.eval oi).run P w = .ok (.value v) w)
    (h : wpAnyL P .any l.toArray Q S z fuel (listed.setIfInBounds i true) (a.put oi.dst v) w) : wpAnyL P .any l.toArray Q S z (fuel + 1) listed a w := by
  have hi' : l.toArray[i]? = some oi := by rw [← nth_eq]; exact hi
  rw [Bool.and_eq_true, Bool.and_eq_true] at hs
  exact wpAnyL_first hi' (Region.noSelect_spec hs.1.1) hs.1.2 hQ fuel listed a w (doneB_spec hs.2) (Region.free_spec hi' hf) (by simpa using hr) (.inl ⟨hw, hy⟩) hS h

/-- The only one that may come up. -/
theorem heldNext (i : Nat) {l : List Oper} {o : Oper} {fuel : Nat} {listed : Array Bool} {a : Act} {w : World} (hi : nth l i = some o) (hr : Region.ready md l.toArray listed = [i])
    (h : ∀ K : Act → World → Prop, Shut (∀ a' w', S w' → (S w' → wpAnyL P md l.toArray Q S z fuel (listed.setIfInBounds i true) a' w') → K a' w') → if Region.wanted o (yielded l.toArray a.tmps) = true then Oper.wp P o a w K Q else K (a.put o.dst undef) w) :
    wpAnyL P md l.toArray Q S z (fuel + 1) listed a w :=
  ⟨fun h0 => absurd (hr ▸ h0) (by simp), fun j hj => by
    rw [hr, List.mem_singleton] at hj
    subst hj
    exact wpOp_step (by rw [← nth_eq]; exact hi) fun K hK => h K fun a' w' hS hW => hK a' w' ⟨.inr hS, hW hS⟩⟩

/-- The last one. -/
theorem heldLast (i : Nat) {l : List Oper} {o : Oper} {fuel : Nat} {listed : Array Bool} {a : Act} {w : World} (hi : nth l i = some o) (hr : Region.ready md l.toArray listed = [i]) (hz : i = z)
    (he : Region.ready md l.toArray (listed.setIfInBounds i true) = [])
    (h : ∀ K : Act → World → Prop, Shut (∀ a' w', Q .normal a' w' → K a' w') → if Region.wanted o (yielded l.toArray a.tmps) = true then Oper.wp P o a w K Q else K (a.put o.dst undef) w) :
    wpAnyL P md l.toArray Q S z (fuel + 1) listed a w :=
  ⟨fun h0 => absurd (hr ▸ h0) (by simp), fun j hj => by
    rw [hr, List.mem_singleton] at hj
    subst hj
    refine wpOp_step (by rw [← nth_eq]; exact hi) fun K hK => h K fun a' w' hW => hK a' w' ⟨.inl hz, ?_⟩
    cases fuel with
    | zero => exact ⟨he, hW⟩
    | succ f => exact ⟨fun _ => hW, by rw [he]; simp⟩⟩

theorem any_held {l : List Oper} (S : World → Prop) (z : Nat) {a : Act} {w : World} (hS : S w) (h : S w → wpAnyL P .any l.toArray Q S z l.toArray.size (Array.replicate l.toArray.size false) a w) : Any P l Q a w :=
  wpAny_of_L _ _ _ _ (h hS)
end
end Rel
end Go.Proofs.Ytlgjnidphldiiaa
