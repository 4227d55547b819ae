/- A region that draws its order: operations that yield one value in every later world (A), operations that are known by a relation (B), and a tail. -/
import Derived.Test.YtlgjnidphldiiaaRel
namespace Go.Proofs.Ytlgjnidphldiiaa
open Go.RowKit
namespace Rel

/-- One value; nothing that was there is changed. -/
def qUpon (P : Program) (w : World) (v : Value) : Result Next → Prop
  | .ok (.value u) w' => w' = w ∧ u = v
  | .ok .skip w' => w' = w ∧ v = undef
  | .ok (.enter f args) w' => w' = w ∧ Calls P f args w fun e w'' => e = .returned v ∧ Below w.heap.size w w''
  | _ => False

/-- The block that a pointer or a slice lies in. -/
def blkOf : Value → Option Nat
  | .pointer (some a) => some a.block
  | .slice (some a) _ _ => some a.block
  | _ => none

/-- A pointer or slice into a block that was not there before. -/
def IsNew (fr : Bool) (v : Value) (n m : Nat) : Prop := fr = true → ∃ b, blkOf v = some b ∧ n ≤ b ∧ b < m

/-- A value that φ speaks of; nothing that was there is changed. -/
def rUpon (P : Program) (w : World) (fr : Bool) (φ : Value → World → Prop) : Result Next → Prop
  | .ok (.value u) w' => Below w.heap.size w w' ∧ φ u w' ∧ IsNew fr u w.heap.size w'.heap.size
  | .ok (.enter f args) w' => w' = w ∧ Calls P f args w fun e w'' => ∃ v, e = .returned v ∧ Below w.heap.size w w'' ∧ φ v w'' ∧ IsNew fr v w.heap.size w''.heap.size
  | _ => False

def aAt (P : Program) (w0 : World) (o : Oper) (a : Act) (K : Act → Prop) : Prop :=
  ∃ v, (∀ w, (∃ p : Later, w = later w0 p) → qUpon P w v ((execOp a.eval o).run P w)) ∧ K (a.put o.dst v)

attribute [go_sem] qUpon aAt

def wpA (P : Program) (ops : Array Oper) (w0 : World) (B : List Nat) (fin : Act → Prop) : List Oper → Nat → Act → Prop
  | [], _, a => fin a
  | o :: rest, i, a => if B.contains i then wpA P ops w0 B fin rest (i + 1) a
    else if Region.wanted o (yielded ops a.tmps) then aAt P w0 o a (wpA P ops w0 B fin rest (i + 1)) else wpA P ops w0 B fin rest (i + 1) (a.put o.dst undef)

def ctxOf (o : Oper) (ctx : List (Nat × (World → Prop))) (w : World) : Prop := ∀ x ∈ ctx, needs o x.1 = true → x.2 w

def wpB (P : Program) (ops : Array Oper) (w0 : World) (nw : List Nat) (fin : Act → List (Nat × (World → Prop)) → List Value → Prop) : List (Nat × (Value → World → Prop)) → Act → List (Nat × (World → Prop)) → List Value → Prop
  | [], a, ctx, fr => fin a ctx fr
  | (i, φ) :: rest, a, ctx, fr => ∃ o, ops[i]? = some o ∧ Region.wanted o (yielded ops a.tmps) = true ∧
    (∀ p : Later, ctxOf o ctx (later w0 p) → rUpon P (later w0 p) (nw.contains i) φ ((execOp a.eval o).run P (later w0 p))) ∧
    ∀ v, wpB P ops w0 nw fin rest (a.put o.dst v) (ctx ++ [(i, φ v)]) (if nw.contains i then fr ++ [v] else fr)

section
variable {P : Program} {ops : Array Oper} {Q : Exit → Act → World → Prop} {w0 : World} {B : List Nat} {fin : Act → Prop} {o : Oper} {rest : List Oper} {i : Nat} {a : Act}

theorem wpA_nil (h : fin a) : wpA P ops w0 B fin [] i a := h
theorem wpA_b (hb : B.contains i = true) (h : wpA P ops w0 B fin rest (i + 1) a) : wpA P ops w0 B fin (o :: rest) i a := by
  unfold wpA; rw [if_pos hb]; exact h
theorem wpA_step (hb : B.contains i = false) (h : ∀ K : Act → Prop, (∀ a, wpA P ops w0 B fin rest (i + 1) a → K a) → if Region.wanted o (yielded ops a.tmps) then aAt P w0 o a K else K (a.put o.dst undef)) :
    wpA P ops w0 B fin (o :: rest) i a := by
  have := h _ fun _ h => h
  unfold wpA
  rw [if_neg (by rw [hb]; simp)]
  exact this
theorem wpB_nil {nw : List Nat} {fin : Act → List (Nat × (World → Prop)) → List Value → Prop} {ctx : List (Nat × (World → Prop))} {fr : List Value} (h : fin a ctx fr) : wpB P ops w0 nw fin [] a ctx fr := h
theorem wpB_step {nw : List Nat} {fin : Act → List (Nat × (World → Prop)) → List Value → Prop} {ctx : List (Nat × (World → Prop))} {fr : List Value} {φ : Value → World → Prop} {rest : List (Nat × (Value → World → Prop))} (o : Oper) (ho : ops[i]? = some o) (hw : Region.wanted o (yielded ops a.tmps) = true)
    (h1 : ∀ p : Later, ctxOf o ctx (later w0 p) → rUpon P (later w0 p) (nw.contains i) φ ((execOp a.eval o).run P (later w0 p)))
    (h2 : ∀ v, wpB P ops w0 nw fin rest (a.put o.dst v) (ctx ++ [(i, φ v)]) (if nw.contains i then fr ++ [v] else fr)) : wpB P ops w0 nw fin ((i, φ) :: rest) a ctx fr := ⟨o, ho, hw, h1, h2⟩

/-- A does not look at what B writes; B lies among the first n, in the order of the text. -/
def mixB (ops : Array Oper) (n : Nat) (B : List Nat) : Bool :=
  (B.all fun i => decide (i < n)) && ((List.range B.length).all fun k => (List.range k).all fun k' => decide (B.getD k' 0 < B.getD k 0)) &&
  ((List.range n).all fun i => B.contains i || match ops[i]? with
    | some o => B.all fun j => match dstOf ops j with | some t => !(o.looksAt ops).contains t | none => true
    | none => true) &&
  (B.all fun i => match ops[i]? with
    | some o => (List.range n).all fun j => decide (j ≤ i) || B.contains j || match dstOf ops j with | some t => !(o.looksAt ops).contains t | none => true
    | none => true)

theorem fillIn_ext {a0 : Act} {n : Nat} {L L' : Nat → Bool} {V V' : Nat → Value} {t : Tmp} (h : ∀ j, j < n → dstOf ops j = some t → L j = L' j ∧ (L j = true → V j = V' j)) :
    (fillIn a0 ops n L V).tmps[t]? = (fillIn a0 ops n L' V').tmps[t]? := by
  rw [fillIn_eval (L' := L') fun j hj hd => (h j hj hd).1]
  simp only [fillIn, Array.getElem?_mapIdx]
  cases hf : (List.range n).find? (fun j => L' j && dstOf ops j == some t) with
  | none => rfl
  | some j =>
    have h1 := List.find?_some hf
    have h2 := List.mem_range.1 (List.mem_of_find?_eq_some hf)
    simp only [Bool.and_eq_true, beq_iff_eq] at h1
    have h3 := h j h2 h1.2
    simp only [h3.2 (by rw [h3.1]; exact h1.1)]

theorem fillIn_same {a0 : Act} {n : Nat} {L L' : Nat → Bool} {V V' : Nat → Value} (h : ∀ j, j < n → L j = L' j ∧ (L j = true → V j = V' j)) :
    fillIn a0 ops n L V = fillIn a0 ops n L' V' := by
  have : (fillIn a0 ops n L V).tmps = (fillIn a0 ops n L' V').tmps := by
    apply Array.ext_getElem?
    intro t
    exact fillIn_ext fun j hj _ => h j hj
  unfold fillIn at this ⊢
  simp only at this
  rw [this]

/-- What the walk of A gives. -/
theorem steps_of_A {a0 : Act} {n : Nat} (Lk : Look ops n) : ∀ (l : List Oper) (i : Nat) (V : Nat → Value), i + l.length = n → (∀ j, j < l.length → l[j]? = ops[i + j]?) →
      wpA P ops w0 B fin l i (fillIn a0 ops n (fun j => decide (j < i) && !B.contains j) V) →
      ∃ U : Nat → Value, (∀ j, j < i → U j = V j) ∧ fin (fillIn a0 ops n (fun j => !B.contains j) U) ∧
        ∀ (k : Nat) (o : Oper), i ≤ k → k < n → B.contains k = false → ops[k]? = some o → ∀ p : Later,
          opOK P ops o (fillIn a0 ops n (fun j => decide (j < k) && !B.contains j) U) (later w0 p) (fun v w' => Below (later w0 p).heap.size (later w0 p) w' ∧ v = U k)
  | [], i, V, hi, _, h => by
    have : i = n := by simpa using hi
    subst this
    refine ⟨V, fun _ _ => rfl, ?_, fun k o h1 h2 => by omega⟩
    have e : fillIn a0 ops i (fun j => decide (j < i) && !B.contains j) V = fillIn a0 ops i (fun j => !B.contains j) V := fillIn_same fun j hj => ⟨by simp [hj], fun _ => rfl⟩
    rw [← e]; exact h
  | o :: l, i, V, hi, hl, h => by
    have hin : i < n := by simp at hi; omega
    have ho : ops[i]? = some o := by simpa using (hl 0 (by simp)).symm
    have hrest : ∀ j, j < l.length → l[j]? = ops[i + 1 + j]? := fun j hj => by
      have := hl (j + 1) (by simp; omega)
      simpa [Nat.add_assoc, Nat.add_comm 1 j] using this
    unfold wpA at h
    cases hb : B.contains i with
    | true =>
      rw [if_pos hb] at h
      have e : fillIn a0 ops n (fun j => decide (j < i) && !B.contains j) V = fillIn a0 ops n (fun j => decide (j < i + 1) && !B.contains j) V := fillIn_same fun j _ => ⟨by
        by_cases hj : j = i
        · subst hj; rw [hb]; simp
        · congr 1; simp only [decide_eq_decide]; omega, fun _ => rfl⟩
      rw [e] at h
      obtain ⟨U, hU1, hU2, hU3⟩ := steps_of_A Lk l (i + 1) V (by simp at hi; omega) hrest h
      exact ⟨U, fun j hj => hU1 j (by omega), hU2, fun k o' h1 h2 h3 => hU3 k o' (by
        rcases Nat.lt_or_ge i k with h | h
        · exact h
        · have : k = i := by omega
          subst this; rw [hb] at h3; cases h3) h2 h3⟩
    | false =>
      rw [if_neg (by rw [hb]; simp)] at h
      have hput : ∀ v, (fillIn a0 ops n (fun j => decide (j < i) && !B.contains j) V).put o.dst v = fillIn a0 ops n (fun j => decide (j < i + 1) && !B.contains j) (fun j => if j = i then v else V j) := fun v => by
        have e : o.dst = dstOf ops i := by simp [dstOf, ho]
        rw [e, fillIn_put (distinct_of Lk) hin (by simp)]
        refine fillIn_same fun j _ => ⟨?_, fun _ => rfl⟩
        by_cases hj : j = i
        · subst hj; rw [hb]; simp
        · have h1 : (j == i) = false := by simpa using hj
          rw [h1, Bool.or_false]
          congr 1
          simp only [decide_eq_decide]
          omega
      have hex : ∃ v, wpA P ops w0 B fin l (i + 1) ((fillIn a0 ops n (fun j => decide (j < i) && !B.contains j) V).put o.dst v) ∧
          ∀ p : Later, opOK P ops o (fillIn a0 ops n (fun j => decide (j < i) && !B.contains j) V) (later w0 p) (fun u w' => Below (later w0 p).heap.size (later w0 p) w' ∧ u = v) := by
        split at h
        · rename_i hw
          obtain ⟨v, h1, h2⟩ := h
          refine ⟨v, h2, fun p => ?_⟩
          unfold opOK
          rw [if_pos hw]
          have h3 := h1 _ ⟨p, rfl⟩
          generalize (execOp (fillIn a0 ops n (fun j => decide (j < i) && !B.contains j) V).eval o).run P (later w0 p) = r at *
          cases r with
          | ok x w' =>
            cases x <;> simp only [qUpon] at h3 <;> simp only [valOK]
            case value u => exact ⟨by rw [h3.1]; exact Below.refl _ _, h3.2⟩
            case skip => exact ⟨by rw [h3.1]; exact Below.refl _ _, h3.2.symm⟩
            case enter f args =>
              rw [h3.1]
              refine h3.2.mono ?_
              rintro e w'' ⟨rfl, hC'⟩
              exact ⟨v, rfl, hC', rfl⟩
          | halt x w' => simp only [qUpon] at h3
        · rename_i hw
          refine ⟨undef, h, fun p => ?_⟩
          unfold opOK
          rw [if_neg hw]
          exact ⟨Below.refl _ _, rfl⟩
      obtain ⟨v, hv1, hv2⟩ := hex
      rw [hput v] at hv1
      obtain ⟨U, hU1, hU2, hU3⟩ := steps_of_A Lk l (i + 1) _ (by simp at hi; omega) hrest hv1
      have hUi : U i = v := by rw [hU1 i (by omega)]; simp
      have hUV : ∀ j, j < i → U j = V j := fun j hj => by
        rw [hU1 j (by omega)]
        have : j ≠ i := by omega
        simp [this]
      refine ⟨U, hUV, hU2, fun k o' h1 h2 hkb h3 p => ?_⟩
      by_cases hki : k = i
      · subst hki
        rw [ho] at h3
        cases h3
        have e : fillIn a0 ops n (fun j => decide (j < k) && !B.contains j) U = fillIn a0 ops n (fun j => decide (j < k) && !B.contains j) V := fillIn_same fun j _ => ⟨rfl, fun hj => by
          simp only [Bool.and_eq_true, decide_eq_true_eq] at hj
          exact hUV j hj.1⟩
        rw [e, hUi]
        exact hv2 p
      · exact hU3 k o' (by omega) h2 hkb h3 p

/-- What the walk of B gives: for values V of B's operations. -/
theorem steps_of_B {a0 : Act} {n : Nat} (Lk : Look ops n) (U : Nat → Value) {nw : List Nat} {fin : Act → List (Nat × (World → Prop)) → List Value → Prop} (V : Nat → Value) :
    ∀ (l : List (Nat × (Value → World → Prop))) (pre : List (Nat × (Value → World → Prop))),
      (∀ x ∈ pre ++ l, x.1 < n) → ((pre ++ l).map (·.1)).Pairwise (· < ·) →
      wpB P ops w0 nw fin l (fillIn a0 ops n (fun j => !((pre ++ l).map (·.1)).contains j || (pre.map (·.1)).contains j) (fun j => if ((pre ++ l).map (·.1)).contains j then V j else U j)) (pre.map fun x => (x.1, x.2 (V x.1))) ((pre.filter fun x => nw.contains x.1).map fun x => V x.1) →
      (∀ x ∈ l, ∃ o, ops[x.1]? = some o ∧ ∀ p : Later, (∀ y ∈ pre ++ l, y.1 < x.1 → needs o y.1 = true → y.2 (V y.1) (later w0 p)) →
        opOK P ops o (fillIn a0 ops n (fun j => !((pre ++ l).map (·.1)).contains j || decide (j < x.1)) (fun j => if ((pre ++ l).map (·.1)).contains j then V j else U j)) (later w0 p)
          (fun v w' => Below (later w0 p).heap.size (later w0 p) w' ∧ x.2 v w' ∧ IsNew (nw.contains x.1) v (later w0 p).heap.size w'.heap.size)) ∧
      fin (fillIn a0 ops n (fun _ => true) (fun j => if ((pre ++ l).map (·.1)).contains j then V j else U j)) ((pre ++ l).map fun x => (x.1, x.2 (V x.1))) (((pre ++ l).filter fun x => nw.contains x.1).map fun x => V x.1)
  | [], pre, _, _, h => by
    refine ⟨fun x hx => (by cases hx), ?_⟩
    simp only [List.append_nil] at h ⊢
    have e : fillIn a0 ops n (fun j => !(pre.map (·.1)).contains j || (pre.map (·.1)).contains j) (fun j => if (pre.map (·.1)).contains j then V j else U j)
        = fillIn a0 ops n (fun _ => true) (fun j => if (pre.map (·.1)).contains j then V j else U j) := fillIn_same fun j _ => ⟨by simp, fun _ => rfl⟩
    rw [← e]; exact h
  | (i, φ) :: l, pre, hlt, hpw, h => by
    obtain ⟨o, ho, hw, h1, h2⟩ := h
    have hin : i < n := hlt (i, φ) (by simp)
    have hsplit : pre ++ (i, φ) :: l = (pre ++ [(i, φ)]) ++ l := by simp
    have hpw' := hpw
    rw [List.map_append, List.pairwise_append] at hpw'
    have hprei : ∀ j ∈ pre.map (·.1), j < i := fun j hj => hpw'.2.2 j hj i (by simp)
    have hlgt : ∀ j ∈ l.map (·.1), i < j := fun j hj => by
      have := hpw'.2.1
      rw [List.map_cons, List.pairwise_cons] at this
      exact this.1 j hj
    have hnot : ¬ i ∈ pre.map (·.1) := fun hm => Nat.lt_irrefl _ (hprei i hm)
    have hmem : ∀ j, ((pre ++ (i, φ) :: l).map (·.1)).contains j = true ↔ (j ∈ pre.map (·.1) ∨ j = i ∨ j ∈ l.map (·.1)) := fun j => by
      rw [List.contains_iff_mem, List.map_append, List.map_cons, List.mem_append, List.mem_cons]
    have hput : (fillIn a0 ops n (fun j => !((pre ++ (i, φ) :: l).map (·.1)).contains j || (pre.map (·.1)).contains j) (fun j => if ((pre ++ (i, φ) :: l).map (·.1)).contains j then V j else U j)).put o.dst (V i)
        = fillIn a0 ops n (fun j => !(((pre ++ [(i, φ)]) ++ l).map (·.1)).contains j || ((pre ++ [(i, φ)]).map (·.1)).contains j) (fun j => if (((pre ++ [(i, φ)]) ++ l).map (·.1)).contains j then V j else U j) := by
      have e : o.dst = dstOf ops i := by simp [dstOf, ho]
      have hf : (!((pre ++ (i, φ) :: l).map (·.1)).contains i || (pre.map (·.1)).contains i) = false := by
        rw [(hmem i).2 (.inr (.inl rfl))]
        have : (pre.map (·.1)).contains i = false := by
          cases hc : (pre.map (·.1)).contains i with
          | false => rfl
          | true => exact absurd (List.contains_iff_mem.1 hc) hnot
        rw [this]; rfl
      rw [e, fillIn_put (distinct_of Lk) hin hf, ← hsplit]
      refine fillIn_same fun j _ => ⟨?_, fun _ => ?_⟩
      · rw [Bool.or_assoc]
        congr 1
        rw [Bool.eq_iff_iff]
        simp only [Bool.or_eq_true, List.contains_iff_mem, beq_iff_eq, List.map_append, List.mem_append, List.map_cons, List.map_nil, List.mem_singleton]
      · by_cases hj : j = i
        · subst hj
          rw [if_pos rfl, if_pos ((hmem j).2 (.inr (.inl rfl)))]
        · rw [if_neg hj]
    have h3 := h2 (V i)
    rw [hput] at h3
    have hctx : pre.map (fun x => (x.1, x.2 (V x.1))) ++ [(i, φ (V i))] = (pre ++ [(i, φ)]).map fun x => (x.1, x.2 (V x.1)) := by simp
    have hfr : (if nw.contains i then (pre.filter fun x => nw.contains x.1).map (fun x => V x.1) ++ [V i] else (pre.filter fun x => nw.contains x.1).map fun x => V x.1) = ((pre ++ [(i, φ)]).filter fun x => nw.contains x.1).map fun x => V x.1 := by
      rw [List.filter_append, List.map_append]
      by_cases hc : nw.contains i = true
      · rw [if_pos hc]; rw [List.filter_cons_of_pos (by exact hc)]; rfl
      · have hc' : nw.contains i = false := by simpa using hc
        rw [if_neg hc]; rw [List.filter_cons_of_neg (by simpa using hc)]; simp
    rw [hctx, hfr] at h3
    obtain ⟨g1, g2⟩ := steps_of_B Lk U V l (pre ++ [(i, φ)]) (by rw [← hsplit]; exact hlt) (by rw [← hsplit]; exact hpw) h3
    rw [← hsplit] at g1 g2
    refine ⟨fun x hx => ?_, g2⟩
    rcases List.mem_cons.1 hx with rfl | hx
    · refine ⟨o, ho, fun p hp => ?_⟩
      have h4 := h1 p (fun y hy hn => by
        obtain ⟨z, hz, rfl⟩ := List.mem_map.1 hy
        exact hp z (by simp [hz]) (hprei z.1 (List.mem_map_of_mem hz)) hn)
      have e : fillIn a0 ops n (fun j => !((pre ++ (i, φ) :: l).map (·.1)).contains j || (pre.map (·.1)).contains j) (fun j => if ((pre ++ (i, φ) :: l).map (·.1)).contains j then V j else U j)
          = fillIn a0 ops n (fun j => !((pre ++ (i, φ) :: l).map (·.1)).contains j || decide (j < i)) (fun j => if ((pre ++ (i, φ) :: l).map (·.1)).contains j then V j else U j) := fillIn_same fun j _ => ⟨by
        cases hc : ((pre ++ (i, φ) :: l).map (·.1)).contains j with
        | false => rfl
        | true =>
          rw [Bool.not_true, Bool.false_or, Bool.false_or, Bool.eq_iff_iff, List.contains_iff_mem, decide_eq_true_eq]
          rcases (hmem j).1 hc with hj | hj | hj
          · exact ⟨fun _ => hprei j hj, fun _ => hj⟩
          · subst hj; exact ⟨fun h => absurd h hnot, fun h => absurd h (Nat.lt_irrefl _)⟩
          · have := hlgt j hj
            exact ⟨fun h => by have := hprei j h; omega, fun h => by omega⟩, fun _ => rfl⟩
      rw [← e]
      unfold opOK
      rw [if_pos hw]
      generalize (execOp (fillIn a0 ops n (fun j => !((pre ++ (i, φ) :: l).map (·.1)).contains j || (pre.map (·.1)).contains j) (fun j => if ((pre ++ (i, φ) :: l).map (·.1)).contains j then V j else U j)).eval o).run P (later w0 p) = r at *
      cases r with
      | ok x w' =>
        cases x <;> simp only [rUpon] at h4 <;> simp only [valOK]
        case value u => exact h4
        case enter f args =>
          rw [h4.1]
          exact h4.2
      | halt x w' => simp only [rUpon] at h4
    · exact g1 x hx

structure Mix (ops : Array Oper) (n : Nat) (B : List Nat) : Prop where
  lt : ∀ i ∈ B, i < n
  inc : B.Pairwise (· < ·)
  apart : ∀ (i : Nat) (o : Oper), i < n → B.contains i = false → ops[i]? = some o → ∀ j ∈ B, ∀ t, dstOf ops j = some t → t ∉ o.looksAt ops
  behind : ∀ (i : Nat) (o : Oper), i ∈ B → ops[i]? = some o → ∀ j, j < n → i < j → B.contains j = false → ∀ t, dstOf ops j = some t → t ∉ o.looksAt ops

theorem mix_of {n : Nat} {B : List Nat} (h : mixB ops n B = true) : Mix ops n B := by
  simp only [mixB, Bool.and_eq_true] at h
  obtain ⟨⟨⟨h1, h2⟩, h3⟩, h4⟩ := h
  refine ⟨fun i hi => by simpa using List.all_eq_true.1 h1 i hi, ?_, fun i o hi hb ho j hj t ht hm => ?_, fun i o hi ho j hj hij hb t ht hm => ?_⟩
  · rw [List.pairwise_iff_getElem]
    intro k' k hk' hk hlt
    have := List.all_eq_true.1 (List.all_eq_true.1 h2 k (List.mem_range.2 hk)) k' (List.mem_range.2 hlt)
    simpa [List.getD_eq_getElem?_getD, List.getElem?_eq_getElem hk, List.getElem?_eq_getElem hk'] using this
  · have := List.all_eq_true.1 h3 i (List.mem_range.2 hi)
    rw [hb, ho] at this
    simp only [Bool.false_or] at this
    have := List.all_eq_true.1 this j hj
    rw [ht] at this
    simp at this
    exact this hm
  · have := List.all_eq_true.1 h4 i hi
    rw [ho] at this
    simp only at this
    have := List.all_eq_true.1 this j (List.mem_range.2 hj)
    rw [hb, ht] at this
    simp at this
    rcases this with h | h
    · omega
    · exact h hm

theorem key_unique : ∀ (L : List (Nat × (Value → World → Prop))), (L.map (·.1)).Pairwise (· < ·) → ∀ x ∈ L, ∀ y ∈ L, x.1 = y.1 → x = y
  | [], _, _, hx, _, _, _ => by cases hx
  | z :: L, h, x, hx, y, hy, hxy => by
    rw [List.map_cons, List.pairwise_cons] at h
    rcases List.mem_cons.1 hx with h1 | h1 <;> rcases List.mem_cons.1 hy with h2 | h2
    · rw [h1, h2]
    · have := h.1 y.1 (List.mem_map_of_mem h2)
      rw [← hxy, h1] at this
      exact absurd this (Nat.lt_irrefl _)
    · have := h.1 x.1 (List.mem_map_of_mem h1)
      rw [hxy, h2] at this
      exact absurd this (Nat.lt_irrefl _)
    · exact key_unique L h.2 x h1 y h2 hxy

theorem any_mix (n : Nat) (nw : List Nat) (ψ : List (Nat × (Value → World → Prop))) {a0 : Act} {l : List Oper} {w1 : World} (hw1 : ∃ p : Later, w1 = later w0 p) (hB : okB l.toArray n = true) (hM : mixB l.toArray n (ψ.map (·.1)) = true)
    (hkeep : ∀ x ∈ ψ, ∀ (v : Value) (w w' : World), x.2 v w → Below w.heap.size w w' → x.2 v w')
    (h : wpA P l.toArray w0 (ψ.map (·.1)) (fun a => wpB P l.toArray w0 nw (fun a' ctx fr => ∀ p : Later, (∀ x ∈ ctx, x.2 (later w0 p)) → fr.Pairwise (fun u v => blkOf u ≠ blkOf v) → wpList P l.toArray Q (l.drop n) a' (later w0 p)) ψ a [] []) (l.take n) 0 a0) :
    Any P l Q a0 w1 := by
  have Lk := look_of hB
  have M := mix_of hM
  have hn : n ≤ l.length := by simpa using Lk.le
  have h0 : fillIn a0 l.toArray n (fun j => decide (j < 0) && !(ψ.map (·.1)).contains j) (fun _ => undef) = a0 := by
    have : (fun j => decide (j < 0) && !(ψ.map (·.1)).contains j) = fun _ : Nat => false := by funext j; simp
    rw [this, fillIn_none]
  rw [← h0] at h
  obtain ⟨U, _, hU2, hU3⟩ := steps_of_A Lk (l.take n) 0 (fun _ => undef) (by simp; omega) (fun j hj => by
    have hj' : j < n := by simp at hj; omega
    simp [hj']) h
  have hlt : ∀ x ∈ ([] : List (Nat × (Value → World → Prop))) ++ ψ, x.1 < n := fun x hx => M.lt x.1 (List.mem_map_of_mem (by simpa using hx))
  have hB2 : ∀ V : Nat → Value, _ := fun V => steps_of_B (P := P) (w0 := w0) (a0 := a0) Lk U (nw := nw) (fin := fun a' ctx fr => ∀ p : Later, (∀ x ∈ ctx, x.2 (later w0 p)) → fr.Pairwise (fun u v => blkOf u ≠ blkOf v) → wpList P l.toArray Q (l.drop n) a' (later w0 p)) V ψ [] hlt (by simpa using M.inc) (by
    have e : fillIn a0 l.toArray n (fun j => !((([] : List (Nat × (Value → World → Prop))) ++ ψ).map (·.1)).contains j || (([] : List (Nat × (Value → World → Prop))).map (·.1)).contains j) (fun j => if ((([] : List (Nat × (Value → World → Prop))) ++ ψ).map (·.1)).contains j then V j else U j)
        = fillIn a0 l.toArray n (fun j => !(ψ.map (·.1)).contains j) U := fillIn_same fun j _ => ⟨by simp, fun hj => by
      have : ((([] : List (Nat × (Value → World → Prop))) ++ ψ).map (·.1)).contains j = false := by simpa using hj
      rw [if_neg (by rw [this]; simp)]⟩
    rw [e]; exact hU2)
  refine any_rel (n := n) (C := fun w' => ∃ p : Later, w' = later w0 p) (R := fun w w' => Below w.heap.size w w')
    (Φ := fun j v w => ((ψ.map (·.1)).contains j = false → v = U j) ∧ (∀ x ∈ ψ, x.1 = j → x.2 v w) ∧ ((ψ.map (·.1)).contains j = true → IsNew (nw.contains j) v 0 w.heap.size))
    (Ψ := fun i v w => (ψ.map (·.1)).contains i = true → nw.contains i = true → ∃ b, blkOf v = some b ∧ w.heap.size ≤ b)
    (D := fun i v j u => (ψ.map (·.1)).contains i = true → (ψ.map (·.1)).contains j = true → nw.contains i = true → nw.contains j = true → blkOf v ≠ blkOf u) hB hw1 ⟨?_, ?_, ?_, ?_, ?_⟩
  · rintro w w' ⟨p, rfl⟩ hb
    exact later_of_below ((below_later w0 p).trans (hb.mono (below_later w0 p).size))
  · rintro j v w w' ⟨h1, h2, h3⟩ hb
    exact ⟨h1, fun x hx hj => hkeep x hx v w w' (h2 x hx hj) hb, fun hc hf => by
      obtain ⟨b, g1, g2, g3⟩ := h3 hc hf
      exact ⟨b, g1, g2, Nat.lt_of_lt_of_le g3 hb.size⟩⟩
  · rintro i o hi ho V w ⟨p, rfl⟩ hV
    have hpair : ∀ j, j < n → ∀ t ∈ o.looksAt l.toArray, dstOf l.toArray j = some t → i = j ∨ (j < i ∧ needs o j = true) ∨ i < j := fun j hj t ht hd => by
      have hp := Lk.pair i j hi hj
      unfold pairOk at hp
      unfold dstOf at hd
      cases hoj : l.toArray[j]? with
      | none => rw [hoj] at hd; cases hd
      | some oj =>
        rw [hoj] at hd
        simp only [Option.bind_some] at hd
        simp only [ho, hoj, hd] at hp
        by_cases hij : i = j
        · exact .inl hij
        · simp only [beq_iff_eq, hij, false_or, Bool.and_eq_true, Bool.or_eq_true, Bool.not_eq_true', List.contains_eq_mem, decide_eq_true_eq, decide_eq_false_iff_not, bne_iff_ne] at hp
          rcases hp.2 with (hp2 | hp2) | hp2
          · exact absurd ht hp2
          · exact .inr (.inl hp2)
          · exact .inr (.inr hp2.1)
    rcases Bool.eq_false_or_eq_true ((ψ.map (·.1)).contains i) with hb | hb
    rotate_left
    · have h1 := hU3 i o (Nat.zero_le _) hi hb ho p
      have h2 : opOK P l.toArray o (fillIn a0 l.toArray n (fun j => decide (j < i)) V) (later w0 p) (fun v w' => Below (later w0 p).heap.size (later w0 p) w' ∧ v = U i) := by
        refine opOK_congr (Lk.sel i o ho) (fun t ht => fillIn_ext fun j hj hd => ?_) h1
        have hbj : (ψ.map (·.1)).contains j = false := by
          rcases Bool.eq_false_or_eq_true ((ψ.map (·.1)).contains j) with hc | hc
          · exact absurd ht (M.apart i o hi hb ho j (List.contains_iff_mem.1 hc) t hd)
          · exact hc
        rw [hbj]
        refine ⟨by simp, fun hl => ?_⟩
        simp only [Bool.not_false, Bool.and_true, decide_eq_true_eq] at hl
        rcases hpair j hj t ht hd with h3 | h3 | h3
        · omega
        · exact ((hV j hj h3.2).1 hbj).symm
        · omega
      unfold opOK at h2 ⊢
      split
      · rename_i hw
        rw [if_pos hw] at h2
        generalize (execOp (fillIn a0 l.toArray n (fun j => decide (j < i)) V).eval o).run P (later w0 p) = r at *
        have key : ∀ v w', (Below (later w0 p).heap.size (later w0 p) w' ∧ v = U i) → (Below (later w0 p).heap.size (later w0 p) w' ∧ (((ψ.map (·.1)).contains i = false → v = U i) ∧ (∀ x ∈ ψ, x.1 = i → x.2 v w') ∧ ((ψ.map (·.1)).contains i = true → IsNew (nw.contains i) v 0 w'.heap.size)) ∧ ((ψ.map (·.1)).contains i = true → nw.contains i = true → ∃ b, blkOf v = some b ∧ (later w0 p).heap.size ≤ b)) := fun v w' hk =>
          ⟨hk.1, ⟨fun _ => hk.2, (fun x hx hxi => by
            have : (ψ.map (·.1)).contains i = true := List.contains_iff_mem.2 (hxi ▸ List.mem_map_of_mem hx)
            rw [hb] at this; cases this), fun hc => by rw [hb] at hc; cases hc⟩, fun hc => by rw [hb] at hc; cases hc⟩
        cases r with
        | ok x w' =>
          cases x <;> simp only [valOK] at h2 ⊢
          case value u => exact key _ _ h2
          case skip => exact key _ _ h2
          case enter f args => exact h2.mono fun e w'' ⟨v, he, hk⟩ => ⟨v, he, key _ _ hk⟩
        | halt x w' => simp only [valOK] at h2
      · rename_i hw
        rw [if_neg hw] at h2
        exact ⟨h2.1, ⟨fun _ => h2.2, (fun x hx hxi => by
            have : (ψ.map (·.1)).contains i = true := List.contains_iff_mem.2 (hxi ▸ List.mem_map_of_mem hx)
            rw [hb] at this; cases this), fun hc => by rw [hb] at hc; cases hc⟩, fun hc => by rw [hb] at hc; cases hc⟩
    · obtain ⟨x, hx, hxi⟩ := List.mem_map.1 (List.contains_iff_mem.1 hb)
      subst hxi
      obtain ⟨o', ho', h1⟩ := (hB2 V).1 x hx
      rw [ho] at ho'
      cases ho'
      have h2 := h1 p (fun y hy hlt' hn => (hV y.1 (hlt y (by simpa using hy)) hn).2.1 y (by simpa using hy) rfl)
      have h3 : opOK P l.toArray o (fillIn a0 l.toArray n (fun j => decide (j < x.1)) V) (later w0 p) (fun v w' => Below (later w0 p).heap.size (later w0 p) w' ∧ x.2 v w' ∧ IsNew (nw.contains x.1) v (later w0 p).heap.size w'.heap.size) := by
        refine opOK_congr (Lk.sel _ o ho) (fun t ht => fillIn_ext fun j hj hd => ?_) h2
        simp only [List.nil_append]
        rcases Bool.eq_false_or_eq_true ((ψ.map (·.1)).contains j) with hbj | hbj
        · have hbj' : ((([] : List (Nat × (Value → World → Prop))) ++ ψ).map (·.1)).contains j = true := by simpa using hbj
          exact ⟨by show (!((([] : List (Nat × (Value → World → Prop))) ++ ψ).map (·.1)).contains j || decide (j < x.1)) = decide (j < x.1); rw [hbj']; rfl, fun _ => if_pos (by simpa using hbj)⟩
        · rcases hpair j hj t ht hd with h4 | h4 | h4
          · subst h4; rw [hb] at hbj; cases hbj
          · exact ⟨by simp [h4.1], fun _ => by rw [(hV j hj h4.2).1 hbj]; exact if_neg (by simpa using hbj)⟩
          · exact absurd ht (M.behind x.1 o (List.contains_iff_mem.1 hb) ho j hj h4 hbj t hd)
      have uniq : ∀ y ∈ ψ, y.1 = x.1 → y = x := fun y hy hyx => key_unique ψ M.inc y hy x hx hyx
      have key : ∀ v w', (Below (later w0 p).heap.size (later w0 p) w' ∧ x.2 v w' ∧ IsNew (nw.contains x.1) v (later w0 p).heap.size w'.heap.size) → (Below (later w0 p).heap.size (later w0 p) w' ∧ (((ψ.map (·.1)).contains x.1 = false → v = U x.1) ∧ (∀ y ∈ ψ, y.1 = x.1 → y.2 v w') ∧ ((ψ.map (·.1)).contains x.1 = true → IsNew (nw.contains x.1) v 0 w'.heap.size)) ∧ ((ψ.map (·.1)).contains x.1 = true → nw.contains x.1 = true → ∃ b, blkOf v = some b ∧ (later w0 p).heap.size ≤ b)) := fun v w' hk =>
        ⟨hk.1, ⟨fun hc => (by rw [hb] at hc; cases hc), fun y hy hyx => by rw [uniq y hy hyx]; exact hk.2.1, fun _ hf => by
          obtain ⟨b, g1, g2, g3⟩ := hk.2.2 hf
          exact ⟨b, g1, Nat.zero_le _, g3⟩⟩, fun _ hf => by
          obtain ⟨b, g1, g2, g3⟩ := hk.2.2 hf
          exact ⟨b, g1, g2⟩⟩
      unfold opOK at h3 ⊢
      split
      · rename_i hw
        rw [if_pos hw] at h3
        generalize (execOp (fillIn a0 l.toArray n (fun j => decide (j < x.1)) V).eval o).run P (later w0 p) = r at *
        cases r with
        | ok z w' =>
          cases z <;> simp only [valOK] at h3 ⊢
          case value u => exact key _ _ h3
          case skip => exact key _ _ h3
          case enter f args => exact h3.mono fun e w'' ⟨v, he, hk⟩ => ⟨v, he, key _ _ hk⟩
        | halt z w' => simp only [valOK] at h3
      · rename_i hw
        rw [if_neg hw] at h3
        exact key _ _ h3
  · rintro i j v u w hij hΨ ⟨_, _, h3⟩
    have : (ψ.map (·.1)).contains i = true → (ψ.map (·.1)).contains j = true → nw.contains i = true → nw.contains j = true → blkOf v ≠ blkOf u := fun c1 c2 c3 c4 e => by
      obtain ⟨b, g1, g2⟩ := hΨ c1 c3
      obtain ⟨c, k1, _, k3⟩ := h3 c2 c4
      rw [g1, k1] at e
      cases e
      omega
    exact ⟨this, fun c1 c2 c3 c4 e => this c2 c1 c4 c3 e.symm⟩
  · rintro V w ⟨p, rfl⟩ hV hD
    have h1 := (hB2 V).2 p (fun y hy => by
      obtain ⟨z, hz, rfl⟩ := List.mem_map.1 hy
      exact (hV z.1 (hlt z hz)).2.1 z (by simpa using hz) rfl) (by
        rw [List.nil_append, List.pairwise_map]
        have hinc := M.inc
        rw [List.pairwise_map] at hinc
        refine List.Pairwise.imp_of_mem ?_ (List.Pairwise.filter _ hinc)
        intro x y hx hy hlt1
        obtain ⟨hx, hcx⟩ := List.mem_filter.1 hx
        obtain ⟨hy, hcy⟩ := List.mem_filter.1 hy
        exact hD x.1 y.1 (hlt x (by simpa using hx)) (hlt y (by simpa using hy)) (by omega) (List.contains_iff_mem.2 (List.mem_map_of_mem hx)) (List.contains_iff_mem.2 (List.mem_map_of_mem hy)) hcx hcy)
    have e : fillIn a0 l.toArray n (fun j => decide (j < n)) V = fillIn a0 l.toArray n (fun _ => true) (fun j => if ((([] : List (Nat × (Value → World → Prop))) ++ ψ).map (·.1)).contains j then V j else U j) := fillIn_same fun j hj => ⟨by simp [hj], fun _ => by
      simp only [List.nil_append]
      rcases Bool.eq_false_or_eq_true ((ψ.map (·.1)).contains j) with hbj | hbj
      · exact (if_pos (by simpa using hbj)).symm
      · rw [(hV j hj).1 hbj]; exact (if_neg (by simpa using hbj)).symm⟩
    rw [e]
    exact h1

theorem wp_region_mix {id : Nat} (n : Nat) (nw : List Nat) (ψ : List (Nat × (Value → World → Prop))) {a0 : Act} {l : List Oper} (hm : P.follows .mixedOrders = true) (hB : okB l.toArray n = true) (hM : mixB l.toArray n (ψ.map (·.1)) = true)
    (hkeep : ∀ x ∈ ψ, ∀ (v : Value) (w w' : World), x.2 v w → Below w.heap.size w w' → x.2 v w')
    (h : wpA P l.toArray w0 (ψ.map (·.1)) (fun a => wpB P l.toArray w0 nw (fun a' ctx fr => ∀ p : Later, (∀ x ∈ ctx, x.2 (later w0 p)) → fr.Pairwise (fun u v => blkOf u ≠ blkOf v) → wpList P l.toArray Q (l.drop n) a' (later w0 p)) ψ a [] []) (l.take n) 0 a0) :
    (Code.region id l.toArray true).wp P Q a0 w0 :=
  any_of_region hm (any_mix n nw ψ ⟨⟨w0.drawn + 1, #[]⟩, by simp [later]⟩ hB hM hkeep h)

end
end Rel
end Go.Proofs.Ytlgjnidphldiiaa
