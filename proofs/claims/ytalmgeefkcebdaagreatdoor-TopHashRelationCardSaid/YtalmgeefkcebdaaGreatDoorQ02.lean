/- A region that draws its order, whose operations read and whose calls lay new blocks alone: one walk, in the order of the text. Conditions: the region's own static look, and one value for each operation in every later world. -/
import Derived.Deep.QuietTactic
import Derived.BigQuiet
import Derived.Below
import Derived.WalkKit
import Derived.Orders
namespace Go.Proofs.YtalmgeefkcebdaaGreatDoor
open Go.RowKit

/-- What may have come to a world: draws, and blocks behind its own. -/
structure Later where
  d : Nat
  os : Array Obj
  deriving Inhabited

def later (w : World) (p : Later) : World := { w with heap := w.heap ++ p.os, drawn := p.d }

theorem below_later (w : World) (p : Later) : Below w.heap.size w (later w p) :=
  ⟨rfl, rfl, rfl, by simp [later], fun k hk => by simp [later, Array.getElem?_append, hk]⟩

theorem later_of_below {w w' : World} (h : Below w.heap.size w w') : ∃ p : Later, w' = later w p := by
  refine ⟨⟨w'.drawn, w'.heap.extract w.heap.size w'.heap.size⟩, ?_⟩
  obtain ⟨heap', tape', drawn', os', output'⟩ := w'
  have e1 : os' = w.os := h.os
  have e2 : tape' = w.tape := h.tape
  have e3 : output' = w.output := h.output
  have hs : w.heap.size ≤ heap'.size := h.size
  have hb : ∀ k, k < w.heap.size → heap'[k]? = w.heap[k]? := h.block
  subst e1 e2 e3
  have eh : heap' = w.heap ++ heap'.extract w.heap.size heap'.size := by
    apply Array.ext_getElem?
    intro k
    by_cases hk : k < w.heap.size
    · rw [Array.getElem?_append_left hk]; exact hb k hk
    · rw [Array.getElem?_append_right (by omega), Array.getElem?_extract]
      by_cases hk2 : k < heap'.size
      · rw [if_pos (by omega)]; congr 1; omega
      · rw [if_neg (by omega), Array.getElem?_eq_none (by omega)]
  simp only [later]
  congr 1

theorem cell_lt {w : World} {a : Addr} {v : Value} (h : w.cell? a = some v) : a.block < w.heap.size := by
  unfold World.cell? at h
  by_cases hb : a.block < w.heap.size
  · exact hb
  · rw [Array.getElem?_eq_none (by omega)] at h; simp at h

/-- A cell reads as it did, in every later world. -/
theorem cell_later' {w : World} {a : Addr} {v : Value} (h : w.cell? a = some v) : ∀ p, (later w p).cell? a = some v := fun p => by
  rw [(below_later w p).cell (cell_lt h)]; exact h

theorem cell_below {w w' : World} (hb : Below w.heap.size w w') {a : Addr} {v : Value} (h : w.cell? a = some v) : w'.cell? a = some v := by
  rw [hb.cell (cell_lt h)]; exact h

/-- A callee's contract, met in a later world. -/
theorem Calls.later_of {P : Program} {f : FuncId} {args : Array Value} {w : World} {p : Later} {v : Value}
    (h : Calls P f args (later w p) fun e w' => e = .returned v ∧ Below (later w p).heap.size (later w p) w') : Calls P f args (later w p) fun e w'' => e = .returned v ∧ ∃ p' : Later, w'' = later w p' :=
  h.mono fun _ _ ⟨he, hb⟩ => ⟨he, later_of_below ((below_later w p).trans ⟨hb.os, hb.tape, hb.output, hb.size, fun k hk => hb.block k (Nat.lt_of_lt_of_le hk (below_later w p).size)⟩)⟩

theorem below_of_later {w w' : World} (h : ∃ p : Later, w' = later w p) : Below w.heap.size w w' := by
  obtain ⟨p, rfl⟩ := h
  exact below_later w p

theorem wp_region_later {P : Program} {id : Nat} {Q : Exit → Act → World → Prop} {a : Act} {w : World} {l : List Oper} (hm : P.follows .mixedOrders = true) (hB : Region.lexB .any l.toArray = true)
    (h : wpQuiet P l.toArray (fun w' => ∃ p : Later, w' = later w p) (fun a' => ∀ w', (∃ p : Later, w' = later w p) → Q .normal a' w') l a) : (Code.region id l.toArray true).wp P Q a w :=
  wp_region_quiet (C := fun w' => ∃ p : Later, w' = later w p) hm hB ⟨⟨w.drawn + 1, #[]⟩, by simp [later]⟩ (by simpa using h)

namespace Rel

/-- Operation o waits for operation j. -/
def needs (o : Oper) (j : Nat) : Bool := o.after.any fun e => Region.binds .any e && e.on == j

theorem needs_spec {o : Oper} {j : Nat} : needs o j = true ↔ ∃ e ∈ o.after, Region.binds .any e = true ∧ e.on = j := by
  unfold needs
  rw [Array.any_eq_true']
  simp

/-- Through others. -/
def anc (ops : Array Oper) : Nat → Nat → Nat → Bool
  | 0, _, _ => false
  | f + 1, t, i => match ops[t]? with
    | some o => needs o i || (List.range t).any fun j => needs o j && anc ops f j i
    | none => false

def dstOf (ops : Array Oper) (j : Nat) : Option Tmp := (ops[j]?).bind (·.dst)

def pairOk (ops : Array Oper) (i j : Nat) : Bool :=
  match ops[i]?, ops[j]? with
  | some oi, some oj => i == j || (match oj.dst with
    | some t => oi.dst != some t && (!(oi.looksAt ops).contains t || (decide (j < i) && needs oi j) || (decide (i < j) && needs oj i))
    | none => true)
  | _, _ => true

def isSelect : Op → Bool
  | .select _ _ => true
  | _ => false

/-- The look at the region's text. -/
def okB (ops : Array Oper) (n : Nat) : Bool :=
  decide (n ≤ ops.size) && (ops.all fun o => !isSelect o.op) &&
  ((List.range ops.size).all fun i => match ops[i]? with | some o => o.after.all fun e => !Region.binds .any e || decide (e.on < i) | none => true) &&
  ((List.range n).all fun i => (List.range n).all fun j => pairOk ops i j) &&
  ((List.range ops.size).all fun t => decide (t < n) || (List.range t).all fun i => anc ops ops.size t i)

section
variable {P : Program} {ops : Array Oper} {Q : Exit → Act → World → Prop}

/-- The frame a0, with the values V of the operations in L put into their slots. -/
def fillIn (a0 : Act) (ops : Array Oper) (n : Nat) (L : Nat → Bool) (V : Nat → Value) : Act :=
  { a0 with tmps := a0.tmps.mapIdx fun t v => match (List.range n).find? (fun j => L j && dstOf ops j == some t) with
    | some j => V j
    | none => v }

theorem find_congr {p q : Nat → Bool} (l : List Nat) (h : ∀ j ∈ l, p j = q j) : l.find? p = l.find? q := by
  induction l with
  | nil => rfl
  | cons x l ih =>
    rw [List.find?_cons, List.find?_cons, h x (by simp), ih fun j hj => h j (by simp [hj])]

theorem fillIn_none (a0 : Act) (n : Nat) (V : Nat → Value) : fillIn a0 ops n (fun _ => false) V = a0 := by
  have : ∀ t, (List.range n).find? (fun j => (fun _ => false) j && dstOf ops j == some t) = none := fun t => by
    rw [List.find?_eq_none]; simp
  simp only [fillIn, this]
  have h : a0.tmps.mapIdx (fun _ v => v) = a0.tmps := by
    apply Array.ext <;> simp
  rw [h]

/-- Distinct slots. -/
def Distinct (ops : Array Oper) (n : Nat) : Prop := ∀ i j t, i < n → j < n → dstOf ops i = some t → dstOf ops j = some t → i = j

theorem fillIn_put {a0 : Act} {n i : Nat} (hd : Distinct ops n) (hi : i < n) {L : Nat → Bool} (hL : L i = false) (V : Nat → Value) (v : Value) :
    (fillIn a0 ops n L V).put (dstOf ops i) v = fillIn a0 ops n (fun j => L j || j == i) (fun j => if j = i then v else V j) := by
  have key : ∀ t, dstOf ops i ≠ some t → (List.range n).find? (fun j => (L j || j == i) && dstOf ops j == some t) = (List.range n).find? (fun j => L j && dstOf ops j == some t) := fun t ht => by
    refine find_congr _ fun j _ => ?_
    by_cases hji : j = i
    · have : (dstOf ops j == some t) = false := by rw [hji]; simpa using ht
      rw [this, Bool.and_false, Bool.and_false]
    · have : (j == i) = false := by simpa using hji
      rw [this, Bool.or_false]
  have key2 : ∀ t j, (List.range n).find? (fun j => L j && dstOf ops j == some t) = some j → j ≠ i := fun t j h e => by
    have := List.find?_some h
    subst e
    simp [hL] at this
  cases hdst : dstOf ops i with
  | none =>
    simp only [Act.put, fillIn]
    congr 1
    apply Array.ext
    · simp
    · intro t h1 h2
      rw [Array.getElem_mapIdx, Array.getElem_mapIdx, key t (by rw [hdst]; simp)]
      cases hf : (List.range n).find? (fun j => L j && dstOf ops j == some t) with
      | none => rfl
      | some j => simp [key2 t j hf]
  | some d =>
    simp only [Act.put, fillIn]
    congr 1
    apply Array.ext
    · simp
    · intro t h1 h2
      simp only [Array.getElem_mapIdx]
      by_cases htd : d = t
      · subst htd
        rw [Array.getElem_setIfInBounds_self]
        have hfind : (List.range n).find? (fun j => (L j || j == i) && dstOf ops j == some d) = some i := by
          have hex : ((List.range n).find? (fun j => (L j || j == i) && dstOf ops j == some d)).isSome = true := by
            rw [List.find?_isSome]
            exact ⟨i, List.mem_range.2 hi, by simp [hdst]⟩
          obtain ⟨j, hj⟩ := Option.isSome_iff_exists.1 hex
          have h3 := List.find?_some hj
          have h4 := List.mem_of_find?_eq_some hj
          simp only [Bool.and_eq_true, beq_iff_eq] at h3
          rw [hj, hd j i d (List.mem_range.1 h4) hi h3.2 hdst]
        rw [hfind]
        simp
      · rw [Array.getElem_setIfInBounds_ne (by simpa using h2) htd, Array.getElem_mapIdx, key t (by rw [hdst]; simpa using htd)]
        cases hf : (List.range n).find? (fun j => L j && dstOf ops j == some t) with
        | none => rfl
        | some j => simp [key2 t j hf]

theorem fillIn_eval {a0 : Act} {n : Nat} {L L' : Nat → Bool} {V : Nat → Value} {t : Tmp} (h : ∀ j, j < n → dstOf ops j = some t → L j = L' j) :
    (fillIn a0 ops n L V).tmps[t]? = (fillIn a0 ops n L' V).tmps[t]? := by
  simp only [fillIn, Array.getElem?_mapIdx]
  rw [find_congr (q := fun j => L' j && dstOf ops j == some t)]
  intro j hj
  by_cases hd : dstOf ops j = some t
  · rw [h j (List.mem_range.1 hj) hd]
  · have : (dstOf ops j == some t) = false := by simpa using hd
    simp [this]

/-- What is asked of an operation's outcome: a value, and R of it and of the world behind it. -/
def valOK (P : Program) (R : Value → World → Prop) : Result Next → Prop
  | .ok (.value v) w' => R v w'
  | .ok .skip w' => R undef w'
  | .ok (.enter f args) w' => Calls P f args w' fun e w'' => ∃ v, e = .returned v ∧ R v w''
  | _ => False

def opOK (P : Program) (ops : Array Oper) (o : Oper) (a : Act) (w : World) (R : Value → World → Prop) : Prop :=
  if Region.wanted o (yielded ops a.tmps) then valOK P R ((execOp a.eval o).run P w) else R undef w

theorem opOK_imp {o : Oper} {a : Act} {w : World} {R R' : Value → World → Prop} (h : ∀ v w', R v w' → R' v w') (h1 : opOK P ops o a w R) : opOK P ops o a w R' := by
  unfold opOK at *
  split
  · rename_i hw
    rw [if_pos hw] at h1
    generalize (execOp a.eval o).run P w = r at *
    cases r with
    | ok x w' =>
      cases x <;> simp only [valOK] at h1 ⊢
      case value u => exact h _ _ h1
      case skip => exact h _ _ h1
      case enter f args => exact h1.mono fun e w'' ⟨v, he, hk⟩ => ⟨v, he, h _ _ hk⟩
    | halt x w' => simp only [valOK] at h1
  · rename_i hw
    rw [if_neg hw] at h1
    exact h _ _ h1

/-- Whatever o looks at is the same. -/
theorem opOK_congr {o : Oper} (hs : isSelect o.op = false) {a a' : Act} {w : World} {R : Value → World → Prop}
    (h : ∀ t ∈ o.looksAt ops, a.tmps[t]? = a'.tmps[t]?) (hok : opOK P ops o a w R) : opOK P ops o a' w R := by
  have he : execOp a'.eval o = execOp a.eval o := execOp_congr o (fun cs b e => by rw [e] at hs; simp [isSelect] at hs) fun x hx => by
    cases x with
    | tmp t =>
      have := h t (List.mem_append_left _ (List.mem_filterMap.2 ⟨.tmp t, by simpa using hx, rfl⟩))
      simp [Act.eval, this]
    | _ => rfl
  have hw : Region.wanted o (yielded ops a'.tmps) = Region.wanted o (yielded ops a.tmps) := by
    unfold Region.wanted
    cases hg : o.guard with
    | none => rfl
    | some g =>
      obtain ⟨g, b⟩ := g
      simp only [yielded]
      cases hd : (ops[g]?).bind (·.dst) with
      | none => rfl
      | some d =>
        have := h d (List.mem_append_right _ (by simp [hg, hd]))
        simp [this]
  unfold opOK at *
  rw [hw, he]
  exact hok

theorem wpOp_of_opOK {i : Nat} {o : Oper} {a : Act} {w : World} {R : Value → World → Prop} {K : Act → World → Prop} (ho : ops[i]? = some o)
    (hok : opOK P ops o a w R) (hK : ∀ v w', R v w' → K (a.put o.dst v) w') : wpOp P ops Q i K a w := by
  unfold wpOp
  simp only [ho]
  unfold opOK at hok
  split
  · rename_i hw
    rw [if_pos hw] at hok
    refine .inl ?_
    unfold Oper.wp
    generalize (execOp a.eval o).run P w = r at *
    cases r with
    | ok x w' =>
      cases x <;> simp only [valOK] at hok <;> simp only [Oper.upon]
      case value v => exact hK _ _ hok
      case skip => exact hK _ _ hok
      case enter f args =>
        refine hok.mono ?_
        rintro e w'' ⟨v, rfl, hR⟩
        exact hK _ _ hR
    | halt x w' => simp only [valOK] at hok
  · rename_i hw
    rw [if_neg hw] at hok
    exact hK _ _ hok

/-- What the look says. -/
structure Look (ops : Array Oper) (n : Nat) : Prop where
  le : n ≤ ops.size
  sel : ∀ (i : Nat) (o : Oper), ops[i]? = some o → isSelect o.op = false
  back : ∀ (i : Nat) (o : Oper), ops[i]? = some o → ∀ j, needs o j = true → j < i
  pair : ∀ i j, i < n → j < n → pairOk ops i j = true
  tail : ∀ t i, n ≤ t → t < ops.size → i < t → anc ops ops.size t i = true

theorem look_of {n : Nat} (h : okB ops n = true) : Look ops n := by
  simp only [okB, Bool.and_eq_true, decide_eq_true_eq] at h
  obtain ⟨⟨⟨⟨h1, h2⟩, h3⟩, h4⟩, h5⟩ := h
  refine ⟨h1, fun i o ho => ?_, fun i o ho j hj => ?_, fun i j hi hj => ?_, fun t i hn ht hi => ?_⟩
  · have := Array.all_eq_true'.1 h2 o (Array.mem_of_getElem? ho)
    simpa using this
  · have hlt : i < ops.size := (Array.getElem?_eq_some_iff.1 ho).1
    have := List.all_eq_true.1 h3 i (List.mem_range.2 hlt)
    rw [ho] at this
    obtain ⟨e, he, hb, rfl⟩ := needs_spec.1 hj
    have := Array.all_eq_true'.1 this e he
    simpa [hb] using this
  · exact List.all_eq_true.1 (List.all_eq_true.1 h4 i (List.mem_range.2 hi)) j (List.mem_range.2 hj)
  · have := List.all_eq_true.1 h5 t (List.mem_range.2 ht)
    simp only [Bool.or_eq_true, decide_eq_true_eq] at this
    rcases this with h | h
    · omega
    · exact List.all_eq_true.1 h i (List.mem_range.2 hi)

/-- The operations that have been carried out: whatever one of them waits for is among them. -/
structure Done (ops : Array Oper) (listed : Array Bool) : Prop where
  size : listed.size = ops.size
  closed : ∀ (i : Nat) (o : Oper), ops[i]? = some o → listed.getD i false = true → ∀ j, needs o j = true → listed.getD j false = true

theorem getD_dflt {listed : Array Bool} {i : Nat} (hi : i < listed.size) (d : Bool) : listed.getD i d = listed.getD i false := by
  simp [Array.getD, hi]

theorem getD_set {listed : Array Bool} {i : Nat} (hi : i < listed.size) (j : Nat) : (listed.setIfInBounds i true).getD j false = (listed.getD j false || j == i) := by
  by_cases h : j = i
  · subst h; simp [Array.getD, hi]
  · have h' : (j == i) = false := by simpa using h
    rw [h', Bool.or_false]
    by_cases hj : j < listed.size
    · simp [Array.getD, hj, Array.getElem_setIfInBounds_ne hj (Ne.symm h)]
    · simp [Array.getD, hj]

theorem mem_ready' {listed : Array Bool} (hz : listed.size = ops.size) {i : Nat} :
    i ∈ Region.ready .any ops listed ↔ ∃ o, ops[i]? = some o ∧ listed.getD i false = false ∧ ∀ j, needs o j = true → listed.getD j false = true := by
  rw [mem_ready]
  constructor
  · rintro ⟨h1, o, ho, h2⟩
    have hlt : i < ops.size := (Array.getElem?_eq_some_iff.1 ho).1
    refine ⟨o, ho, by rw [← getD_dflt (by omega) true]; exact h1, fun j hj => ?_⟩
    obtain ⟨e, he, hb, rfl⟩ := needs_spec.1 hj
    exact h2 e he hb
  · rintro ⟨o, ho, h1, h2⟩
    have hlt : i < ops.size := (Array.getElem?_eq_some_iff.1 ho).1
    exact ⟨by rw [getD_dflt (by omega) true]; exact h1, o, ho, fun e he hb => h2 _ (needs_spec.2 ⟨e, he, hb, rfl⟩)⟩

theorem Done.set {listed : Array Bool} (D : Done ops listed) {i : Nat} (hr : i ∈ Region.ready .any ops listed) : Done ops (listed.setIfInBounds i true) := by
  obtain ⟨o, ho, h1, h2⟩ := (mem_ready' D.size).1 hr
  have hlt : i < listed.size := by rw [D.size]; exact (Array.getElem?_eq_some_iff.1 ho).1
  refine ⟨by simpa using D.size, fun k ok hk hl j hj => ?_⟩
  rw [getD_set hlt] at hl ⊢
  by_cases hki : k = i
  · subst hki
    rw [ho] at hk
    cases hk
    rw [h2 j hj]; rfl
  · have : (k == i) = false := by simpa using hki
    rw [this, Bool.or_false] at hl
    rw [D.closed k ok hk hl j hj]; rfl

/-- Something is ready while not all is done. -/
theorem some_ready {n : Nat} (Lk : Look ops n) {listed : Array Bool} (D : Done ops listed) : ∀ (i : Nat), i < ops.size → listed.getD i false = false → Region.ready .any ops listed ≠ [] := by
  intro i
  induction i using Nat.strongRecOn with
  | _ i ih =>
    intro hi hl h0
    obtain ⟨o, ho⟩ : ∃ o, ops[i]? = some o := ⟨ops[i], Array.getElem?_eq_getElem hi⟩
    have hnot : i ∉ Region.ready .any ops listed := by rw [h0]; simp
    rw [mem_ready' D.size] at hnot
    have : ∃ j, needs o j = true ∧ listed.getD j false = false := by
      apply Classical.byContradiction
      intro hc
      refine hnot ⟨o, ho, hl, fun j hj => ?_⟩
      cases hlj : listed.getD j false with
      | true => rfl
      | false => exact absurd ⟨j, hj, hlj⟩ hc
    obtain ⟨j, hj, hlj⟩ := this
    have hji := Lk.back i o ho j hj
    exact ih j hji (by omega) hlj h0

theorem anc_done {listed : Array Bool} (D : Done ops listed) : ∀ (f t i : Nat), anc ops f t i = true → (∀ o, ops[t]? = some o → ∀ j, needs o j = true → listed.getD j false = true) → listed.getD i false = true
  | 0, _, _, h, _ => by simp [anc] at h
  | f + 1, t, i, h, hd => by
    simp only [anc] at h
    split at h
    · rename_i o ho
      simp only [Bool.or_eq_true, List.any_eq_true, Bool.and_eq_true] at h
      rcases h with h | ⟨j, _, hj, ha⟩
      · exact hd o ho i h
      · have hlj := hd o ho j hj
        exact anc_done D f j i ha fun o' ho' k hk => D.closed j o' ho' hlj k hk
    · cases h

theorem countP_lt (p q : Nat → Bool) : ∀ (l : List Nat) (x : Nat), (∀ j, p j = true → q j = true) → x ∈ l → q x = true → p x = false → l.countP p + 1 ≤ l.countP q
  | [], _, _, hx, _, _ => by cases hx
  | y :: l, x, h, hx, hq, hp => by
    have mono : l.countP p ≤ l.countP q := List.countP_mono_left fun j _ => h j
    rw [List.countP_cons, List.countP_cons]
    rcases List.mem_cons.1 hx with rfl | hx
    · simp only [hq, hp, if_true, Bool.false_eq_true, if_false]; omega
    · have ih := countP_lt p q l x h hx hq hp
      have : (if p y = true then 1 else 0) ≤ (if q y = true then 1 else 0) := by
        by_cases hy : p y = true
        · rw [if_pos hy, if_pos (h y hy)]; exact Nat.le_refl _
        · rw [if_neg hy]; exact Nat.zero_le _
      omega

/-- How many are left. -/
def left (listed : Array Bool) : Nat := (List.range listed.size).countP fun i => !listed.getD i false

theorem left_set {listed : Array Bool} {i : Nat} (hi : i < listed.size) (hl : listed.getD i false = false) : left (listed.setIfInBounds i true) + 1 ≤ left listed := by
  unfold left
  rw [Array.size_setIfInBounds]
  refine countP_lt _ _ _ i (fun j h => ?_) (List.mem_range.2 hi) (by simp [hl]) (by rw [getD_set hi]; simp)
  rw [getD_set hi] at h
  simp at h ⊢
  exact h.1

/-- The state of the region: the first n on their way, or all of them done and the others done up to k. -/
inductive At (P : Program) (ops : Array Oper) (Q : Exit → Act → World → Prop) (C : World → Prop) (Φ : Nat → Value → World → Prop) (D : Nat → Value → Nat → Value → Prop) (a0 : Act) (n : Nat) (listed : Array Bool) (a : Act) (w : World) : Prop
  | head (V : Nat → Value) (hC : C w) (hV : ∀ j, j < n → listed.getD j false = true → Φ j (V j) w) (hD : ∀ i j, i < n → j < n → listed.getD i false = true → listed.getD j false = true → i ≠ j → D i (V i) j (V j)) (ha : a = fillIn a0 ops n (fun j => listed.getD j false) V) (ht : ∀ t, n ≤ t → t < ops.size → listed.getD t false = false)
  | tail (k : Nat) (hk : n ≤ k) (hk' : k ≤ ops.size) (hl : ∀ t, t < ops.size → listed.getD t false = decide (t < k)) (h : wpList P ops Q (ops.toList.drop k) a w)

theorem distinct_of {n : Nat} (Lk : Look ops n) : Distinct ops n := by
  intro i j t hi hj h1 h2
  have := Lk.pair i j hi hj
  unfold pairOk at this
  unfold dstOf at h1 h2
  cases hoi : ops[i]? with
  | none => simp [hoi] at h1
  | some oi =>
    cases hoj : ops[j]? with
    | none => simp [hoj] at h2
    | some oj =>
      simp only [hoi, hoj, Option.bind_some] at h1 h2 this
      rw [h2, h1] at this
      simpa using this

/-- What is asked: each of the first n, in the state in which all before it in the text are done, in whatever world of the class in which those that it waits for have yielded. -/
structure Steps (P : Program) (ops : Array Oper) (Q : Exit → Act → World → Prop) (C : World → Prop) (R : World → World → Prop) (Φ : Nat → Value → World → Prop) (a0 : Act) (n : Nat) (Ψ : Nat → Value → World → Prop) (D : Nat → Value → Nat → Value → Prop) : Prop where
  cls : ∀ w w', C w → R w w' → C w'
  keep : ∀ j v w w', Φ j v w → R w w' → Φ j v w'
  step : ∀ (i : Nat) (o : Oper), i < n → ops[i]? = some o → ∀ (V : Nat → Value) (w : World), C w → (∀ j, j < n → needs o j = true → Φ j (V j) w) →
    opOK P ops o (fillIn a0 ops n (fun j => decide (j < i)) V) w (fun v w' => R w w' ∧ Φ i v w' ∧ Ψ i v w)
  pair : ∀ (i j : Nat) (v u : Value) (w : World), i ≠ j → Ψ i v w → Φ j u w → D i v j u ∧ D j u i v
  last : ∀ (V : Nat → Value) (w : World), C w → (∀ j, j < n → Φ j (V j) w) → (∀ i j, i < n → j < n → i ≠ j → D i (V i) j (V j)) → wpList P ops Q (ops.toList.drop n) (fillIn a0 ops n (fun j => decide (j < n)) V) w

theorem wpAny_at {C : World → Prop} {R : World → World → Prop} {Φ : Nat → Value → World → Prop} {a0 : Act} {n : Nat} (Lk : Look ops n) {Ψ : Nat → Value → World → Prop} {D : Nat → Value → Nat → Value → Prop} (S : Steps P ops Q C R Φ a0 n Ψ D) :
    ∀ (fuel : Nat) (listed : Array Bool) (a : Act) (w : World), Done ops listed → left listed ≤ fuel → At P ops Q C Φ D a0 n listed a w → wpAny P .any ops Q fuel listed a w := by
  have hd := distinct_of Lk
  -- all of the first n done: over to the others
  have over : ∀ (listed : Array Bool) (a : Act) (w : World), (∀ j, j < n → listed.getD j false = true) → At P ops Q C Φ D a0 n listed a w →
      ∃ k, n ≤ k ∧ k ≤ ops.size ∧ (∀ t, t < ops.size → listed.getD t false = decide (t < k)) ∧ wpList P ops Q (ops.toList.drop k) a w := by
    intro listed a w hall h
    cases h with
    | tail k hk hk' hl h => exact ⟨k, hk, hk', hl, h⟩
    | head V hC hV hD ha ht =>
      refine ⟨n, Nat.le_refl _, Lk.le, fun t h1 => ?_, ?_⟩
      · by_cases h2 : t < n
        · rw [hall t h2]; simp [h2]
        · rw [ht t (by omega) h1]; simp [h2]
      · have e : fillIn a0 ops n (fun j => listed.getD j false) V = fillIn a0 ops n (fun j => decide (j < n)) V := by
          simp only [fillIn]
          congr 1
          apply Array.ext
          · simp
          · intro t h1 h2
            rw [Array.getElem_mapIdx, Array.getElem_mapIdx, find_congr]
            intro j hj
            have hj' := List.mem_range.1 hj
            rw [hall j hj']; simp [hj']
        rw [ha, e]
        exact S.last V w hC (fun j hj => hV j hj (hall j hj)) fun i j hi hj hij => hD i j hi hj (hall i hi) (hall j hj) hij
  have fin : ∀ (listed : Array Bool) (a : Act) (w : World), Done ops listed → Region.ready .any ops listed = [] → At P ops Q C Φ D a0 n listed a w → Q .normal a w := by
    intro listed a w D hr h
    have hall : ∀ j, j < ops.size → listed.getD j false = true := fun j hj => by
      cases hl : listed.getD j false with
      | true => rfl
      | false => exact absurd hr (some_ready Lk D j hj hl)
    obtain ⟨k, hk, hk', hl, hw⟩ := over listed a w (fun j hj => hall j (by have := Lk.le; omega)) h
    have : k = ops.size := by
      rcases Nat.lt_or_ge k ops.size with h1 | h1
      · have h2 := hl k h1
        rw [hall k h1] at h2
        simp at h2
      · omega
    subst this
    rw [List.drop_of_length_le (by simp)] at hw
    exact hw
  intro fuel
  induction fuel with
  | zero =>
    intro listed a w D hf h
    have hr : Region.ready .any ops listed = [] := by
      apply List.eq_nil_iff_forall_not_mem.2
      intro i hi
      obtain ⟨o, ho, h1, _⟩ := (mem_ready' D.size).1 hi
      have hlt : i < listed.size := by rw [D.size]; exact (Array.getElem?_eq_some_iff.1 ho).1
      have := left_set hlt h1
      omega
    exact ⟨hr, fin listed a w D hr h⟩
  | succ fuel ih =>
    intro listed a w D hf h
    refine ⟨fun hr => fin listed a w D hr h, fun i hi => ?_⟩
    obtain ⟨o, ho, h1, h2⟩ := (mem_ready' D.size).1 hi
    have hlt' : i < ops.size := (Array.getElem?_eq_some_iff.1 ho).1
    have hlt : i < listed.size := by rw [D.size]; exact hlt'
    have hleft := left_set hlt h1
    have D' := D.set hi
    by_cases hin : i < n
    · -- one of the first n
      cases h with
      | tail k hk hk' hl h =>
        have := hl i hlt'
        rw [h1] at this
        simp at this
        omega
      | head V hC hV hD ha ht =>
        subst ha
        have hok := S.step i o hin ho V w hC fun j hj hn => hV j hj (h2 j hn)
        have hok' : opOK P ops o (fillIn a0 ops n (fun j => listed.getD j false) V) w (fun v w' => R w w' ∧ Φ i v w' ∧ Ψ i v w) := by
          refine opOK_congr (Lk.sel i o ho) (fun t ht => fillIn_eval fun j hj hdj => ?_) hok
          have hp := Lk.pair i j hin hj
          unfold pairOk at hp
          unfold dstOf at hdj
          cases hoj : ops[j]? with
          | none => simp [hoj] at hdj
          | some oj =>
            simp only [hoj, Option.bind_some] at hdj
            simp only [ho, hoj, hdj] at hp
            by_cases hij : i = j
            · subst hij; rw [h1]; simp
            · simp only [beq_iff_eq, hij, false_or, Bool.and_eq_true, Bool.or_eq_true, Bool.not_eq_true', List.contains_eq_mem, decide_eq_true_eq, decide_eq_false_iff_not, bne_iff_ne] at hp
              rcases hp.2 with (hp2 | ⟨hp2, hp3⟩) | ⟨hp2, hp3⟩
              · exact absurd ht hp2
              · rw [h2 j hp3]; simp [hp2]
              · have : listed.getD j false = false := by
                  cases hlj : listed.getD j false with
                  | false => rfl
                  | true =>
                    have := D.closed j oj hoj hlj i hp3
                    rw [h1] at this; cases this
                rw [this]; simp; omega
        refine wpOp_of_opOK ho hok' fun v w' ⟨hR, hΦ, hΨ⟩ => ?_
        refine ih _ _ _ D' (by omega) (.head (fun j => if j = i then v else V j) (S.cls _ _ hC hR) ?_ ?_ ?_ ?_)
        · intro j hj hl
          rw [getD_set hlt] at hl
          by_cases hji : j = i
          · subst hji; simp only [if_true]; exact hΦ
          · have : (j == i) = false := by simpa using hji
            rw [this, Bool.or_false] at hl
            simp only [hji, if_false]
            exact S.keep _ _ _ _ (hV j hj hl) hR
        · intro x y hx hy hlx hly hxy
          rw [getD_set hlt] at hlx hly
          by_cases hxi : x = i
          · subst hxi
            have hyi : ¬ y = x := fun h => hxy h.symm
            have : (y == x) = false := by simpa using hyi
            rw [this, Bool.or_false] at hly
            simp only [if_true, hyi, if_false]
            exact (S.pair _ _ _ _ _ hxy hΨ (hV y hy hly)).1
          · have h8 : (x == i) = false := by simpa using hxi
            rw [h8, Bool.or_false] at hlx
            by_cases hyi : y = i
            · subst hyi
              simp only [if_true, hxi, if_false]
              exact (S.pair _ _ _ _ _ (fun h => hxi h.symm) hΨ (hV x hx hlx)).2
            · have : (y == i) = false := by simpa using hyi
              rw [this, Bool.or_false] at hly
              simp only [hxi, hyi, if_false]
              exact hD x y hx hy hlx hly hxy
        · have e : o.dst = dstOf ops i := by simp [dstOf, ho]
          rw [e, fillIn_put hd hin h1]
          congr 1
          funext j
          rw [getD_set hlt]
        · intro t ht1 ht2
          rw [getD_set hlt, ht t ht1 ht2]
          have : (t == i) = false := by simp; omega
          rw [this]; rfl
    · -- one of the others
      have hall : ∀ j, j < i → listed.getD j false = true := fun j hj =>
        anc_done D ops.size i j (Lk.tail i j (by omega) hlt' hj) fun o' ho' k hk => by
          rw [ho] at ho'; cases ho'; exact h2 k hk
      obtain ⟨k, hk, hk', hl, hw⟩ := over listed a w (fun j hj => hall j (by omega)) h
      have hki : k = i := by
        have h3 := hl i hlt'
        rw [h1] at h3
        simp at h3
        rcases Nat.lt_or_ge k i with h4 | h4
        · have h5 := hl k (by omega)
          rw [hall k h4] at h5
          simp at h5
        · omega
      subst hki
      have hdrop : ops.toList.drop k = o :: ops.toList.drop (k + 1) := by
        have h3 : ops.toList[k]? = some o := by simpa using ho
        obtain ⟨h4, h5⟩ := List.getElem?_eq_some_iff.1 h3
        rw [List.drop_eq_getElem_cons h4, h5]
      rw [hdrop] at hw
      have hw' : wpOp P ops Q k (wpList P ops Q (ops.toList.drop (k + 1))) a w := by
        unfold wpOp
        simp only [ho]
        exact hw
      refine wpOp_mono (fun a' w' h' => ih _ _ _ D' (by omega) (.tail (k + 1) (by omega) hlt' (fun t ht => ?_) h')) hw'
      rw [getD_set hlt, hl t ht]
      by_cases h6 : t = k
      · subst h6; simp
      · have h7 : (t == k) = false := by simpa using h6
        rw [h7, Bool.or_false]
        congr 1
        simp only [eq_iff_iff]
        omega

theorem any_rel {n : Nat} {C : World → Prop} {R : World → World → Prop} {Φ : Nat → Value → World → Prop} {a0 : Act} {w1 : World} (hB : okB ops n = true)
    (hC : C w1) {Ψ : Nat → Value → World → Prop} {D : Nat → Value → Nat → Value → Prop} (S : Steps P ops Q C R Φ a0 n Ψ D) : wpAny P .any ops Q ops.size (Array.replicate ops.size false) a0 w1 := by
  have Lk := look_of hB
  have hrep : ∀ j, (Array.replicate ops.size false).getD j false = false := fun j => by
    by_cases h : j < ops.size
    · simp [Array.getD, h]
    · simp [Array.getD, h]
  refine wpAny_at Lk S _ _ _ _ ⟨by simp, fun i o _ hl => by rw [hrep] at hl; cases hl⟩ ?_ (.head (fun _ => undef) hC (fun j _ hl => by rw [hrep] at hl; cases hl) (fun i _ _ _ hl _ _ => by rw [hrep] at hl; cases hl) ?_ fun t _ _ => hrep t)
  · unfold left
    refine Nat.le_trans List.countP_le_length (by simp)
  · have : (fun j => (Array.replicate ops.size false).getD j false) = fun _ => false := by funext j; exact hrep j
    rw [this, fillIn_none]

/-- The heads quiet: each yields ONE value in every world of the class; then the others, in the order of the text. -/
theorem steps_of_quiet {C : World → Prop} {a0 : Act} {n : Nat} (Lk : Look ops n) (htail : Act → Prop) (hT : ∀ a, htail a → ∀ w, C w → wpList P ops Q (ops.toList.drop n) a w) :
    ∀ (l : List Oper) (i : Nat) (V : Nat → Value), i + l.length = n → (∀ j, j < l.length → l[j]? = ops[i + j]?) →
      wpQuiet P ops C htail l (fillIn a0 ops n (fun j => decide (j < i)) V) →
      ∃ U : Nat → Value, (∀ j, j < i → U j = V j) ∧ htail (fillIn a0 ops n (fun j => decide (j < n)) U) ∧
        ∀ (k : Nat) (o : Oper), i ≤ k → k < n → ops[k]? = some o → ∀ w, C w → opOK P ops o (fillIn a0 ops n (fun j => decide (j < k)) U) w (fun v w' => C w' ∧ v = U k)
  | [], i, V, hi, _, h => by
    have : i = n := by simpa using hi
    subst this
    exact ⟨V, fun _ _ => rfl, h, fun k o h1 h2 => by omega⟩
  | o :: l, i, V, hi, hl, h => by
    have hin : i < n := by simp at hi; omega
    have ho : ops[i]? = some o := by simpa using (hl 0 (by simp)).symm
    have hsame : ∀ U : Nat → Value, (∀ j, j < i → U j = V j) → fillIn a0 ops n (fun j => decide (j < i)) U = fillIn a0 ops n (fun j => decide (j < i)) V := fun U hU => by
      simp only [fillIn]
      congr 1
      apply Array.ext
      · simp
      · intro t h1 h2
        rw [Array.getElem_mapIdx, Array.getElem_mapIdx]
        cases hf : (List.range n).find? (fun j => decide (j < i) && dstOf ops j == some t) with
        | none => rfl
        | some j =>
          have := List.find?_some hf
          simp only [Bool.and_eq_true, decide_eq_true_eq] at this
          exact hU j this.1
    have hput : ∀ v, (fillIn a0 ops n (fun j => decide (j < i)) V).put o.dst v = fillIn a0 ops n (fun j => decide (j < i + 1)) (fun j => if j = i then v else V j) := fun v => by
      have e : o.dst = dstOf ops i := by simp [dstOf, ho]
      rw [e, fillIn_put (distinct_of Lk) hin (by simp)]
      congr 1
      funext j
      by_cases hj : j = i
      · subst hj; simp
      · have h1 : (j == i) = false := by simpa using hj
        rw [h1, Bool.or_false]
        congr 1
        simp only [eq_iff_iff]
        omega
    have hex : ∃ v, wpQuiet P ops C htail l ((fillIn a0 ops n (fun j => decide (j < i)) V).put o.dst v) ∧ ∀ w, C w → opOK P ops o (fillIn a0 ops n (fun j => decide (j < i)) V) w (fun u w' => C w' ∧ u = v) := by
      unfold wpQuiet at h
      split at h
      · rename_i hw
        obtain ⟨v, h1, h2⟩ := h
        refine ⟨v, h2, fun w hC => ?_⟩
        unfold opOK
        rw [if_pos hw]
        have h3 := h1 w hC
        unfold Oper.quietAt at h3
        generalize (execOp (fillIn a0 ops n (fun j => decide (j < i)) V).eval o).run P w = r at *
        cases r with
        | ok x w' =>
          cases x <;> simp only [Oper.quietUpon] at h3 <;> simp only [valOK]
          case value u => exact ⟨by rw [h3.1]; exact hC, h3.2⟩
          case skip => exact ⟨by rw [h3.1]; exact hC, h3.2.symm⟩
          case enter f args =>
            rw [h3.1]
            refine h3.2.mono ?_
            rintro e w'' ⟨rfl, hC'⟩
            exact ⟨v, rfl, hC', rfl⟩
        | halt x w' => simp only [Oper.quietUpon] at h3
      · rename_i hw
        refine ⟨undef, h, fun w hC => ?_⟩
        unfold opOK
        rw [if_neg hw]
        exact ⟨hC, rfl⟩
    obtain ⟨v, hv1, hv2⟩ := hex
    rw [hput v] at hv1
    obtain ⟨U, hU1, hU2, hU3⟩ := steps_of_quiet Lk htail hT l (i + 1) _ (by simp at hi; omega) (fun j hj => by
      have := hl (j + 1) (by simp; omega)
      simpa [Nat.add_assoc, Nat.add_comm 1 j] using this) hv1
    have hUi : U i = v := by rw [hU1 i (by omega)]; simp
    have hUV : ∀ j, j < i → U j = V j := fun j hj => by
      rw [hU1 j (by omega)]
      have : j ≠ i := by omega
      simp [this]
    refine ⟨U, hUV, hU2, fun k o' h1 h2 h3 w hC => ?_⟩
    by_cases hki : k = i
    · subst hki
      rw [ho] at h3
      cases h3
      rw [hsame U hUV, hUi]
      exact hv2 w hC
    · exact hU3 k o' (by omega) h2 h3 w hC

/-- A region, from a world in which its order has been drawn. -/
def Any (P : Program) (l : List Oper) (Q : Exit → Act → World → Prop) (a : Act) (w : World) : Prop := wpAny P .any l.toArray Q l.toArray.size (Array.replicate l.toArray.size false) a w

theorem any_of_region {id : Nat} {a : Act} {w : World} {l : List Oper} (hm : P.follows .mixedOrders = true) (h : Any P l Q a { w with drawn := w.drawn + 1 }) : (Code.region id l.toArray true).wp P Q a w :=
  wp_region_any hm h

theorem any_tail (n : Nat) {C : World → Prop} {a0 : Act} {w1 : World} {l : List Oper} (hB : okB l.toArray n = true)
    (hC : C w1)
    (h : wpQuiet P l.toArray C (fun a' => ∀ w', C w' → wpList P l.toArray Q (l.drop n) a' w') (l.take n) a0) : Any P l Q a0 w1 := by
  have Lk := look_of hB
  have hn : n ≤ l.length := by simpa using Lk.le
  have h0 : fillIn a0 l.toArray n (fun j => decide (j < 0)) (fun _ => undef) = a0 := by
    have : (fun j => decide (j < 0)) = fun _ : Nat => false := by funext j; simp
    rw [this, fillIn_none]
  rw [← h0] at h
  obtain ⟨U, _, hU2, hU3⟩ := steps_of_quiet (Q := Q) Lk _ (fun a ha w hw => by simpa using ha w hw) (l.take n) 0 (fun _ => undef) (by simp; omega) (fun j hj => by
    have hj' : j < n := by simp at hj; omega
    simp [hj']) h
  refine any_rel (n := n) (C := C) (R := fun _ w' => C w') (Φ := fun j v _ => v = U j) (Ψ := fun _ _ _ => True) (D := fun _ _ _ _ => True) hB hC ⟨fun _ _ _ h => h, fun _ _ _ _ h _ => h, ?_, fun _ _ _ _ _ _ _ _ => ⟨trivial, trivial⟩, ?_⟩
  · intro i o hi ho V w hw hV
    have := hU3 i o (Nat.zero_le _) hi ho w hw
    refine opOK_congr (Lk.sel i o ho) (fun t ht => ?_) (opOK_imp (fun v w' h => ⟨h.1, h.2, trivial⟩) this)
    -- what it looks at is what those that it waits for have yielded
    simp only [fillIn, Array.getElem?_mapIdx]
    cases hf : (List.range n).find? (fun j => decide (j < i) && dstOf l.toArray j == some t) with
    | none => rfl
    | some j =>
      have h1 := List.find?_some hf
      have h2 := List.mem_range.1 (List.mem_of_find?_eq_some hf)
      simp only [Bool.and_eq_true, decide_eq_true_eq, beq_iff_eq] at h1
      have hp := Lk.pair i j hi h2
      unfold pairOk at hp
      have h3 := h1.2
      unfold dstOf at h3
      cases hoj : l.toArray[j]? with
      | none => rw [hoj] at h3; cases h3
      | some oj =>
        rw [hoj] at h3
        simp only [Option.bind_some] at h3
        simp only [ho, hoj, h3] at hp
        have hij : ¬ i = j := by omega
        simp only [beq_iff_eq, hij, false_or, Bool.and_eq_true, Bool.or_eq_true, Bool.not_eq_true', List.contains_eq_mem, decide_eq_true_eq, decide_eq_false_iff_not, bne_iff_ne] at hp
        rcases hp.2 with (hp2 | ⟨_, hp3⟩) | ⟨hp2, _⟩
        · exact absurd ht hp2
        · simp only [hV j h2 hp3]
        · omega
  · intro V w hw hV _
    have e : fillIn a0 l.toArray n (fun j => decide (j < n)) V = fillIn a0 l.toArray n (fun j => decide (j < n)) U := by
      simp only [fillIn]
      congr 1
      apply Array.ext
      · simp
      · intro t h1 h2
        rw [Array.getElem_mapIdx, Array.getElem_mapIdx]
        cases hf : (List.range n).find? (fun j => decide (j < n) && dstOf l.toArray j == some t) with
        | none => rfl
        | some j => exact hV j (List.mem_range.1 (List.mem_of_find?_eq_some hf))
    rw [e]
    exact hU2 w hw

theorem wp_region_tail {id : Nat} (n : Nat) {C : World → Prop} {a0 : Act} {w0 : World} {l : List Oper} (hm : P.follows .mixedOrders = true) (hB : okB l.toArray n = true)
    (hC : C { w0 with drawn := w0.drawn + 1 })
    (h : wpQuiet P l.toArray C (fun a' => ∀ w', C w' → wpList P l.toArray Q (l.drop n) a' w') (l.take n) a0) : (Code.region id l.toArray true).wp P Q a0 w0 :=
  any_of_region hm (any_tail n hB hC h)

/-- The same, in the class of what is later than w0. -/
theorem wp_region_later_tail {id : Nat} (n : Nat) {a0 : Act} {w0 : World} {l : List Oper} (hm : P.follows .mixedOrders = true) (hB : okB l.toArray n = true)
    (h : wpQuiet P l.toArray (fun w' => ∃ p : Later, w' = later w0 p) (fun a' => ∀ w', (∃ p : Later, w' = later w0 p) → wpList P l.toArray Q (l.drop n) a' w') (l.take n) a0) :
    (Code.region id l.toArray true).wp P Q a0 w0 :=
  wp_region_tail n (C := fun w' => ∃ p : Later, w' = later w0 p) hm hB ⟨⟨w0.drawn + 1, #[]⟩, by simp [later]⟩ h

end
end Rel
namespace Rel

/-- One value; nothing that was there is changed. -/
def qUpon (P : Program) (w : World) (v : Value) : Result Next → Prop
  | .ok (.value u) w' => w' = w ∧ u = v
  | .ok .skip w' => w' = w ∧ v = undef
  | .ok (.enter f args) w' => w' = w ∧ Calls P f args w fun e w'' => e = .returned v ∧ Below w.heap.size w w''
  | _ => False

/-- The block that a pointer or a slice lies in. -/
def blkOf : Value → Option Nat
  | .pointer (some a) => some a.block
  | .slice (some a) _ _ => some a.block
  | _ => none

/-- A pointer or slice into a block that was not there before. -/
def IsNew (fr : Bool) (v : Value) (n m : Nat) : Prop := fr = true → ∃ b, blkOf v = some b ∧ n ≤ b ∧ b < m

/-- A value that φ speaks of; nothing that was there is changed. -/
def rUpon (P : Program) (w : World) (fr : Bool) (φ : Value → World → Prop) : Result Next → Prop
  | .ok (.value u) w' => Below w.heap.size w w' ∧ φ u w' ∧ IsNew fr u w.heap.size w'.heap.size
  | .ok (.enter f args) w' => w' = w ∧ Calls P f args w fun e w'' => ∃ v, e = .returned v ∧ Below w.heap.size w w'' ∧ φ v w'' ∧ IsNew fr v w.heap.size w''.heap.size
  | _ => False

def aAt (P : Program) (w0 : World) (o : Oper) (a : Act) (K : Act → Prop) : Prop :=
  ∃ v, (∀ w, (∃ p : Later, w = later w0 p) → qUpon P w v ((execOp a.eval o).run P w)) ∧ K (a.put o.dst v)

attribute [go_sem] qUpon aAt

def wpA (P : Program) (ops : Array Oper) (w0 : World) (B : List Nat) (fin : Act → Prop) : List Oper → Nat → Act → Prop
  | [], _, a => fin a
  | o :: rest, i, a => if B.contains i then wpA P ops w0 B fin rest (i + 1) a
    else if Region.wanted o (yielded ops a.tmps) then aAt P w0 o a (wpA P ops w0 B fin rest (i + 1)) else wpA P ops w0 B fin rest (i + 1) (a.put o.dst undef)

def ctxOf (o : Oper) (ctx : List (Nat × (World → Prop))) (w : World) : Prop := ∀ x ∈ ctx, needs o x.1 = true → x.2 w

def wpB (P : Program) (ops : Array Oper) (w0 : World) (nw : List Nat) (fin : Act → List (Nat × (World → Prop)) → List Value → Prop) : List (Nat × (Value → World → Prop)) → Act → List (Nat × (World → Prop)) → List Value → Prop
  | [], a, ctx, fr => fin a ctx fr
  | (i, φ) :: rest, a, ctx, fr => ∃ o, ops[i]? = some o ∧ Region.wanted o (yielded ops a.tmps) = true ∧
    (∀ p : Later, ctxOf o ctx (later w0 p) → rUpon P (later w0 p) (nw.contains i) φ ((execOp a.eval o).run P (later w0 p))) ∧
    ∀ v, wpB P ops w0 nw fin rest (a.put o.dst v) (ctx ++ [(i, φ v)]) (if nw.contains i then fr ++ [v] else fr)

section
variable {P : Program} {ops : Array Oper} {Q : Exit → Act → World → Prop} {w0 : World} {B : List Nat} {fin : Act → Prop} {o : Oper} {rest : List Oper} {i : Nat} {a : Act}

theorem wpA_nil (h : fin a) : wpA P ops w0 B fin [] i a := h
theorem wpA_b (hb : B.contains i = true) (h : wpA P ops w0 B fin rest (i + 1) a) : wpA P ops w0 B fin (o :: rest) i a := by
  unfold wpA; rw [if_pos hb]; exact h
theorem wpA_step (hb : B.contains i = false) (h : ∀ K : Act → Prop, (∀ a, wpA P ops w0 B fin rest (i + 1) a → K a) → if Region.wanted o (yielded ops a.tmps) then aAt P w0 o a K else K (a.put o.dst undef)) :
    wpA P ops w0 B fin (o :: rest) i a := by
  have := h _ fun _ h => h
  unfold wpA
  rw [if_neg (by rw [hb]; simp)]
  exact this
theorem wpB_nil {nw : List Nat} {fin : Act → List (Nat × (World → Prop)) → List Value → Prop} {ctx : List (Nat × (World → Prop))} {fr : List Value} (h : fin a ctx fr) : wpB P ops w0 nw fin [] a ctx fr := h
theorem wpB_step {nw : List Nat} {fin : Act → List (Nat × (World → Prop)) → List Value → Prop} {ctx : List (Nat × (World → Prop))} {fr : List Value} {φ : Value → World → Prop} {rest : List (Nat × (Value → World → Prop))} (o : Oper) (ho : ops[i]? = some o) (hw : Region.wanted o (yielded ops a.tmps) = true)
    (h1 : ∀ p : Later, ctxOf o ctx (later w0 p) → rUpon P (later w0 p) (nw.contains i) φ ((execOp a.eval o).run P (later w0 p)))
    (h2 : ∀ v, wpB P ops w0 nw fin rest (a.put o.dst v) (ctx ++ [(i, φ v)]) (if nw.contains i then fr ++ [v] else fr)) : wpB P ops w0 nw fin ((i, φ) :: rest) a ctx fr := ⟨o, ho, hw, h1, h2⟩

/-- A does not look at what B writes; B lies among the first n, in the order of the text. -/
def mixB (ops : Array Oper) (n : Nat) (B : List Nat) : Bool :=
  (B.all fun i => decide (i < n)) && ((List.range B.length).all fun k => (List.range k).all fun k' => decide (B.getD k' 0 < B.getD k 0)) &&
  ((List.range n).all fun i => B.contains i || match ops[i]? with
    | some o => B.all fun j => match dstOf ops j with | some t => !(o.looksAt ops).contains t | none => true
    | none => true) &&
  (B.all fun i => match ops[i]? with
    | some o => (List.range n).all fun j => decide (j ≤ i) || B.contains j || match dstOf ops j with | some t => !(o.looksAt ops).contains t | none => true
    | none => true)

theorem fillIn_ext {a0 : Act} {n : Nat} {L L' : Nat → Bool} {V V' : Nat → Value} {t : Tmp} (h : ∀ j, j < n → dstOf ops j = some t → L j = L' j ∧ (L j = true → V j = V' j)) :
    (fillIn a0 ops n L V).tmps[t]? = (fillIn a0 ops n L' V').tmps[t]? := by
  rw [fillIn_eval (L' := L') fun j hj hd => (h j hj hd).1]
  simp only [fillIn, Array.getElem?_mapIdx]
  cases hf : (List.range n).find? (fun j => L' j && dstOf ops j == some t) with
  | none => rfl
  | some j =>
    have h1 := List.find?_some hf
    have h2 := List.mem_range.1 (List.mem_of_find?_eq_some hf)
    simp only [Bool.and_eq_true, beq_iff_eq] at h1
    have h3 := h j h2 h1.2
    simp only [h3.2 (by rw [h3.1]; exact h1.1)]

theorem fillIn_same {a0 : Act} {n : Nat} {L L' : Nat → Bool} {V V' : Nat → Value} (h : ∀ j, j < n → L j = L' j ∧ (L j = true → V j = V' j)) :
    fillIn a0 ops n L V = fillIn a0 ops n L' V' := by
  have : (fillIn a0 ops n L V).tmps = (fillIn a0 ops n L' V').tmps := by
    apply Array.ext_getElem?
    intro t
    exact fillIn_ext fun j hj _ => h j hj
  unfold fillIn at this ⊢
  simp only at this
  rw [this]

/-- What the walk of A gives. -/
theorem steps_of_A {a0 : Act} {n : Nat} (Lk : Look ops n) : ∀ (l : List Oper) (i : Nat) (V : Nat → Value), i + l.length = n → (∀ j, j < l.length → l[j]? = ops[i + j]?) →
      wpA P ops w0 B fin l i (fillIn a0 ops n (fun j => decide (j < i) && !B.contains j) V) →
      ∃ U : Nat → Value, (∀ j, j < i → U j = V j) ∧ fin (fillIn a0 ops n (fun j => !B.contains j) U) ∧
        ∀ (k : Nat) (o : Oper), i ≤ k → k < n → B.contains k = false → ops[k]? = some o → ∀ p : Later,
          opOK P ops o (fillIn a0 ops n (fun j => decide (j < k) && !B.contains j) U) (later w0 p) (fun v w' => Below (later w0 p).heap.size (later w0 p) w' ∧ v = U k)
  | [], i, V, hi, _, h => by
    have : i = n := by simpa using hi
    subst this
    refine ⟨V, fun _ _ => rfl, ?_, fun k o h1 h2 => by omega⟩
    have e : fillIn a0 ops i (fun j => decide (j < i) && !B.contains j) V = fillIn a0 ops i (fun j => !B.contains j) V := fillIn_same fun j hj => ⟨by simp [hj], fun _ => rfl⟩
    rw [← e]; exact h
  | o :: l, i, V, hi, hl, h => by
    have hin : i < n := by simp at hi; omega
    have ho : ops[i]? = some o := by simpa using (hl 0 (by simp)).symm
    have hrest : ∀ j, j < l.length → l[j]? = ops[i + 1 + j]? := fun j hj => by
      have := hl (j + 1) (by simp; omega)
      simpa [Nat.add_assoc, Nat.add_comm 1 j] using this
    unfold wpA at h
    cases hb : B.contains i with
    | true =>
      rw [if_pos hb] at h
      have e : fillIn a0 ops n (fun j => decide (j < i) && !B.contains j) V = fillIn a0 ops n (fun j => decide (j < i + 1) && !B.contains j) V := fillIn_same fun j _ => ⟨by
        by_cases hj : j = i
        · subst hj; rw [hb]; simp
        · congr 1; simp only [decide_eq_decide]; omega, fun _ => rfl⟩
      rw [e] at h
      obtain ⟨U, hU1, hU2, hU3⟩ := steps_of_A Lk l (i + 1) V (by simp at hi; omega) hrest h
      exact ⟨U, fun j hj => hU1 j (by omega), hU2, fun k o' h1 h2 h3 => hU3 k o' (by
        rcases Nat.lt_or_ge i k with h | h
        · exact h
        · have : k = i := by omega
          subst this; rw [hb] at h3; cases h3) h2 h3⟩
    | false =>
      rw [if_neg (by rw [hb]; simp)] at h
      have hput : ∀ v, (fillIn a0 ops n (fun j => decide (j < i) && !B.contains j) V).put o.dst v = fillIn a0 ops n (fun j => decide (j < i + 1) && !B.contains j) (fun j => if j = i then v else V j) := fun v => by
        have e : o.dst = dstOf ops i := by simp [dstOf, ho]
        rw [e, fillIn_put (distinct_of Lk) hin (by simp)]
        refine fillIn_same fun j _ => ⟨?_, fun _ => rfl⟩
        by_cases hj : j = i
        · subst hj; rw [hb]; simp
        · have h1 : (j == i) = false := by simpa using hj
          rw [h1, Bool.or_false]
          congr 1
          simp only [decide_eq_decide]
          omega
      have hex : ∃ v, wpA P ops w0 B fin l (i + 1) ((fillIn a0 ops n (fun j => decide (j < i) && !B.contains j) V).put o.dst v) ∧
          ∀ p : Later, opOK P ops o (fillIn a0 ops n (fun j => decide (j < i) && !B.contains j) V) (later w0 p) (fun u w' => Below (later w0 p).heap.size (later w0 p) w' ∧ u = v) := by
        split at h
        · rename_i hw
          obtain ⟨v, h1, h2⟩ := h
          refine ⟨v, h2, fun p => ?_⟩
          unfold opOK
          rw [if_pos hw]
          have h3 := h1 _ ⟨p, rfl⟩
          generalize (execOp (fillIn a0 ops n (fun j => decide (j < i) && !B.contains j) V).eval o).run P (later w0 p) = r at *
          cases r with
          | ok x w' =>
            cases x <;> simp only [qUpon] at h3 <;> simp only [valOK]
            case value u => exact ⟨by rw [h3.1]; exact Below.refl _ _, h3.2⟩
            case skip => exact ⟨by rw [h3.1]; exact Below.refl _ _, h3.2.symm⟩
            case enter f args =>
              rw [h3.1]
              refine h3.2.mono ?_
              rintro e w'' ⟨rfl, hC'⟩
              exact ⟨v, rfl, hC', rfl⟩
          | halt x w' => simp only [qUpon] at h3
        · rename_i hw
          refine ⟨undef, h, fun p => ?_⟩
          unfold opOK
          rw [if_neg hw]
          exact ⟨Below.refl _ _, rfl⟩
      obtain ⟨v, hv1, hv2⟩ := hex
      rw [hput v] at hv1
      obtain ⟨U, hU1, hU2, hU3⟩ := steps_of_A Lk l (i + 1) _ (by simp at hi; omega) hrest hv1
      have hUi : U i = v := by rw [hU1 i (by omega)]; simp
      have hUV : ∀ j, j < i → U j = V j := fun j hj => by
        rw [hU1 j (by omega)]
        have : j ≠ i := by omega
        simp [this]
      refine ⟨U, hUV, hU2, fun k o' h1 h2 hkb h3 p => ?_⟩
      by_cases hki : k = i
      · subst hki
        rw [ho] at h3
        cases h3
        have e : fillIn a0 ops n (fun j => decide (j < k) && !B.contains j) U = fillIn a0 ops n (fun j => decide (j < k) && !B.contains j) V := fillIn_same fun j _ => ⟨rfl, fun hj => by
          simp only [Bool.and_eq_true, decide_eq_true_eq] at hj
          exact hUV j hj.1⟩
        rw [e, hUi]
        exact hv2 p
      · exact hU3 k o' (by omega) h2 hkb h3 p

/-- What the walk of B gives: for values V of B's operations. -/
theorem steps_of_B {a0 : Act} {n : Nat} (Lk : Look ops n) (U : Nat → Value) {nw : List Nat} {fin : Act → List (Nat × (World → Prop)) → List Value → Prop} (V : Nat → Value) :
    ∀ (l : List (Nat × (Value → World → Prop))) (pre : List (Nat × (Value → World → Prop))),
      (∀ x ∈ pre ++ l, x.1 < n) → ((pre ++ l).map (·.1)).Pairwise (· < ·) →
      wpB P ops w0 nw fin l (fillIn a0 ops n (fun j => !((pre ++ l).map (·.1)).contains j || (pre.map (·.1)).contains j) (fun j => if ((pre ++ l).map (·.1)).contains j then V j else U j)) (pre.map fun x => (x.1, x.2 (V x.1))) ((pre.filter fun x => nw.contains x.1).map fun x => V x.1) →
      (∀ x ∈ l, ∃ o, ops[x.1]? = some o ∧ ∀ p : Later, (∀ y ∈ pre ++ l, y.1 < x.1 → needs o y.1 = true → y.2 (V y.1) (later w0 p)) →
        opOK P ops o (fillIn a0 ops n (fun j => !((pre ++ l).map (·.1)).contains j || decide (j < x.1)) (fun j => if ((pre ++ l).map (·.1)).contains j then V j else U j)) (later w0 p)
          (fun v w' => Below (later w0 p).heap.size (later w0 p) w' ∧ x.2 v w' ∧ IsNew (nw.contains x.1) v (later w0 p).heap.size w'.heap.size)) ∧
      fin (fillIn a0 ops n (fun _ => true) (fun j => if ((pre ++ l).map (·.1)).contains j then V j else U j)) ((pre ++ l).map fun x => (x.1, x.2 (V x.1))) (((pre ++ l).filter fun x => nw.contains x.1).map fun x => V x.1)
  | [], pre, _, _, h => by
    refine ⟨fun x hx => (by cases hx), ?_⟩
    simp only [List.append_nil] at h ⊢
    have e : fillIn a0 ops n (fun j => !(pre.map (·.1)).contains j || (pre.map (·.1)).contains j) (fun j => if (pre.map (·.1)).contains j then V j else U j)
        = fillIn a0 ops n (fun _ => true) (fun j => if (pre.map (·.1)).contains j then V j else U j) := fillIn_same fun j _ => ⟨by simp, fun _ => rfl⟩
    rw [← e]; exact h
  | (i, φ) :: l, pre, hlt, hpw, h => by
    obtain ⟨o, ho, hw, h1, h2⟩ := h
    have hin : i < n := hlt (i, φ) (by simp)
    have hsplit : pre ++ (i, φ) :: l = (pre ++ [(i, φ)]) ++ l := by simp
    have hpw' := hpw
    rw [List.map_append, List.pairwise_append] at hpw'
    have hprei : ∀ j ∈ pre.map (·.1), j < i := fun j hj => hpw'.2.2 j hj i (by simp)
    have hlgt : ∀ j ∈ l.map (·.1), i < j := fun j hj => by
      have := hpw'.2.1
      rw [List.map_cons, List.pairwise_cons] at this
      exact this.1 j hj
    have hnot : ¬ i ∈ pre.map (·.1) := fun hm => Nat.lt_irrefl _ (hprei i hm)
    have hmem : ∀ j, ((pre ++ (i, φ) :: l).map (·.1)).contains j = true ↔ (j ∈ pre.map (·.1) ∨ j = i ∨ j ∈ l.map (·.1)) := fun j => by
      rw [List.contains_iff_mem, List.map_append, List.map_cons, List.mem_append, List.mem_cons]
    have hput : (fillIn a0 ops n (fun j => !((pre ++ (i, φ) :: l).map (·.1)).contains j || (pre.map (·.1)).contains j) (fun j => if ((pre ++ (i, φ) :: l).map (·.1)).contains j then V j else U j)).put o.dst (V i)
        = fillIn a0 ops n (fun j => !(((pre ++ [(i, φ)]) ++ l).map (·.1)).contains j || ((pre ++ [(i, φ)]).map (·.1)).contains j) (fun j => if (((pre ++ [(i, φ)]) ++ l).map (·.1)).contains j then V j else U j) := by
      have e : o.dst = dstOf ops i := by simp [dstOf, ho]
      have hf : (!((pre ++ (i, φ) :: l).map (·.1)).contains i || (pre.map (·.1)).contains i) = false := by
        rw [(hmem i).2 (.inr (.inl rfl))]
        have : (pre.map (·.1)).contains i = false := by
          cases hc : (pre.map (·.1)).contains i with
          | false => rfl
          | true => exact absurd (List.contains_iff_mem.1 hc) hnot
        rw [this]; rfl
      rw [e, fillIn_put (distinct_of Lk) hin hf, ← hsplit]
      refine fillIn_same fun j _ => ⟨?_, fun _ => ?_⟩
      · rw [Bool.or_assoc]
        congr 1
        rw [Bool.eq_iff_iff]
        simp only [Bool.or_eq_true, List.contains_iff_mem, beq_iff_eq, List.map_append, List.mem_append, List.map_cons, List.map_nil, List.mem_singleton]
      · by_cases hj : j = i
        · subst hj
          rw [if_pos rfl, if_pos ((hmem j).2 (.inr (.inl rfl)))]
        · rw [if_neg hj]
    have h3 := h2 (V i)
    rw [hput] at h3
    have hctx : pre.map (fun x => (x.1, x.2 (V x.1))) ++ [(i, φ (V i))] = (pre ++ [(i, φ)]).map fun x => (x.1, x.2 (V x.1)) := by simp
    have hfr : (if nw.contains i then (pre.filter fun x => nw.contains x.1).map (fun x => V x.1) ++ [V i] else (pre.filter fun x => nw.contains x.1).map fun x => V x.1) = ((pre ++ [(i, φ)]).filter fun x => nw.contains x.1).map fun x => V x.1 := by
      rw [List.filter_append, List.map_append]
      by_cases hc : nw.contains i = true
      · rw [if_pos hc]; rw [List.filter_cons_of_pos (by exact hc)]; rfl
      · have hc' : nw.contains i = false := by simpa using hc
        rw [if_neg hc]; rw [List.filter_cons_of_neg (by simpa using hc)]; simp
    rw [hctx, hfr] at h3
    obtain ⟨g1, g2⟩ := steps_of_B Lk U V l (pre ++ [(i, φ)]) (by rw [← hsplit]; exact hlt) (by rw [← hsplit]; exact hpw) h3
    rw [← hsplit] at g1 g2
    refine ⟨fun x hx => ?_, g2⟩
    rcases List.mem_cons.1 hx with rfl | hx
    · refine ⟨o, ho, fun p hp => ?_⟩
      have h4 := h1 p (fun y hy hn => by
        obtain ⟨z, hz, rfl⟩ := List.mem_map.1 hy
        exact hp z (by simp [hz]) (hprei z.1 (List.mem_map_of_mem hz)) hn)
      have e : fillIn a0 ops n (fun j => !((pre ++ (i, φ) :: l).map (·.1)).contains j || (pre.map (·.1)).contains j) (fun j => if ((pre ++ (i, φ) :: l).map (·.1)).contains j then V j else U j)
          = fillIn a0 ops n (fun j => !((pre ++ (i, φ) :: l).map (·.1)).contains j || decide (j < i)) (fun j => if ((pre ++ (i, φ) :: l).map (·.1)).contains j then V j else U j) := fillIn_same fun j _ => ⟨by
        cases hc : ((pre ++ (i, φ) :: l).map (·.1)).contains j with
        | false => rfl
        | true =>
          rw [Bool.not_true, Bool.false_or, Bool.false_or, Bool.eq_iff_iff, List.contains_iff_mem, decide_eq_true_eq]
          rcases (hmem j).1 hc with hj | hj | hj
          · exact ⟨fun _ => hprei j hj, fun _ => hj⟩
          · subst hj; exact ⟨fun h => absurd h hnot, fun h => absurd h (Nat.lt_irrefl _)⟩
          · have := hlgt j hj
            exact ⟨fun h => by have := hprei j h; omega, fun h => by omega⟩, fun _ => rfl⟩
      rw [← e]
      unfold opOK
      rw [if_pos hw]
      generalize (execOp (fillIn a0 ops n (fun j => !((pre ++ (i, φ) :: l).map (·.1)).contains j || (pre.map (·.1)).contains j) (fun j => if ((pre ++ (i, φ) :: l).map (·.1)).contains j then V j else U j)).eval o).run P (later w0 p) = r at *
      cases r with
      | ok x w' =>
        cases x <;> simp only [rUpon] at h4 <;> simp only [valOK]
        case value u => exact h4
        case enter f args =>
          rw [h4.1]
          exact h4.2
      | halt x w' => simp only [rUpon] at h4
    · exact g1 x hx

structure Mix (ops : Array Oper) (n : Nat) (B : List Nat) : Prop where
  lt : ∀ i ∈ B, i < n
  inc : B.Pairwise (· < ·)
  apart : ∀ (i : Nat) (o : Oper), i < n → B.contains i = false → ops[i]? = some o → ∀ j ∈ B, ∀ t, dstOf ops j = some t → t ∉ o.looksAt ops
  behind : ∀ (i : Nat) (o : Oper), i ∈ B → ops[i]? = some o → ∀ j, j < n → i < j → B.contains j = false → ∀ t, dstOf ops j = some t → t ∉ o.looksAt ops

theorem mix_of {n : Nat} {B : List Nat} (h : mixB ops n B = true) : Mix ops n B := by
  simp only [mixB, Bool.and_eq_true] at h
  obtain ⟨⟨⟨h1, h2⟩, h3⟩, h4⟩ := h
  refine ⟨fun i hi => by simpa using List.all_eq_true.1 h1 i hi, ?_, fun i o hi hb ho j hj t ht hm => ?_, fun i o hi ho j hj hij hb t ht hm => ?_⟩
  · rw [List.pairwise_iff_getElem]
    intro k' k hk' hk hlt
    have := List.all_eq_true.1 (List.all_eq_true.1 h2 k (List.mem_range.2 hk)) k' (List.mem_range.2 hlt)
    simpa [List.getD_eq_getElem?_getD, List.getElem?_eq_getElem hk, List.getElem?_eq_getElem hk'] using this
  · have := List.all_eq_true.1 h3 i (List.mem_range.2 hi)
    rw [hb, ho] at this
    simp only [Bool.false_or] at this
    have := List.all_eq_true.1 this j hj
    rw [ht] at this
    simp at this
    exact this hm
  · have := List.all_eq_true.1 h4 i hi
    rw [ho] at this
    simp only at this
    have := List.all_eq_true.1 this j (List.mem_range.2 hj)
    rw [hb, ht] at this
    simp at this
    rcases this with h | h
    · omega
    · exact h hm

theorem key_unique : ∀ (L : List (Nat × (Value → World → Prop))), (L.map (·.1)).Pairwise (· < ·) → ∀ x ∈ L, ∀ y ∈ L, x.1 = y.1 → x = y
  | [], _, _, hx, _, _, _ => by cases hx
  | z :: L, h, x, hx, y, hy, hxy => by
    rw [List.map_cons, List.pairwise_cons] at h
    rcases List.mem_cons.1 hx with h1 | h1 <;> rcases List.mem_cons.1 hy with h2 | h2
    · rw [h1, h2]
    · have := h.1 y.1 (List.mem_map_of_mem h2)
      rw [← hxy, h1] at this
      exact absurd this (Nat.lt_irrefl _)
    · have := h.1 x.1 (List.mem_map_of_mem h1)
      rw [hxy, h2] at this
      exact absurd this (Nat.lt_irrefl _)
    · exact key_unique L h.2 x h1 y h2 hxy

theorem any_mix (n : Nat) (nw : List Nat) (ψ : List (Nat × (Value → World → Prop))) {a0 : Act} {l : List Oper} {w1 : World} (hw1 : ∃ p : Later, w1 = later w0 p) (hB : okB l.toArray n = true) (hM : mixB l.toArray n (ψ.map (·.1)) = true)
    (hkeep : ∀ x ∈ ψ, ∀ (v : Value) (w w' : World), x.2 v w → Below w.heap.size w w' → x.2 v w')
    (h : wpA P l.toArray w0 (ψ.map (·.1)) (fun a => wpB P l.toArray w0 nw (fun a' ctx fr => ∀ p : Later, (∀ x ∈ ctx, x.2 (later w0 p)) → fr.Pairwise (fun u v => blkOf u ≠ blkOf v) → wpList P l.toArray Q (l.drop n) a' (later w0 p)) ψ a [] []) (l.take n) 0 a0) :
    Any P l Q a0 w1 := by
  have Lk := look_of hB
  have M := mix_of hM
  have hn : n ≤ l.length := by simpa using Lk.le
  have h0 : fillIn a0 l.toArray n (fun j => decide (j < 0) && !(ψ.map (·.1)).contains j) (fun _ => undef) = a0 := by
    have : (fun j => decide (j < 0) && !(ψ.map (·.1)).contains j) = fun _ : Nat => false := by funext j; simp
    rw [this, fillIn_none]
  rw [← h0] at h
  obtain ⟨U, _, hU2, hU3⟩ := steps_of_A Lk (l.take n) 0 (fun _ => undef) (by simp; omega) (fun j hj => by
    have hj' : j < n := by simp at hj; omega
    simp [hj']) h
  have hlt : ∀ x ∈ ([] : List (Nat × (Value → World → Prop))) ++ ψ, x.1 < n := fun x hx => M.lt x.1 (List.mem_map_of_mem (by simpa using hx))
  have hB2 : ∀ V : Nat → Value, _ := fun V => steps_of_B (P := P) (w0 := w0) (a0 := a0) Lk U (nw := nw) (fin := fun a' ctx fr => ∀ p : Later, (∀ x ∈ ctx, x.2 (later w0 p)) → fr.Pairwise (fun u v => blkOf u ≠ blkOf v) → wpList P l.toArray Q (l.drop n) a' (later w0 p)) V ψ [] hlt (by simpa using M.inc) (by
    have e : fillIn a0 l.toArray n (fun j => !((([] : List (Nat × (Value → World → Prop))) ++ ψ).map (·.1)).contains j || (([] : List (Nat × (Value → World → Prop))).map (·.1)).contains j) (fun j => if ((([] : List (Nat × (Value → World → Prop))) ++ ψ).map (·.1)).contains j then V j else U j)
        = fillIn a0 l.toArray n (fun j => !(ψ.map (·.1)).contains j) U := fillIn_same fun j _ => ⟨by simp, fun hj => by
      have : ((([] : List (Nat × (Value → World → Prop))) ++ ψ).map (·.1)).contains j = false := by simpa using hj
      rw [if_neg (by rw [this]; simp)]⟩
    rw [e]; exact hU2)
  refine any_rel (n := n) (C := fun w' => ∃ p : Later, w' = later w0 p) (R := fun w w' => Below w.heap.size w w')
    (Φ := fun j v w => ((ψ.map (·.1)).contains j = false → v = U j) ∧ (∀ x ∈ ψ, x.1 = j → x.2 v w) ∧ ((ψ.map (·.1)).contains j = true → IsNew (nw.contains j) v 0 w.heap.size))
    (Ψ := fun i v w => (ψ.map (·.1)).contains i = true → nw.contains i = true → ∃ b, blkOf v = some b ∧ w.heap.size ≤ b)
    (D := fun i v j u => (ψ.map (·.1)).contains i = true → (ψ.map (·.1)).contains j = true → nw.contains i = true → nw.contains j = true → blkOf v ≠ blkOf u) hB hw1 ⟨?_, ?_, ?_, ?_, ?_⟩
  · rintro w w' ⟨p, rfl⟩ hb
    exact later_of_below ((below_later w0 p).trans (hb.mono (below_later w0 p).size))
  · rintro j v w w' ⟨h1, h2, h3⟩ hb
    exact ⟨h1, fun x hx hj => hkeep x hx v w w' (h2 x hx hj) hb, fun hc hf => by
      obtain ⟨b, g1, g2, g3⟩ := h3 hc hf
      exact ⟨b, g1, g2, Nat.lt_of_lt_of_le g3 hb.size⟩⟩
  · rintro i o hi ho V w ⟨p, rfl⟩ hV
    have hpair : ∀ j, j < n → ∀ t ∈ o.looksAt l.toArray, dstOf l.toArray j = some t → i = j ∨ (j < i ∧ needs o j = true) ∨ i < j := fun j hj t ht hd => by
      have hp := Lk.pair i j hi hj
      unfold pairOk at hp
      unfold dstOf at hd
      cases hoj : l.toArray[j]? with
      | none => rw [hoj] at hd; cases hd
      | some oj =>
        rw [hoj] at hd
        simp only [Option.bind_some] at hd
        simp only [ho, hoj, hd] at hp
        by_cases hij : i = j
        · exact .inl hij
        · simp only [beq_iff_eq, hij, false_or, Bool.and_eq_true, Bool.or_eq_true, Bool.not_eq_true', List.contains_eq_mem, decide_eq_true_eq, decide_eq_false_iff_not, bne_iff_ne] at hp
          rcases hp.2 with (hp2 | hp2) | hp2
          · exact absurd ht hp2
          · exact .inr (.inl hp2)
          · exact .inr (.inr hp2.1)
    rcases Bool.eq_false_or_eq_true ((ψ.map (·.1)).contains i) with hb | hb
    rotate_left
    · have h1 := hU3 i o (Nat.zero_le _) hi hb ho p
      have h2 : opOK P l.toArray o (fillIn a0 l.toArray n (fun j => decide (j < i)) V) (later w0 p) (fun v w' => Below (later w0 p).heap.size (later w0 p) w' ∧ v = U i) := by
        refine opOK_congr (Lk.sel i o ho) (fun t ht => fillIn_ext fun j hj hd => ?_) h1
        have hbj : (ψ.map (·.1)).contains j = false := by
          rcases Bool.eq_false_or_eq_true ((ψ.map (·.1)).contains j) with hc | hc
          · exact absurd ht (M.apart i o hi hb ho j (List.contains_iff_mem.1 hc) t hd)
          · exact hc
        rw [hbj]
        refine ⟨by simp, fun hl => ?_⟩
        simp only [Bool.not_false, Bool.and_true, decide_eq_true_eq] at hl
        rcases hpair j hj t ht hd with h3 | h3 | h3
        · omega
        · exact ((hV j hj h3.2).1 hbj).symm
        · omega
      unfold opOK at h2 ⊢
      split
      · rename_i hw
        rw [if_pos hw] at h2
        generalize (execOp (fillIn a0 l.toArray n (fun j => decide (j < i)) V).eval o).run P (later w0 p) = r at *
        have key : ∀ v w', (Below (later w0 p).heap.size (later w0 p) w' ∧ v = U i) → (Below (later w0 p).heap.size (later w0 p) w' ∧ (((ψ.map (·.1)).contains i = false → v = U i) ∧ (∀ x ∈ ψ, x.1 = i → x.2 v w') ∧ ((ψ.map (·.1)).contains i = true → IsNew (nw.contains i) v 0 w'.heap.size)) ∧ ((ψ.map (·.1)).contains i = true → nw.contains i = true → ∃ b, blkOf v = some b ∧ (later w0 p).heap.size ≤ b)) := fun v w' hk =>
          ⟨hk.1, ⟨fun _ => hk.2, (fun x hx hxi => by
            have : (ψ.map (·.1)).contains i = true := List.contains_iff_mem.2 (hxi ▸ List.mem_map_of_mem hx)
            rw [hb] at this; cases this), fun hc => by rw [hb] at hc; cases hc⟩, fun hc => by rw [hb] at hc; cases hc⟩
        cases r with
        | ok x w' =>
          cases x <;> simp only [valOK] at h2 ⊢
          case value u => exact key _ _ h2
          case skip => exact key _ _ h2
          case enter f args => exact h2.mono fun e w'' ⟨v, he, hk⟩ => ⟨v, he, key _ _ hk⟩
        | halt x w' => simp only [valOK] at h2
      · rename_i hw
        rw [if_neg hw] at h2
        exact ⟨h2.1, ⟨fun _ => h2.2, (fun x hx hxi => by
            have : (ψ.map (·.1)).contains i = true := List.contains_iff_mem.2 (hxi ▸ List.mem_map_of_mem hx)
            rw [hb] at this; cases this), fun hc => by rw [hb] at hc; cases hc⟩, fun hc => by rw [hb] at hc; cases hc⟩
    · obtain ⟨x, hx, hxi⟩ := List.mem_map.1 (List.contains_iff_mem.1 hb)
      subst hxi
      obtain ⟨o', ho', h1⟩ := (hB2 V).1 x hx
      rw [ho] at ho'
      cases ho'
      have h2 := h1 p (fun y hy hlt' hn => (hV y.1 (hlt y (by simpa using hy)) hn).2.1 y (by simpa using hy) rfl)
      have h3 : opOK P l.toArray o (fillIn a0 l.toArray n (fun j => decide (j < x.1)) V) (later w0 p) (fun v w' => Below (later w0 p).heap.size (later w0 p) w' ∧ x.2 v w' ∧ IsNew (nw.contains x.1) v (later w0 p).heap.size w'.heap.size) := by
        refine opOK_congr (Lk.sel _ o ho) (fun t ht => fillIn_ext fun j hj hd => ?_) h2
        simp only [List.nil_append]
        rcases Bool.eq_false_or_eq_true ((ψ.map (·.1)).contains j) with hbj | hbj
        · have hbj' : ((([] : List (Nat × (Value → World → Prop))) ++ ψ).map (·.1)).contains j = true := by simpa using hbj
          exact ⟨by show (!((([] : List (Nat × (Value → World → Prop))) ++ ψ).map (·.1)).contains j || decide (j < x.1)) = decide (j < x.1); rw [hbj']; rfl, fun _ => if_pos (by simpa using hbj)⟩
        · rcases hpair j hj t ht hd with h4 | h4 | h4
          · subst h4; rw [hb] at hbj; cases hbj
          · exact ⟨by simp [h4.1], fun _ => by rw [(hV j hj h4.2).1 hbj]; exact if_neg (by simpa using hbj)⟩
          · exact absurd ht (M.behind x.1 o (List.contains_iff_mem.1 hb) ho j hj h4 hbj t hd)
      have uniq : ∀ y ∈ ψ, y.1 = x.1 → y = x := fun y hy hyx => key_unique ψ M.inc y hy x hx hyx
      have key : ∀ v w', (Below (later w0 p).heap.size (later w0 p) w' ∧ x.2 v w' ∧ IsNew (nw.contains x.1) v (later w0 p).heap.size w'.heap.size) → (Below (later w0 p).heap.size (later w0 p) w' ∧ (((ψ.map (·.1)).contains x.1 = false → v = U x.1) ∧ (∀ y ∈ ψ, y.1 = x.1 → y.2 v w') ∧ ((ψ.map (·.1)).contains x.1 = true → IsNew (nw.contains x.1) v 0 w'.heap.size)) ∧ ((ψ.map (·.1)).contains x.1 = true → nw.contains x.1 = true → ∃ b, blkOf v = some b ∧ (later w0 p).heap.size ≤ b)) := fun v w' hk =>
        ⟨hk.1, ⟨fun hc => (by rw [hb] at hc; cases hc), fun y hy hyx => by rw [uniq y hy hyx]; exact hk.2.1, fun _ hf => by
          obtain ⟨b, g1, g2, g3⟩ := hk.2.2 hf
          exact ⟨b, g1, Nat.zero_le _, g3⟩⟩, fun _ hf => by
          obtain ⟨b, g1, g2, g3⟩ := hk.2.2 hf
          exact ⟨b, g1, g2⟩⟩
      unfold opOK at h3 ⊢
      split
      · rename_i hw
        rw [if_pos hw] at h3
        generalize (execOp (fillIn a0 l.toArray n (fun j => decide (j < x.1)) V).eval o).run P (later w0 p) = r at *
        cases r with
        | ok z w' =>
          cases z <;> simp only [valOK] at h3 ⊢
          case value u => exact key _ _ h3
          case skip => exact key _ _ h3
          case enter f args => exact h3.mono fun e w'' ⟨v, he, hk⟩ => ⟨v, he, key _ _ hk⟩
        | halt z w' => simp only [valOK] at h3
      · rename_i hw
        rw [if_neg hw] at h3
        exact key _ _ h3
  · rintro i j v u w hij hΨ ⟨_, _, h3⟩
    have : (ψ.map (·.1)).contains i = true → (ψ.map (·.1)).contains j = true → nw.contains i = true → nw.contains j = true → blkOf v ≠ blkOf u := fun c1 c2 c3 c4 e => by
      obtain ⟨b, g1, g2⟩ := hΨ c1 c3
      obtain ⟨c, k1, _, k3⟩ := h3 c2 c4
      rw [g1, k1] at e
      cases e
      omega
    exact ⟨this, fun c1 c2 c3 c4 e => this c2 c1 c4 c3 e.symm⟩
  · rintro V w ⟨p, rfl⟩ hV hD
    have h1 := (hB2 V).2 p (fun y hy => by
      obtain ⟨z, hz, rfl⟩ := List.mem_map.1 hy
      exact (hV z.1 (hlt z hz)).2.1 z (by simpa using hz) rfl) (by
        rw [List.nil_append, List.pairwise_map]
        have hinc := M.inc
        rw [List.pairwise_map] at hinc
        refine List.Pairwise.imp_of_mem ?_ (List.Pairwise.filter _ hinc)
        intro x y hx hy hlt1
        obtain ⟨hx, hcx⟩ := List.mem_filter.1 hx
        obtain ⟨hy, hcy⟩ := List.mem_filter.1 hy
        exact hD x.1 y.1 (hlt x (by simpa using hx)) (hlt y (by simpa using hy)) (by omega) (List.contains_iff_mem.2 (List.mem_map_of_mem hx)) (List.contains_iff_mem.2 (List.mem_map_of_mem hy)) hcx hcy)
    have e : fillIn a0 l.toArray n (fun j => decide (j < n)) V = fillIn a0 l.toArray n (fun _ => true) (fun j => if ((([] : List (Nat × (Value → World → Prop))) ++ ψ).map (·.1)).contains j then V j else U j) := fillIn_same fun j hj => ⟨by simp [hj], fun _ => by
      simp only [List.nil_append]
      rcases Bool.eq_false_or_eq_true ((ψ.map (·.1)).contains j) with hbj | hbj
      · exact (if_pos (by simpa using hbj)).symm
      · rw [(hV j hj).1 hbj]; exact (if_neg (by simpa using hbj)).symm⟩
    rw [e]
    exact h1

theorem wp_region_mix {id : Nat} (n : Nat) (nw : List Nat) (ψ : List (Nat × (Value → World → Prop))) {a0 : Act} {l : List Oper} (hm : P.follows .mixedOrders = true) (hB : okB l.toArray n = true) (hM : mixB l.toArray n (ψ.map (·.1)) = true)
    (hkeep : ∀ x ∈ ψ, ∀ (v : Value) (w w' : World), x.2 v w → Below w.heap.size w w' → x.2 v w')
    (h : wpA P l.toArray w0 (ψ.map (·.1)) (fun a => wpB P l.toArray w0 nw (fun a' ctx fr => ∀ p : Later, (∀ x ∈ ctx, x.2 (later w0 p)) → fr.Pairwise (fun u v => blkOf u ≠ blkOf v) → wpList P l.toArray Q (l.drop n) a' (later w0 p)) ψ a [] []) (l.take n) 0 a0) :
    (Code.region id l.toArray true).wp P Q a0 w0 :=
  any_of_region hm (any_mix n nw ψ ⟨⟨w0.drawn + 1, #[]⟩, by simp [later]⟩ hB hM hkeep h)

end
end Rel
end Go.Proofs.YtalmgeefkcebdaaGreatDoor

