/- A region that draws its order, in two pieces: whatever of its operations stands behind number m waits for all before it. -/
import Derived.Test.YtlgjnidphldiiaaRelX
namespace Go.Proofs.Ytlgjnidphldiiaa
open Go.RowKit
namespace Rel

def quietOp (o : Oper) : Oper := { o with op := .move (.const undef), dst := none, guard := none }
def laterOp (m : Nat) (dead : Bool) (o : Oper) : Oper :=
  if dead then { o with op := .move (.const undef), guard := none }
  else { o with guard := match o.guard with | some (g, b) => if g < m then none else some (g, b) | none => none }
def seg2 (m : Nat) (dead : List Nat) : Nat → List Oper → List Oper
  | _, [] => []
  | i, o :: l => (if i < m then quietOp o else laterOp m (dead.contains i) o) :: seg2 m dead (i + 1) l

theorem seg2_get (m : Nat) (dead : List Nat) : ∀ (l : List Oper) (i j : Nat), (seg2 m dead i l)[j]? = (l[j]?).map fun o => if i + j < m then quietOp o else laterOp m (dead.contains (i + j)) o
  | [], _, _ => by simp [seg2]
  | o :: l, i, 0 => by simp [seg2]
  | o :: l, i, j + 1 => by
    simp only [seg2, List.getElem?_cons_succ]
    rw [seg2_get m dead l (i + 1) j, show i + 1 + j = i + (j + 1) by omega]
theorem seg2_len (m : Nat) (dead : List Nat) : ∀ (l : List Oper) (i : Nat), (seg2 m dead i l).length = l.length
  | [], _ => rfl
  | o :: l, i => by simp [seg2, seg2_len m dead l (i + 1)]

/-- The look: edges and guards go back; each operation waits for all of the first m before it; the slots of the first m are their own. -/
def segB (ops : Array Oper) (m : Nat) : Bool :=
  decide (m ≤ ops.size) && (ops.all fun o => !isSelect o.op) &&
  ((List.range ops.size).all fun i => match ops[i]? with | some o => (o.after.all fun e => !Region.binds .any e || decide (e.on < i)) && (match o.guard with | some (g, _) => decide (g < i) | none => true) | none => true) &&
  ((List.range ops.size).all fun t => decide (t < m) || (List.range m).all fun i => anc ops ops.size t i) &&
  ((List.range ops.size).all fun t => decide (t < m) || (List.range m).all fun g => match dstOf ops g, dstOf ops t with | some d, some e => d != e | _, _ => true)

structure SegLook (ops : Array Oper) (m : Nat) : Prop where
  le : m ≤ ops.size
  back : ∀ (i : Nat) (o : Oper), ops[i]? = some o → ∀ j, needs o j = true → j < i
  gback : ∀ (i : Nat) (o : Oper), ops[i]? = some o → ∀ g b, o.guard = some (g, b) → g < i
  all : ∀ t i, m ≤ t → t < ops.size → i < m → anc ops ops.size t i = true
  apart : ∀ t g d e, m ≤ t → t < ops.size → g < m → dstOf ops g = some d → dstOf ops t = some e → d ≠ e

theorem segLook_of {ops : Array Oper} {m : Nat} (h : segB ops m = true) : SegLook ops m := by
  simp only [segB, Bool.and_eq_true, decide_eq_true_eq] at h
  obtain ⟨⟨⟨⟨h1, _⟩, h3⟩, h4⟩, h5⟩ := h
  refine ⟨h1, fun i o ho j hj => ?_, fun i o ho g b hg => ?_, fun t i hn ht hi => ?_, fun t g d e hn ht hg hd he => ?_⟩
  · have hlt : i < ops.size := (Array.getElem?_eq_some_iff.1 ho).1
    have := List.all_eq_true.1 h3 i (List.mem_range.2 hlt)
    simp only [ho, Bool.and_eq_true] at this
    obtain ⟨e, he, hb, rfl⟩ := needs_spec.1 hj
    have := Array.all_eq_true'.1 this.1 e he
    simpa [hb] using this
  · have hlt : i < ops.size := (Array.getElem?_eq_some_iff.1 ho).1
    have := List.all_eq_true.1 h3 i (List.mem_range.2 hlt)
    simp only [ho, hg, Bool.and_eq_true, decide_eq_true_eq] at this
    exact this.2
  · have := List.all_eq_true.1 h4 t (List.mem_range.2 ht)
    simp only [Bool.or_eq_true, decide_eq_true_eq] at this
    rcases this with h | h
    · omega
    · exact List.all_eq_true.1 h i (List.mem_range.2 hi)
  · have := List.all_eq_true.1 h5 t (List.mem_range.2 ht)
    simp only [Bool.or_eq_true, decide_eq_true_eq] at this
    rcases this with h | h
    · omega
    · have := List.all_eq_true.1 h g (List.mem_range.2 hg)
      rw [hd, he] at this
      simpa using this

section
variable {P : Program} {Q : Exit → Act → World → Prop}

/-- Behind a normal end N; otherwise Q. -/
theorem upon_then {o : Oper} {a : Act} {K N : Act → World → Prop} {r : Result Next} (h : o.upon P a K (Exit.then N Q) r) : o.upon P a K Q r := by
  cases r with
  | ok x w' =>
    cases x <;> simp only [Oper.upon] at h ⊢
    all_goals first
      | exact h
      | (refine Calls.mono h fun e w'' he => ?_; cases e <;> first | exact he | exact he)
  | halt x w' => cases x <;> simp only [Oper.upon] at h ⊢ <;> exact h

theorem letsOut_then {N : Act → World → Prop} (h : LetsOut (Exit.then N Q)) : LetsOut Q := h

theorem upon_put {o : Oper} {a : Act} {K : Act → World → Prop} {r : Result Next} (h : o.upon P a K Q r) : o.upon P a (fun a' w' => K a' w' ∧ ∃ v, a'.tmps = (a.put o.dst v).tmps) Q r := by
  cases r with
  | ok x w' =>
    cases x <;> simp only [Oper.upon] at h ⊢
    case value v => exact ⟨h, v, rfl⟩
    case skip => exact ⟨h, undef, rfl⟩
    case defer d => exact ⟨h, undef, by cases o.dst <;> rfl⟩
    case enter f args =>
      refine Calls.mono h fun e w'' he => ?_
      cases e
      case returned v => exact ⟨he, v, rfl⟩
      all_goals exact he
    case row row args => exact Rows.mono h fun v w'' hk => ⟨hk, v, rfl⟩
    all_goals exact h
  | halt x w' => cases x <;> simp only [Oper.upon] at h ⊢ <;> exact h

theorem wpOp_put {ops : Array Oper} {i : Nat} {o : Oper} {a : Act} {w : World} {K K' : Act → World → Prop} (ho : ops[i]? = some o) (h : wpOp P ops Q i K a w) (hK : ∀ a' w', K a' w' → (∃ v, a'.tmps = (a.put o.dst v).tmps) → K' a' w') : wpOp P ops Q i K' a w := by
  unfold wpOp at h ⊢
  simp only [ho] at h ⊢
  split
  · rename_i hw
    rw [if_pos hw] at h
    rcases h with h | h
    · exact .inl (Oper.wp_mono (fun a' w' hh => hK a' w' hh.1 hh.2) (upon_put h))
    · exact .inr h
  · rename_i hw
    rw [if_neg hw] at h
    exact hK _ _ h ⟨undef, rfl⟩

/-- Of the later piece the first m are done: as the region itself. -/
theorem wpAny_seg2 {ops ops2 : Array Oper} {m : Nat} {dead : List Nat} (hz : ops2.size = ops.size)
    (h2 : ∀ j, ops2[j]? = (ops[j]?).map fun o => if j < m then quietOp o else laterOp m (dead.contains j) o)
    (Gd : Act → Prop) (hG : ∀ a, Gd a → ∀ i o, m ≤ i → ops[i]? = some o → match o.guard with | some (g, _) => if g < m then Region.wanted o (yielded ops a.tmps) = !dead.contains i else dead.contains i = false | none => dead.contains i = false)
    (hGp : ∀ a, Gd a → ∀ i o, m ≤ i → ops[i]? = some o → ∀ a', (∃ v, a'.tmps = (a.put o.dst v).tmps) → Gd a') :
    ∀ (fuel : Nat) (listed : Array Bool) (a : Act) (w : World), listed.size = ops.size → (∀ j, j < m → listed.getD j false = true) → Gd a → wpAny P .any ops2 Q fuel listed a w → wpAny P .any ops Q fuel listed a w := by
  have hr : ∀ listed : Array Bool, Region.ready .any ops2 listed = Region.ready .any ops listed := fun listed => by
    unfold Region.ready
    rw [hz]
    refine List.filter_congr fun i _ => ?_
    rw [h2 i]
    cases ops[i]? with
    | none => rfl
    | some o =>
      simp only [Option.map_some, Option.getD_some]
      congr 1
      split
      · rfl
      · unfold laterOp; split <;> rfl
  have hop : ∀ (i : Nat) (o : Oper) (a : Act) (w : World) (K : Act → World → Prop), ops[i]? = some o → m ≤ i → Gd a → wpOp P ops2 Q i K a w → wpOp P ops Q i K a w := by
    intro i o a w K ho hi ha h
    have e2 : ops2[i]? = some (laterOp m (dead.contains i) o) := by
      rw [h2 i, ho, Option.map_some]
      rw [if_neg (show ¬ i < m by omega)]
    unfold wpOp at h ⊢
    rw [e2] at h
    simp only [ho] at h ⊢
    have hg := hG a ha i o hi ho
    have hy : ∀ g, ¬ g < m → yielded ops2 a.tmps g = yielded ops a.tmps g := fun g hg => by
      have : (ops2[g]?).bind (·.dst) = (ops[g]?).bind (·.dst) := by
        rw [h2 g]
        cases ops[g]? with
        | none => rfl
        | some og =>
          simp only [Option.map_some, Option.bind_some]
          rw [if_neg hg]
          unfold laterOp; split <;> rfl
      unfold yielded
      rw [this]
    have hwant : Region.wanted (laterOp m (dead.contains i) o) (yielded ops2 a.tmps) = (Region.wanted o (yielded ops a.tmps) || dead.contains i) := by
      unfold laterOp Region.wanted at *
      cases hog : o.guard with
      | none =>
        simp only [hog] at hg ⊢
        rw [hg]
        simp
      | some gb =>
        obtain ⟨g, b⟩ := gb
        simp only [hog] at hg ⊢
        by_cases hgm : g < m
        · rw [if_pos hgm] at hg
          cases hd : dead.contains i with
          | true => simp
          | false => rw [hd] at hg; simp [hgm, hg]
        · rw [if_neg hgm] at hg
          rw [hg]
          simp [hgm, hy g hgm]
    cases hd : dead.contains i with
    | true =>
      have hw : Region.wanted o (yielded ops a.tmps) = false := by
        cases hog : o.guard with
        | none => rw [hog] at hg; simp only at hg; rw [hd] at hg; cases hg
        | some gb =>
          obtain ⟨g, b⟩ := gb
          rw [hog] at hg
          simp only at hg
          by_cases hgm : g < m
          · rw [if_pos hgm, hd] at hg; exact hg
          · rw [if_neg hgm, hd] at hg; cases hg
      rw [hwant, hd, Bool.or_true, if_pos rfl] at h
      rw [if_neg (by rw [hw]; simp)]
      rcases h with h | ⟨h, _⟩
      · unfold laterOp at h
        simpa [Oper.wp, execOp, Oper.upon, Act.eval] using h
      · exfalso
        unfold Oper.asks laterOp at h
        simp [execOp] at h
        exact absurd (show noRoomEvent ∈ (#[] : Array Event) from h) (by simp)
    | false =>
      rw [hwant, hd, Bool.or_false] at h
      split
      · rename_i hw
        rw [if_pos hw] at h
        exact h
      · rename_i hw
        rw [if_neg hw] at h
        exact h
  intro fuel
  induction fuel with
  | zero =>
    intro listed a w _ _ _ h
    unfold wpAny at h ⊢
    rw [hr] at h
    exact h
  | succ fuel ih =>
    intro listed a w hs hl ha h
    unfold wpAny at h ⊢
    rw [hr] at h
    refine ⟨h.1, fun i hi => ?_⟩
    obtain ⟨o, ho, h4, _⟩ := (mem_ready' hs).1 hi
    have hm : m ≤ i := by
      apply Classical.byContradiction
      intro hlt
      have := hl i (by omega)
      rw [h4] at this; cases this
    have hlt : i < listed.size := by rw [hs]; exact (Array.getElem?_eq_some_iff.1 ho).1
    refine wpOp_put ho (hop i o a w _ ho hm ha (h.2 i hi)) fun a' w' hk hput => ?_
    exact ih _ _ _ (by simpa using hs) (fun j hj => by rw [getD_set hlt, hl j hj]; rfl) (hGp a ha i o hm ho a' hput) hk

/-- The first m of the later piece, which do nothing, one by one. -/
theorem wpAny_lead {ops ops2 : Array Oper} {m : Nat} {dead : List Nat} (Lk : SegLook ops m) (hz : ops2.size = ops.size)
    (h2 : ∀ j, ops2[j]? = (ops[j]?).map fun o => if j < m then quietOp o else laterOp m (dead.contains j) o) :
    ∀ (d k fuel : Nat) (listed : Array Bool) (a : Act) (w : World), k + d = m → listed.size = ops.size → (∀ j, listed.getD j false = decide (j < k)) → wpAny P .any ops2 Q (fuel + d) listed a w →
      ∃ listed', listed'.size = ops.size ∧ (∀ j, listed'.getD j false = decide (j < m)) ∧ wpAny P .any ops2 Q fuel listed' a w
  | 0, k, fuel, listed, a, w, hk, hs, hl, h => ⟨listed, hs, fun j => by rw [hl, show k = m by omega], h⟩
  | d + 1, k, fuel, listed, a, w, hk, hs, hl, h => by
    have hkm : k < m := by omega
    have hko : k < ops.size := by have := Lk.le; omega
    obtain ⟨o, ho⟩ : ∃ o, ops[k]? = some o := ⟨ops[k], Array.getElem?_eq_getElem hko⟩
    have e2 : ops2[k]? = some (quietOp o) := by rw [h2 k, ho, Option.map_some, if_pos hkm]
    have hlt : k < listed.size := by omega
    have hready : k ∈ Region.ready .any ops2 listed := by
      rw [mem_ready' (by omega)]
      refine ⟨_, e2, by rw [hl]; simp, fun j hj => ?_⟩
      have hj' : needs o j = true := hj
      have := Lk.back k o ho j hj'
      rw [hl]; simp [this]
    have h' : wpAny P .any ops2 Q ((fuel + d) + 1) listed a w := h
    unfold wpAny at h'
    have h3 := h'.2 k hready
    unfold wpOp at h3
    simp only [e2] at h3
    have h4 : wpAny P .any ops2 Q (fuel + d) (listed.setIfInBounds k true) a w := by
      rw [if_pos (by unfold quietOp Region.wanted; rfl)] at h3
      rcases h3 with h3 | ⟨h3, _⟩
      · unfold quietOp at h3
        simpa [Oper.wp, execOp, Oper.upon, Act.eval, Act.put] using h3
      · exfalso
        unfold Oper.asks quietOp at h3
        simp [execOp] at h3
        exact absurd (show noRoomEvent ∈ (#[] : Array Event) from h3) (by simp)
    refine wpAny_lead Lk hz h2 d (k + 1) fuel _ a w (by omega) (by simpa using hs) (fun j => ?_) h4
    rw [getD_set hlt, hl j, Bool.eq_iff_iff]
    simp
    omega

theorem wpAny_more {ops : Array Oper} : ∀ (fuel : Nat) (listed : Array Bool) (a : Act) (w : World), wpAny P .any ops Q fuel listed a w → wpAny P .any ops Q (fuel + 1) listed a w
  | 0, listed, a, w, h => by
    unfold wpAny at h ⊢
    exact ⟨fun _ => h.2, fun i hi => by rw [h.1] at hi; cases hi⟩
  | fuel + 1, listed, a, w, h => by
    have h' : wpAny P .any ops Q (fuel + 1) listed a w := h
    unfold wpAny at h'
    refine ⟨h'.1, fun i hi => wpOp_mono (fun a' w' hk => wpAny_more fuel _ a' w' hk) (h'.2 i hi)⟩

/-- The first piece, and behind it N: as the region. -/
theorem wpAny_seg1 {ops ops1 : Array Oper} {m : Nat} (Lk : SegLook ops m) (h1 : ∀ j, ops1[j]? = if j < m then ops[j]? else none) (hz1 : ops1.size = m) {N : Act → World → Prop} {f2 : Nat}
    (hN : ∀ (listed : Array Bool) (a : Act) (w : World), listed.size = ops.size → (∀ j, listed.getD j false = decide (j < m)) → N a w → wpAny P .any ops Q f2 listed a w) :
    ∀ (fuel : Nat) (listed listed1 : Array Bool) (a : Act) (w : World), listed.size = ops.size → listed1.size = m → (∀ j, listed1.getD j false = listed.getD j false) → Done ops listed → wpAny P .any ops1 (Exit.then N Q) fuel listed1 a w → wpAny P .any ops Q (fuel + f2) listed a w := by
  have hm := Lk.le
  have ready1 : ∀ (listed listed1 : Array Bool), listed.size = ops.size → listed1.size = m → (∀ j, listed1.getD j false = listed.getD j false) → ∀ i, i < m → (i ∈ Region.ready .any ops listed ↔ i ∈ Region.ready .any ops1 listed1) := fun listed listed1 hs hs1 hl i hi => by
    rw [mem_ready' hs, mem_ready' (by omega), h1 i, if_pos hi]
    constructor
    · rintro ⟨o, ho, g1, g2⟩
      exact ⟨o, ho, by rw [hl]; exact g1, fun j hj => by rw [hl]; exact g2 j hj⟩
    · rintro ⟨o, ho, g1, g2⟩
      exact ⟨o, ho, by rw [← hl]; exact g1, fun j hj => by rw [← hl]; exact g2 j hj⟩
  -- all of the first m done
  have over : ∀ (listed listed1 : Array Bool) (a : Act) (w : World), listed.size = ops.size → listed1.size = m → (∀ j, listed1.getD j false = listed.getD j false) → Done ops listed → Region.ready .any ops1 listed1 = [] → N a w → wpAny P .any ops Q f2 listed a w := by
    intro listed listed1 a w hs hs1 hl D hr hn
    refine hN listed a w hs (fun j => ?_) hn
    by_cases hj : j < m
    · have : listed.getD j false = true := by
        induction j using Nat.strongRecOn with
        | _ j ih =>
          cases hlj : listed.getD j false with
          | true => rfl
          | false =>
            exfalso
            obtain ⟨o, ho⟩ : ∃ o, ops[j]? = some o := ⟨ops[j], Array.getElem?_eq_getElem (by omega)⟩
            have hmem : j ∈ Region.ready .any ops listed := (mem_ready' hs).2 ⟨o, ho, hlj, fun k hk => ih k (Lk.back j o ho k hk) (by have := Lk.back j o ho k hk; omega)⟩
            rw [ready1 listed listed1 hs hs1 hl j hj, hr] at hmem
            cases hmem
      rw [this]; simp [hj]
    · rw [← hl j]
      have : listed1.getD j false = false := by simp [Array.getD]; omega
      rw [this]; simp [hj]
  intro fuel
  induction fuel with
  | zero =>
    intro listed listed1 a w hs hs1 hl D h
    unfold wpAny at h
    rw [Nat.zero_add]
    exact over listed listed1 a w hs hs1 hl D h.1 h.2
  | succ fuel ih =>
    intro listed listed1 a w hs hs1 hl D h
    unfold wpAny at h
    by_cases hr : Region.ready .any ops1 listed1 = []
    · have h3 := over listed listed1 a w hs hs1 hl D hr (h.1 hr)
      have : ∀ d, wpAny P .any ops Q (d + f2) listed a w := fun d => by
        induction d with
        | zero => rw [Nat.zero_add]; exact h3
        | succ d ihd => rw [show d + 1 + f2 = (d + f2) + 1 by omega]; exact wpAny_more _ _ _ _ ihd
      exact this _
    · rw [show fuel + 1 + f2 = (fuel + f2) + 1 by omega]
      -- not all of the first m are done
      obtain ⟨i0, hi0⟩ : ∃ i, i ∈ Region.ready .any ops1 listed1 := by
        cases hl2 : Region.ready .any ops1 listed1 with
        | nil => exact absurd hl2 hr
        | cons x l => exact ⟨x, by simp⟩
      have hi0m : i0 < m := by
        obtain ⟨o, ho, _⟩ := (mem_ready' (by omega)).1 hi0
        rw [← hz1]; exact (Array.getElem?_eq_some_iff.1 ho).1
      have hi0f : listed.getD i0 false = false := by
        obtain ⟨o, ho, g1, _⟩ := (mem_ready' (by omega)).1 hi0
        rw [← hl]; exact g1
      have hlow : ∀ i, i ∈ Region.ready .any ops listed → i < m := fun i hi => by
        apply Classical.byContradiction
        intro hge
        obtain ⟨o, ho, _, g2⟩ := (mem_ready' hs).1 hi
        have hsz : i < ops.size := (Array.getElem?_eq_some_iff.1 ho).1
        have := anc_done D ops.size i i0 (Lk.all i i0 (by omega) hsz hi0m) fun o' ho' k hk => by
          rw [ho] at ho'; cases ho'; exact g2 k hk
        rw [hi0f] at this; cases this
      unfold wpAny
      refine ⟨fun hr2 => ?_, fun i hi => ?_⟩
      · exfalso
        have := (ready1 listed listed1 hs hs1 hl i0 hi0m).2 hi0
        rw [hr2] at this; cases this
      · have him := hlow i hi
        have hi1 := (ready1 listed listed1 hs hs1 hl i him).1 hi
        have h3 := h.2 i hi1
        obtain ⟨o, ho, g1, _⟩ := (mem_ready' hs).1 hi
        have hlt : i < listed.size := by omega
        have hlt1 : i < listed1.size := by omega
        have hK : ∀ a' w', wpAny P .any ops1 (Exit.then N Q) fuel (listed1.setIfInBounds i true) a' w' → wpAny P .any ops Q (fuel + f2) (listed.setIfInBounds i true) a' w' := fun a' w' hk =>
          ih _ _ a' w' (by simpa using hs) (by simpa using hs1) (fun j => by rw [getD_set hlt, getD_set hlt1, hl]) (D.set hi) hk
        have ho1 : ops1[i]? = some o := by rw [h1 i, if_pos him]; exact ho
        have hw : Region.wanted o (yielded ops1 a.tmps) = Region.wanted o (yielded ops a.tmps) := by
          unfold Region.wanted
          cases hog : o.guard with
          | none => rfl
          | some gb =>
            obtain ⟨g, b⟩ := gb
            have := Lk.gback i o ho g b hog
            have hgm : g < m := by omega
            simp only [yielded, h1 g, hgm, if_true]
        unfold wpOp at h3 ⊢
        simp only [ho1] at h3
        simp only [ho]
        rw [hw] at h3
        split
        · rename_i hw2
          rw [if_pos hw2] at h3
          rcases h3 with h3 | ⟨h3, h4⟩
          · exact .inl (Oper.wp_mono hK (upon_then h3))
          · exact .inr ⟨h3, letsOut_then h4⟩
        · rename_i hw2
          rw [if_neg hw2] at h3
          exact hK _ _ h3

/-- What is asked of the later piece's guards. -/
def guardsOk (m : Nat) (dead : List Nat) (ops : Array Oper) (a : Act) : Nat → List Oper → Prop
  | _, [] => True
  | i, o :: l => (if i < m then True else match o.guard with | some (g, _) => if g < m then Region.wanted o (yielded ops a.tmps) = !dead.contains i else dead.contains i = false | none => dead.contains i = false) ∧ guardsOk m dead ops a (i + 1) l

theorem guardsOk_get (m : Nat) (dead : List Nat) (ops : Array Oper) (a : Act) : ∀ (l : List Oper) (i j : Nat) (o : Oper), guardsOk m dead ops a i l → l[j]? = some o → m ≤ i + j →
    match o.guard with | some (g, _) => if g < m then Region.wanted o (yielded ops a.tmps) = !dead.contains (i + j) else dead.contains (i + j) = false | none => dead.contains (i + j) = false
  | [], _, _, _, _, h, _ => by simp at h
  | x :: l, i, 0, o, hg, h, hm => by
    simp only [List.getElem?_cons_zero, Option.some.injEq] at h
    subst h
    have := hg.1
    rw [if_neg (by omega)] at this
    exact this
  | x :: l, i, j + 1, o, hg, h, hm => by
    have := guardsOk_get m dead ops a l (i + 1) j o hg.2 (by simpa using h) (by omega)
    rwa [show i + 1 + j = i + (j + 1) by omega] at this

theorem any_seg (m : Nat) (dead : List Nat) {a : Act} {w : World} {l : List Oper} (hB : segB l.toArray m = true)
    (h : Any P (l.take m) (Exit.then (fun a' w' => guardsOk m dead l.toArray a' 0 l ∧ Any P (seg2 m dead 0 l) Q a' w') Q) a w) : Any P l Q a w := by
  have Lk := segLook_of hB
  have hm : m ≤ l.length := by simpa using Lk.le
  have hrep : ∀ (n j : Nat), (Array.replicate n false).getD j false = false := fun n j => by
    by_cases h : j < n <;> simp [Array.getD, h]
  have h2 : ∀ j, (seg2 m dead 0 l).toArray[j]? = (l.toArray[j]?).map fun o => if j < m then quietOp o else laterOp m (dead.contains j) o := fun j => by
    have := seg2_get m dead l 0 j
    simpa using this
  have hz2 : (seg2 m dead 0 l).toArray.size = l.toArray.size := by simp [seg2_len]
  unfold Any
  have h3 := wpAny_seg1 (P := P) (Q := Q) (ops := l.toArray) (ops1 := (l.take m).toArray) (m := m) Lk (fun j => by
      simp only [List.getElem?_toArray, List.getElem?_take]) (by simp; omega)
    (N := fun a' w' => guardsOk m dead l.toArray a' 0 l ∧ Any P (seg2 m dead 0 l) Q a' w') (f2 := l.length - m) (fun listed a' w' hs hl ⟨hg, hn⟩ => by
      unfold Any at hn
      rw [hz2] at hn
      obtain ⟨listed', hs', hl', h5⟩ := wpAny_lead (P := P) (Q := Q) (ops := l.toArray) (ops2 := (seg2 m dead 0 l).toArray) Lk hz2 h2 m 0 (l.length - m) (Array.replicate l.toArray.size false) a' w' (by omega) (by simp) (fun j => by rw [hrep]; simp) (by
        rw [show l.length - m + m = l.toArray.size by simp; omega]; exact hn)
      have he : listed' = listed := by
        apply Array.ext (by omega)
        intro j g1 g2
        have e1 := hl' j
        have e2 := hl j
        simp [Array.getD, g1] at e1
        simp [Array.getD, g2] at e2
        rw [e1, e2]
      subst he
      refine wpAny_seg2 hz2 h2 (fun a'' => ∀ g d, g < m → dstOf l.toArray g = some d → a''.tmps[d]? = a'.tmps[d]?) ?_ ?_ _ _ _ _ hs (fun j hj => by rw [hl j]; simp [hj]) (fun _ _ _ _ => rfl) h5
      · intro a'' hG i o hi ho
        have hlo : l[i]? = some o := by simpa using ho
        have := guardsOk_get m dead l.toArray a' l 0 i o hg hlo (by omega)
        rw [Nat.zero_add] at this
        cases hog : o.guard with
        | none => rw [hog] at this; exact this
        | some gb =>
          obtain ⟨g, b⟩ := gb
          rw [hog] at this
          simp only at this ⊢
          by_cases hgm : g < m
          · rw [if_pos hgm] at this ⊢
            rw [← this]
            unfold Region.wanted
            rw [hog]
            simp only
            congr 1
            unfold yielded
            cases hd : (l.toArray[g]?).bind (·.dst) with
            | none => rfl
            | some d =>
              simp only [Option.bind_some]
              rw [hG g d hgm hd]
          · rw [if_neg hgm] at this ⊢
            exact this
      · intro a'' hG i o hi ho x ⟨v, hx⟩ g d hgm hd
        rw [hx, ← hG g d hgm hd]
        have hlt : i < l.toArray.size := (Array.getElem?_eq_some_iff.1 ho).1
        cases hod : o.dst with
        | none => rfl
        | some e =>
          have hne := Lk.apart i g d e hi hlt hgm hd (by simp [dstOf, ho, hod])
          simp only [Act.put]
          rw [Array.getElem?_setIfInBounds]
          rw [if_neg (fun h => hne h.symm)])
    (l.take m).toArray.size (Array.replicate l.toArray.size false) (Array.replicate (l.take m).toArray.size false) a w (by simp) (by simp; omega) (fun j => by rw [hrep, hrep]) ⟨by simp, fun i o _ hl => by rw [hrep] at hl; cases hl⟩ h
  rw [show (l.take m).toArray.size + (l.length - m) = l.toArray.size by simp; omega] at h3
  exact h3

/-- The guards, by reckoning. -/
def guardsB (m : Nat) (dead : List Nat) (ops : Array Oper) (tmps : Array Value) : Nat → List Oper → Bool
  | _, [] => true
  | i, o :: l => (if i < m then true else match o.guard with | some (g, _) => if g < m then Region.wanted o (yielded ops tmps) == !dead.contains i else dead.contains i == false | none => dead.contains i == false) && guardsB m dead ops tmps (i + 1) l

theorem guards_of (m : Nat) (dead : List Nat) (ops : Array Oper) (a : Act) : ∀ (l : List Oper) (i : Nat), guardsB m dead ops a.tmps i l = true → guardsOk m dead ops a i l
  | [], _, _ => trivial
  | o :: l, i, h => by
    simp only [guardsB, Bool.and_eq_true] at h
    refine ⟨?_, guards_of m dead ops a l (i + 1) h.2⟩
    have h1 := h.1
    split
    · trivial
    · rename_i hi
      rw [if_neg hi] at h1
      cases hg : o.guard with
      | none => rw [hg] at h1; simpa using h1
      | some gb =>
        obtain ⟨g, b⟩ := gb
        rw [hg] at h1
        simp only at h1 ⊢
        split
        · rename_i hgm
          rw [if_pos hgm] at h1
          simpa using h1
        · rename_i hgm
          rw [if_neg hgm] at h1
          simpa using h1

/-- The same, the second piece behind a name. -/
theorem any_seg_k (m : Nat) (dead : List Nat) {a : Act} {w : World} {l : List Oper} (hB : segB l.toArray m = true)
    (h : ∀ K : Act → World → Prop, (∀ a' w', guardsB m dead l.toArray a'.tmps 0 l = true → Any P (seg2 m dead 0 l) Q a' w' → K a' w') → Any P (l.take m) (Exit.then K Q) a w) : Any P l Q a w :=
  any_seg m dead hB (h _ fun a' _ h1 h2 => ⟨guards_of m dead l.toArray a' l 0 h1, h2⟩)

theorem region_any {id : Nat} {a : Act} {w : World} {l : List Oper} (hm : P.follows .mixedOrders = true) (h : ∀ w1, Below w.heap.size w w1 → Any P l Q a w1) : (Code.region id l.toArray true).wp P Q a w :=
  any_of_region hm (h _ ⟨rfl, rfl, rfl, Nat.le_refl _, fun _ _ => rfl⟩)

theorem any_later_tail1 (n : Nat) {a0 : Act} {w0 : World} {l : List Oper} (hB : okB l.toArray n = true)
    (h : wpQuiet P l.toArray (fun w' => ∃ p : Later, w' = later w0 p) (fun a' => ∀ w', (∃ p : Later, w' = later w0 p) → wpList P l.toArray Q (l.drop n) a' w') (l.take n) a0) :
    Any P l Q a0 { w0 with drawn := w0.drawn + 1 } :=
  any_tail n (C := fun w' => ∃ p : Later, w' = later w0 p) hB ⟨⟨w0.drawn + 1, #[]⟩, by simp [later]⟩ h

end
end Rel
end Go.Proofs.Ytlgjnidphldiiaa
