/- Trees of leaves, in plain Lean: digests, levels, their update. -/
import Derived.Test.YthkdaoomnfgooaaFronNX
import Derived.Deep.RegionHeld3
import Derived.Deep.AppendLies
namespace Go.Proofs.Ythkdaoomnfgooaa

/-- The digest of a node. -/
def dig : Nat → Nat → List Int → Int
  | 0, j, l => if j < l.length then l.getD j 0 else emp 0
  | k + 1, j, l => nd (dig k (2 * j) l) (dig k (2 * j + 1) l)
/-- How many nodes of a level contain leaves. -/
def sz : Nat → Nat → Nat
  | 0, n => n
  | k + 1, n => (sz k n + 1) / 2
def lev (k : Nat) (l : List Int) : List Int := (List.range (sz k l.length)).map fun j => dig k j l
/-- An entry, or the digest of a node without leaves. -/
def gd (L : List Int) (e : Int) (j : Nat) : Int := if j < L.length then L.getD j 0 else e

theorem lev_len (k : Nat) (l : List Int) : (lev k l).length = sz k l.length := by simp [lev]
theorem lev_get {k j : Nat} {l : List Int} (h : j < sz k l.length) : (lev k l).getD j 0 = dig k j l := by
  unfold lev
  rw [List.getD_eq_getElem?_getD, List.getElem?_map, List.getElem?_range h]
  rfl
theorem lev_zero (l : List Int) : lev 0 l = l := by
  refine List.ext_getElem (by simp [lev_len, sz]) fun j h1 h2 => ?_
  have h := lev_get (k := 0) (j := j) (l := l) h2
  rw [List.getD_eq_getElem?_getD, List.getElem?_eq_getElem h1] at h
  simp only [Option.getD_some] at h
  rw [h, dig, if_pos h2, List.getD_eq_getElem?_getD, List.getElem?_eq_getElem h2]
  rfl
theorem sz_pos {n : Nat} (h : 1 ≤ n) : ∀ k, sz k n = (n - 1) / 2 ^ k + 1
  | 0 => by simp [sz]; omega
  | k + 1 => by
    rw [sz, sz_pos h k, ← half_pow]
    omega
theorem sz_zero : ∀ k, sz k 0 = 0
  | 0 => rfl
  | k + 1 => by rw [sz, sz_zero k]
theorem dig_far : ∀ (k j : Nat) (l : List Int), l.length ≤ j * 2 ^ k → dig k j l = emp k
  | 0, j, l, h => by rw [dig, if_neg (by omega)]
  | k + 1, j, l, h => by
    have e : j * 2 ^ (k + 1) = 2 * j * 2 ^ k := by rw [Nat.pow_succ, Nat.mul_comm (2 ^ k) 2, ← Nat.mul_assoc, Nat.mul_comm j 2]
    rw [dig, dig_far k (2 * j) l (by omega), dig_far k (2 * j + 1) l (by rw [Nat.add_mul]; omega)]
    rfl
theorem sz_far {k j : Nat} {n : Nat} (h : sz k n ≤ j) : n ≤ j * 2 ^ k := by
  rcases Nat.eq_zero_or_pos n with rfl | hn
  · omega
  · rw [sz_pos hn] at h
    have h1 : (n - 1) / 2 ^ k < j := by omega
    have := (Nat.div_lt_iff_lt_mul (Nat.two_pow_pos k)).1 h1
    omega
theorem gd_lev (k j : Nat) (l : List Int) : gd (lev k l) (emp k) j = dig k j l := by
  unfold gd
  rw [lev_len]
  split
  · exact lev_get (by assumption)
  · rw [dig_far k j l (sz_far (by omega))]
theorem dig_bd : ∀ (k j : Nat) (l : List Int), AllW l → 0 ≤ dig k j l ∧ dig k j l < 18446744073709551616
  | 0, j, l, h => by
    unfold dig
    split
    · exact h.get (by assumption)
    · exact emp_bd 0
  | k + 1, _, _, _ => nd_bd _ _
theorem lev_W {l : List Int} (h : AllW l) (k : Nat) : AllW (lev k l) := fun x hx => by
  unfold lev at hx
  obtain ⟨j, _, rfl⟩ := List.mem_map.1 hx
  exact dig_bd k j l h
theorem dig_same : ∀ (k j q : Nat) (a b : List Int), (∀ i, i < q → (i < a.length ∧ i < b.length ∧ a.getD i 0 = b.getD i 0)) → (j + 1) * 2 ^ k ≤ q → dig k j a = dig k j b
  | 0, j, q, a, b, h, hj => by
    obtain ⟨h1, h2, h3⟩ := h j (by omega)
    rw [dig, dig, if_pos h1, if_pos h2, h3]
  | k + 1, j, q, a, b, h, hj => by
    have e : (j + 1) * 2 ^ (k + 1) = (2 * j + 1 + 1) * 2 ^ k := by rw [Nat.pow_succ, Nat.mul_comm (2 ^ k) 2, ← Nat.mul_assoc]; congr 1; omega
    have e3 : (2 * j + 1) * 2 ^ k ≤ (2 * j + 1 + 1) * 2 ^ k := Nat.mul_le_mul_right _ (by omega)
    rw [dig, dig, dig_same k (2 * j) q a b h (Nat.le_trans e3 (by rw [← e]; exact hj)), dig_same k (2 * j + 1) q a b h (by rw [← e]; exact hj)]

/-- What the levels above may be before an update: right but for the last entry. -/
def nearly (P : List Int) (k : Nat) (l : List Int) : Prop := (P.length = (l.length - 1) / 2 ^ k ∨ P.length = (l.length - 1) / 2 ^ k + 1) ∧ P.take ((l.length - 1) / 2 ^ k) = (lev k l).take ((l.length - 1) / 2 ^ k)
/-- The entry is set, or appended. -/
def fix (P : List Int) (p : Nat) (v : Int) : List Int := if p < P.length then P.set p v else P ++ [v]
theorem fix_lev {P : List Int} {k : Nat} {l : List Int} (hl : 1 ≤ l.length) (h : nearly P k l) : fix P ((l.length - 1) / 2 ^ k) (dig k ((l.length - 1) / 2 ^ k) l) = lev k l := by
  obtain ⟨h1, h2⟩ := h
  have hs := sz_pos hl k
  have hg := lev_get (k := k) (j := (l.length - 1) / 2 ^ k) (l := l) (by omega)
  have hL := lev_len k l
  generalize (l.length - 1) / 2 ^ k = p at *
  generalize lev k l = Q at *
  have hQ : Q = Q.take p ++ [dig k p l] := by
    rw [← hg, ← take_succ_getD Q 0 (by omega), List.take_of_length_le (by omega)]
  unfold fix
  rw [hQ]
  rcases h1 with h1 | h1
  · rw [if_neg (by omega), ← h2, List.take_of_length_le (by omega)]
  · rw [if_pos (by omega), ← h2]
    refine List.ext_getElem (by simp; omega) fun i a b => ?_
    rw [List.getElem_set]
    split
    · subst i
      rw [List.getElem_append_right (by simp; omega)]
      simp
    · have hi : i < p := by rw [List.length_set] at a; omega
      rw [List.getElem_append_left (by simp; omega), List.getElem_take]

theorem nearly_app (k : Nat) (l : List Int) (x : Int) : nearly (lev k l) k (l ++ [x]) := by
  have e : (l ++ [x]).length - 1 = l.length := by simp
  unfold nearly
  rw [e, lev_len]
  have hlx : (l ++ [x]).length = l.length + 1 := by simp
  have hs : sz k (l.length + 1) = l.length / 2 ^ k + 1 := by have := sz_pos (n := l.length + 1) (by omega) k; simpa using this
  have hlt : l.length / 2 ^ k * 2 ^ k ≤ l.length := Nat.div_mul_le_self _ _
  refine ⟨?_, ?_⟩
  · rcases Nat.eq_zero_or_pos l.length with h | h
    · rw [h, sz_zero, Nat.zero_div]; exact .inl rfl
    · rw [sz_pos h]
      have h1 : (l.length - 1) / 2 ^ k ≤ l.length / 2 ^ k := Nat.div_le_div_right (by omega)
      have h2 : l.length / 2 ^ k ≤ (l.length - 1) / 2 ^ k + 1 := by
        rw [← Nat.add_div_right _ (Nat.two_pow_pos k)]
        exact Nat.div_le_div_right (by have := Nat.two_pow_pos k; omega)
      omega
  · have hsz : l.length / 2 ^ k ≤ sz k l.length := by
      rcases Nat.lt_or_ge (sz k l.length) (l.length / 2 ^ k) with h | h
      · have h3 := sz_far (k := k) (j := l.length / 2 ^ k - 1) (n := l.length) (by omega)
        have h4 : (l.length / 2 ^ k - 1) * 2 ^ k < l.length / 2 ^ k * 2 ^ k := Nat.mul_lt_mul_of_pos_right (by omega) (Nat.two_pow_pos k)
        omega
      · exact h
    refine List.ext_getElem (by rw [List.length_take, List.length_take, lev_len, lev_len, hlx]; omega) fun i a b => ?_
    have hi : i < l.length / 2 ^ k := by rw [List.length_take] at a; omega
    rw [List.getElem_take, List.getElem_take]
    have g1 := lev_get (k := k) (j := i) (l := l) (by omega)
    have g2 := lev_get (k := k) (j := i) (l := l ++ [x]) (by rw [hlx]; omega)
    rw [List.getD_eq_getElem?_getD, List.getElem?_eq_getElem (by rw [lev_len]; omega)] at g1
    rw [List.getD_eq_getElem?_getD, List.getElem?_eq_getElem (by rw [lev_len, hlx]; omega)] at g2
    simp only [Option.getD_some] at g1 g2
    rw [g1, g2]
    refine dig_same k i l.length l (l ++ [x]) (fun j hj => ⟨hj, by rw [hlx]; omega, ?_⟩) ?_
    · simp only [List.getD_eq_getElem?_getD]
      rw [List.getElem?_append_left hj]
    · have : (i + 1) * 2 ^ k ≤ l.length / 2 ^ k * 2 ^ k := Nat.mul_le_mul_right _ (by omega)
      omega

theorem sz_le {a b : Nat} (h : a ≤ b) : ∀ k, sz k a ≤ sz k b
  | 0 => h
  | k + 1 => by have := sz_le h k; rw [sz, sz]; omega
theorem nearly_cut (k : Nat) (l : List Int) (n : Nat) (h1 : 1 ≤ n) (hn : n ≤ l.length) : nearly ((lev k l).take (sz k n)) k (l.take n) := by
  have hln : (l.take n).length = n := by rw [List.length_take]; omega
  have hs := sz_pos h1 k
  have hle := sz_le hn k
  unfold nearly
  rw [hln, List.length_take, lev_len]
  refine ⟨by omega, ?_⟩
  rw [List.take_take]
  refine List.ext_getElem (by rw [List.length_take, List.length_take, lev_len, lev_len, hln]; omega) fun i a b => ?_
  have hi : i < (n - 1) / 2 ^ k := by rw [List.length_take] at b; omega
  rw [List.getElem_take, List.getElem_take]
  have g1 := lev_get (k := k) (j := i) (l := l) (by omega)
  have g2 := lev_get (k := k) (j := i) (l := l.take n) (by rw [hln]; omega)
  rw [List.getD_eq_getElem?_getD, List.getElem?_eq_getElem (by rw [lev_len]; omega)] at g1
  rw [List.getD_eq_getElem?_getD, List.getElem?_eq_getElem (by rw [lev_len, hln]; omega)] at g2
  simp only [Option.getD_some] at g1 g2
  rw [g1, g2]
  have hlt : (n - 1) / 2 ^ k * 2 ^ k ≤ n - 1 := Nat.div_mul_le_self _ _
  refine dig_same k i (n - 1) l (l.take n) (fun j hj => ⟨by omega, by omega, ?_⟩) ?_
  · simp only [List.getD_eq_getElem?_getD]
    rw [List.getElem?_take_of_lt (by omega)]
  · have : (i + 1) * 2 ^ k ≤ (n - 1) / 2 ^ k * 2 ^ k := Nat.mul_le_mul_right _ (by omega)
    omega
theorem lev_nil (k : Nat) : lev k [] = [] := by
  apply List.eq_nil_of_length_eq_zero
  rw [lev_len]; exact sz_zero k

end Go.Proofs.Ythkdaoomnfgooaa

/- A tree of leaves in memory: what lies where, and what a change leaves as it was. -/
namespace Go.Proofs.Ythkdaoomnfgooaa
open Go.RowKit

/-- All blocks but those of S are as they were. -/
structure Keep (S : Nat → Prop) (w w' : World) : Prop where
  os : w'.os = w.os
  tape : w'.tape = w.tape
  output : w'.output = w.output
  size : w.heap.size ≤ w'.heap.size
  block : ∀ i, i < w.heap.size → ¬ S i → w'.heap[i]? = w.heap[i]?

section
variable {S T : Nat → Prop} {w w' : World}
theorem Keep.refl (S : Nat → Prop) (w : World) : Keep S w w := ⟨rfl, rfl, rfl, Nat.le_refl _, fun _ _ _ => rfl⟩
theorem Keep.of_below (h : Below w.heap.size w w') : Keep S w w' := ⟨h.os, h.tape, h.output, h.size, fun i hi _ => h.block i hi⟩
theorem Keep.trans {a b c : World} (h : Keep S a b) (k : Keep T b c) (hT : ∀ i, T i → S i ∨ a.heap.size ≤ i) : Keep S a c :=
  ⟨k.os.trans h.os, k.tape.trans h.tape, k.output.trans h.output, Nat.le_trans h.size k.size, fun i hi hn =>
    (k.block i (Nat.lt_of_lt_of_le hi h.size) fun ht => by rcases hT i ht with h1 | h1; exact hn h1; omega).trans (h.block i hi hn)⟩
theorem Keep.blk {b : Nat} {cs : Array Value} {E : TypeId} (h : Keep S w w') (g : Blk w b cs E) (hn : ¬ S b) : Blk w' b cs E := by
  have := h.block b g.lt hn
  unfold Blk at *
  rw [this]; exact g
theorem Keep.own {base : Nat} {E : TypeId} {k : IntKind} {v : Value} {xs : List Int} (h : Keep S w w') (o : Own w base E k v xs) (hn : ∀ g, v.ownBlock = some g → ¬ S g) : Own w' base E k v xs := by
  rcases o.form with ⟨rfl, rfl⟩ | ⟨g, cap, cur, rfl, h1, h2, h3, h4, h5, h6⟩
  · exact Own.nil _ _ _ _
  · exact Own.of_blk h1 (h.blk h2 (hn g rfl)) h3 h4 h5 h6
theorem Keep.below {B : Nat} {a : World} (h : Keep S w w') (hB : Below B a w) (hS : ∀ i, S i → B ≤ i) (hz : B ≤ w.heap.size) : Below B a w' :=
  hB.trans ⟨h.os, h.tape, h.output, h.size, fun i hi => h.block i (by omega) fun hs => by have := hS i hs; omega⟩
theorem Keep.set {b j : Nat} (hb : S b) (u : Value) : Keep S w (w.setCell ⟨b, j, none⟩ u) :=
  ⟨rfl, rfl, rfl, by simp [World.setCell], fun i _ hn => Below.heap_setCell _ _ _ _ (fun e => hn (by subst e; exact hb))⟩
theorem Keep.grew {v v' : Value} (h : Grew w w' v v') (hS : ∀ g, v.ownBlock = some g → S g) : Keep S w w' :=
  ⟨h.by_.os, h.by_.tape, h.by_.output, h.by_.size, fun i hi hn => h.by_.block i hi fun e => hn (hS i e.symm)⟩
theorem Grew.cell {v v' u : Value} {a : Addr} (h : Grew w w' v v') (hc : w.cell? a = some u) (hn : v.ownBlock ≠ some a.block) : w'.cell? a = some u := by
  rw [h.by_.cell_far a (cell_lt hc) (fun e => hn e.symm)]; exact hc
end

def upd {α : Type} (f : Nat → α) (k : Nat) (x : α) : Nat → α := fun j => if j = k then x else f j
theorem upd_same {α : Type} (f : Nat → α) (k : Nat) (x : α) : upd f k x k = x := if_pos rfl
theorem upd_other {α : Type} (f : Nat → α) {k j : Nat} (x : α) (h : j ≠ k) : upd f k x j = f j := if_neg h

/-- A tree: its struct in block bL, the slices of its levels in block bV, each level a slice of the call's own. -/
structure LogS (w : World) (base bL bV d : Nat) (vs : Nat → Value) (Ls : Nat → List Int) : Prop where
  kL : Blk w bL #[.int .i64 d, .slice (some ⟨bV, 0, none⟩) (d + 1) (d + 1)] 90
  kV : Blk w bV ((List.range (d + 1)).map vs).toArray 22
  own : ∀ k, k ≤ d → Own w base 30 .u64 (vs k) (Ls k)
  ne : ∀ j k, j ≤ d → k ≤ d → j ≠ k → ∀ g, (vs j).ownBlock = some g → (vs k).ownBlock ≠ some g
  bL : base ≤ bL
  bV : base ≤ bV
def inLog (bV d : Nat) (vs : Nat → Value) (i : Nat) : Prop := i = bV ∨ ∃ k, k ≤ d ∧ (vs k).ownBlock = some i

section
variable {w w' : World} {base bL bV d : Nat} {vs : Nat → Value} {Ls : Nat → List Int}
theorem LogS.mono (h : LogS w base bL bV d vs Ls) (hb : Below w.heap.size w w') : LogS w' base bL bV d vs Ls :=
  ⟨h.kL.mono hb, h.kV.mono hb, fun k hk => (h.own k hk).mono hb, h.ne, h.bL, h.bV⟩
theorem LogS.alloc (h : LogS w base bL bV d vs Ls) (o : Obj) : LogS (w.alloc o) base bL bV d vs Ls := h.mono ((Below.refl _ _).alloc (Nat.le_refl _) o)
theorem LogS.congr {Ls' : Nat → List Int} (h : LogS w base bL bV d vs Ls) (he : ∀ k, k ≤ d → Ls k = Ls' k) : LogS w base bL bV d vs Ls' :=
  ⟨h.kL, h.kV, fun k hk => he k hk ▸ h.own k hk, h.ne, h.bL, h.bV⟩
theorem LogS.c0 (h : LogS w base bL bV d vs Ls) : w.cell? ⟨bL, 0, none⟩ = some (.int .i64 d) := h.kL.cell rfl
theorem LogS.c1 (h : LogS w base bL bV d vs Ls) : w.cell? ⟨bL, 1, none⟩ = some (.slice (some ⟨bV, 0, none⟩) (d + 1) (d + 1)) := h.kL.cell rfl
theorem LogS.cv (h : LogS w base bL bV d vs Ls) {k : Nat} (hk : k ≤ d) : w.cell? ⟨bV, k, none⟩ = some (vs k) := by
  refine h.kV.cell ?_
  simp [List.getElem?_range (show k < d + 1 by omega)]
theorem LogS.low (h : LogS w base bL bV d vs Ls) : ∀ i, inLog bV d vs i → base ≤ i := fun i hi => by
  rcases hi with rfl | ⟨k, hk, e⟩
  · exact h.bV
  · exact ((h.own k hk).lt e).1
theorem LogS.neV (h : LogS w base bL bV d vs Ls) {k g : Nat} (hk : k ≤ d) (e : (vs k).ownBlock = some g) : g ≠ bV := (h.own k hk).ne_blk e h.kV (by decide)
theorem LogS.neL (h : LogS w base bL bV d vs Ls) {k g : Nat} (hk : k ≤ d) (e : (vs k).ownBlock = some g) : g ≠ bL := (h.own k hk).ne_blk e h.kL (by decide)
theorem LogS.neLV (h : LogS w base bL bV d vs Ls) : bV ≠ bL := fun e => by
  have h1 := h.kL
  have h2 := h.kV
  rw [e] at h2
  have := h1.symm.trans h2
  injection this with this
  injection this with _ this
  exact absurd this (by decide)
theorem LogS.notL (h : LogS w base bL bV d vs Ls) : ¬ inLog bV d vs bL := fun hi => by
  rcases hi with hi | ⟨k, hk, e⟩
  · exact h.neLV hi.symm
  · exact h.neL hk e rfl

theorem range_set (d k : Nat) (vs : Nat → Value) (v : Value) : ((List.range (d + 1)).map vs).toArray.setIfInBounds k v = ((List.range (d + 1)).map (upd vs k v)).toArray := by
  apply Array.ext_getElem?
  intro i
  rw [Array.getElem?_setIfInBounds]
  simp only [List.getElem?_toArray, List.getElem?_map]
  by_cases hi : i < d + 1
  · rw [List.getElem?_range hi]
    by_cases e : k = i
    · subst e; simp [upd, hi]
    · rw [if_neg e]; simp [upd, Ne.symm e]
  · rw [List.getElem?_eq_none (by simp; omega)]
    by_cases e : k = i
    · subst e; simp [hi]
    · rw [if_neg e]; simp

/-- Another slice for a level. -/
theorem LogS.store (h : LogS w base bL bV d vs Ls) {k : Nat} (hk : k ≤ d) {v : Value} {xs : List Int} (o : Own w base 30 .u64 v xs) (hne : ∀ j, j ≤ d → j ≠ k → ∀ g, (vs j).ownBlock = some g → v.ownBlock ≠ some g) :
    LogS (w.setCell ⟨bV, k, none⟩ v) base bL bV d (upd vs k v) (upd Ls k xs) := by
  refine ⟨h.kL.other h.neLV _ _, ?_, fun j hj => ?_, fun i j hi hj hij g e => ?_, h.bL, h.bV⟩
  · rw [← range_set]; exact h.kV.set k v
  · by_cases e : j = k
    · subst e
      rw [upd_same, upd_same]
      exact o.other (fun e => o.ne_blk e h.kV (by decide) rfl) _
    · rw [upd_other _ _ e, upd_other _ _ e]
      exact (h.own j hj).other (fun e => h.neV hj e rfl) _
  · by_cases e1 : i = k
    · subst e1
      rw [upd_same] at e
      rw [upd_other _ _ (Ne.symm hij)]
      exact fun e2 => hne j hj (Ne.symm hij) g e2 e
    · rw [upd_other _ _ e1] at e
      by_cases e2 : j = k
      · subst e2
        rw [upd_same]
        exact hne i hi e1 g e
      · rw [upd_other _ _ e2]
        exact h.ne i j hi hj hij g e
/-- An entry of a level is changed. -/
theorem LogS.put (h : LogS w base bL bV d vs Ls) {k g n c : Nat} (hk : k ≤ d) (hv : vs k = .slice (some ⟨g, 0, none⟩) n c) (p : Nat) (y : Int) :
    LogS (w.setCell ⟨g, p, none⟩ (.int .u64 y)) base bL bV d vs (upd Ls k ((Ls k).set p y)) := by
  have hg : (vs k).ownBlock = some g := by rw [hv]; rfl
  refine ⟨h.kL.other (h.neL hk hg) _ _, h.kV.other (h.neV hk hg) _ _, fun j hj => ?_, h.ne, h.bL, h.bV⟩
  by_cases e : j = k
  · subst e
    rw [upd_same]
    have := h.own j hj
    rw [hv] at this ⊢
    exact this.set p y
  · rw [upd_other _ _ e]
    exact (h.own j hj).other (fun e2 => h.ne j k hj hk e g e2 hg) _
/-- A level behind an append. -/
theorem LogS.app (h : LogS w base bL bV d vs Ls) {k : Nat} (hk : k ≤ d) {v : Value} {xs : List Int} (hg : Grew w w' (vs k) v) (o : Own w' base 30 .u64 v xs) :
    LogS (w'.setCell ⟨bV, k, none⟩ v) base bL bV d (upd vs k v) (upd Ls k xs) := by
  have hne : ∀ j, j ≤ d → j ≠ k → ∀ g, (vs j).ownBlock = some g → v.ownBlock ≠ some g := fun j hj hjk g e => hg.ne g ((h.own j hj).lt e).2 (h.ne j k hj hk hjk g e)
  have kV := hg.blk h.kV (fun e => h.neV hk e rfl)
  have kL := hg.blk h.kL (fun e => h.neL hk e rfl)
  have own : ∀ j, j ≤ d → j ≠ k → Own w' base 30 .u64 (vs j) (Ls j) := fun j hj hjk => hg.own (h.own j hj) (by
    rcases (h.own j hj).form with ⟨e, _⟩ | ⟨g, _, _, e, _⟩
    · exact .inl e
    · refine .inr fun e2 => ?_
      have e3 : (vs j).ownBlock = some g := by rw [e]; rfl
      exact h.ne j k hj hk hjk g e3 (by rw [e2, e3]))
  refine ⟨kL.other h.neLV _ _, ?_, fun j hj => ?_, fun i j hi hj hij g e => ?_, h.bL, h.bV⟩
  · rw [← range_set]; exact kV.set k v
  · by_cases e : j = k
    · subst e
      rw [upd_same, upd_same]
      exact o.other (fun e => o.ne_blk e kV (by decide) rfl) _
    · rw [upd_other _ _ e, upd_other _ _ e]
      exact (own j hj e).other (fun e2 => h.neV hj e2 rfl) _
  · by_cases e1 : i = k
    · subst e1
      rw [upd_same] at e
      rw [upd_other _ _ (Ne.symm hij)]
      exact fun e2 => hne j hj (Ne.symm hij) g e2 e
    · rw [upd_other _ _ e1] at e
      by_cases e2 : j = k
      · subst e2
        rw [upd_same]
        exact hne i hi e1 g e
      · rw [upd_other _ _ e2]
        exact h.ne i j hi hj hij g e
theorem LogS.keepApp {k : Nat} (hk : k ≤ d) {v : Value} (hg : Grew w w' (vs k) v) : Keep (inLog bV d vs) w (w'.setCell ⟨bV, k, none⟩ v) :=
  (Keep.grew hg fun _ e => .inr ⟨k, hk, e⟩).trans (T := fun i => i = bV) (Keep.set (S := fun i => i = bV) rfl v) fun _ e => .inl (.inl e)
theorem inLog_upd {k : Nat} {v : Value} {i : Nat} (hi : inLog bV d (upd vs k v) i) : inLog bV d vs i ∨ v.ownBlock = some i := by
  rcases hi with rfl | ⟨j, hj, e⟩
  · exact .inl (.inl rfl)
  · by_cases ej : j = k
    · subst ej; rw [upd_same] at e; exact .inr e
    · rw [upd_other _ _ ej] at e; exact .inl (.inr ⟨j, hj, e⟩)
theorem LogS.inApp {k : Nat} (hk : k ≤ d) {v : Value} (hg : Grew w w' (vs k) v) : ∀ i, inLog bV d (upd vs k v) i → inLog bV d vs i ∨ w.heap.size ≤ i := fun i hi => by
  rcases inLog_upd hi with h1 | h1
  · exact .inl h1
  · rcases Nat.lt_or_ge i w.heap.size with h2 | h2
    · refine .inl (.inr ⟨k, hk, ?_⟩)
      rcases Decidable.em ((vs k).ownBlock = some i) with h3 | h3
      · exact h3
      · exact absurd h1 (hg.ne i h2 h3)
    · exact .inr h2

/-- What a change of the tree leaves: the tree with other levels. -/
def LogR (w w' : World) (base bL bV d : Nat) (vs : Nat → Value) (Ls : Nat → List Int) : Prop :=
  ∃ vs', LogS w' base bL bV d vs' Ls ∧ (∀ i, inLog bV d vs' i → inLog bV d vs i ∨ w.heap.size ≤ i) ∧ Keep (inLog bV d vs) w w'
end

/-- append of one element, at a step of a region that draws. -/
theorem step_app1 {P : Program} {w : World} {ops : Array Oper} {o : Oper} {a : Act} {K : Act → World → Prop} {Q : Exit → Act → World → Prop} {E : Prop} (B : TypeId) (k : IntKind) (y : Int) (hgd : o.guard = none) (s x : Operand) (t : TypeId)
    (ho : o.op = .call { callee := .builtin .append, args := #[s, x], argTypes := #[t, t] })
    (base : Nat) (bytes : Nat) (ht : P.underlying t = some (.slice B)) (hinfo : (P.info? B).map (fun i => (i.zero, i.size, i.bytes)) = some (some (.int k 0), 1, bytes)) (h8 : bytes ≤ 8)
    (v : Value) (xs : List Int) (hs : a.eval s = v) (hown : Own w base B k v xs) (z : Nat) (hx : a.eval x = .slice (some ⟨z, 0, none⟩) 1 1) (hc : w.cell? ⟨z, 0, none⟩ = some (.int k y)) (hlen : xs.length < 1099511627775) (hbase : base ≤ w.heap.size)
    (h : ∀ v' w', Own w' base B k v' (xs ++ [y]) → Grew w w' v v' → K (a.put o.dst v') w') :
    if Region.wanted o (yielded ops a.tmps) = true then Oper.wp P o a w K Q else E := by
  obtain ⟨i, hi, hz, hsz, hby⟩ := info_parts hinfo
  refine step_append_lies w hgd s x t ho base B i (.int k 0) 1 bytes ht hi hz hsz hby rfl (by omega) v xs.length _ hs hown ⟨z, 0, none⟩ 1 1 [.int k y] hx rfl (fun j u hu => ?_) (fun u hu => ?_) (by omega) (by simp only [maxLen]; omega) ?_ hbase _ rfl fun g cap w' h1 h2 h3 _ => ?_
  · match j, hu with
    | 0, hu =>
      cases hu
      have e : (⟨z, 0, none⟩ : Addr).add 0 = ⟨z, 0, none⟩ := by simp [Addr.add]
      rw [e]; exact hc
  · simp only [List.mem_singleton] at hu
    subst hu; rfl
  · have : (xs.length + 1) * bytes ≤ (xs.length + 1) * 8 := Nat.mul_le_mul_left _ h8
    omega
  · refine h _ _ ?_ (.of h2 ?_)
    · unfold Own
      rw [List.length_append, List.map_append]
      exact h1
    · rcases h3 with h3 | h3
      · exact .inl h3.symm
      · exact .inr (by rw [h3]; rfl)

end Go.Proofs.Ythkdaoomnfgooaa

/- A tree of leaves: digest, Count, Root, Leaf. -/
namespace Go.Proofs.Ythkdaoomnfgooaa
open Go.RowKit

set_option maxRecDepth 10000 in
set_option maxHeartbeats 2000000 in
theorem digest_any (w : World) (base bL bV d : Nat) (vs : Nat → Value) (Ls : Nat → List Int) (k j : Nat) (h : LogS w base bL bV d vs Ls) (hd : d ≤ 12) (hk : k ≤ d) :
    Calls Try.prog 65 #[.pointer (some ⟨bL, 0, none⟩), .int .i64 k, .int .i64 j] w fun e w' => e = .returned (.int .u64 (gd (Ls k) (emp k) j)) ∧ Below w.heap.size w w' := by
  have c1 := h.c1
  have cv := h.cv hk
  have ho := h.own k hk
  obtain ⟨a, c, hv, hs, _, _⟩ := Own.sl ho
  rw [hv] at cv
  have hk1 : k < d + 1 := by omega
  have hk2 : (k : Int) < (d : Int) + 1 := by omega
  obtain ⟨R, hR⟩ : ∃ R, R = gd (Ls k) (emp k) j := ⟨_, rfl⟩
  rw [← hR]
  unfold gd at hR
  by_cases hlt : j < (Ls k).length
  · rw [if_pos hlt] at hR
    obtain ⟨b, off, rfl, _, hc⟩ := hs.get hlt
    rw [← hR] at hc
    have hlt' : (j : Int) < (Ls k).length := by omega
    clear hv ho h hR
    generalize Ls k = L at *
    go_enter Try.func65, Try.ntmps65
    go_wp2
    go_ret
    exact ⟨rfl, Below.refl _ _⟩
  · rw [if_neg hlt] at hR
    have hlt' : ((Ls k).length : Int) ≤ j := by omega
    have cE := fun W : World => Empty_any k W
    have e1 : empI k = R := by unfold empI; rw [if_pos (by omega), Int.toNat_natCast, hR]
    rw [e1] at cE
    clear hv ho h hR e1 hs
    generalize Ls k = L at *
    go_enter Try.func65, Try.ntmps65
    go_wp2_with fail
    refine (cE w).mono ?_
    rintro e w2 ⟨rfl, hb⟩
    clear cE
    go_wp2
    go_ret
    exact ⟨rfl, hb⟩

set_option maxHeartbeats 1000000 in
theorem Count_any (w : World) (base bL bV d : Nat) (vs : Nat → Value) (Ls : Nat → List Int) (h : LogS w base bL bV d vs Ls) (hd : 1 ≤ d) :
    Calls Try.prog 49 #[.pointer (some ⟨bL, 0, none⟩)] w fun e w' => e = .returned (.int .i64 (Ls 0).length) ∧ Below w.heap.size w w' := by
  have c0 := h.c0
  have c1 := h.c1
  have cv := h.cv (Nat.zero_le d)
  obtain ⟨a, c, hv, hs, _, _⟩ := Own.sl (h.own 0 (Nat.zero_le d))
  rw [hv] at cv
  have hd' : (1 : Int) ≤ d := by omega
  clear hv h hs
  go_enter Try.func49, Try.ntmps49
  go_wp2
  go_ret
  exact ⟨rfl, Below.refl _ _⟩

set_option maxHeartbeats 1000000 in
theorem TRoot_any (w : World) (base bL bV d : Nat) (vs : Nat → Value) (l : List Int) (h : LogS w base bL bV d vs fun k => lev k l) (hd : 1 ≤ d) (hd2 : d ≤ 12) :
    Calls Try.prog 48 #[.pointer (some ⟨bL, 0, none⟩)] w fun e w' => e = .returned (.int .u64 (dig d 0 l)) ∧ Below w.heap.size w w' := by
  have c0 := h.c0
  have cD := fun (W : World) (h : LogS W base bL bV d vs fun k => lev k l) => digest_any W base bL bV d vs _ d 0 h hd2 (Nat.le_refl d)
  simp only [gd_lev] at cD
  have hd' : (1 : Int) ≤ d := by omega
  go_enter Try.func48, Try.ntmps48
  go_wp2_with fail
  refine (cD w h).mono ?_
  rintro e w2 ⟨rfl, hb⟩
  clear cD
  go_wp2
  go_ret
  exact ⟨rfl, hb⟩

def leafOk (l : List Int) (p : Int) : Bool := decide (0 ≤ p ∧ p < l.length)
def leafV (l : List Int) (p : Int) : Int := if leafOk l p then l.getD p.toNat 0 else 0
set_option maxRecDepth 10000 in
set_option maxHeartbeats 2000000 in
theorem Leaf_any (w : World) (base bL bV d : Nat) (vs : Nat → Value) (l : List Int) (p : Int) (h : LogS w base bL bV d vs fun k => lev k l) (hd : 1 ≤ d) :
    Calls Try.prog 52 #[.pointer (some ⟨bL, 0, none⟩), .int .i64 p] w fun e w' => e = .returned (.tuple #[.int .u64 (leafV l p), .bool (leafOk l p)]) ∧ Below w.heap.size w w' := by
  have cC := fun (W : World) (h : LogS W base bL bV d vs fun k => lev k l) => Count_any W base bL bV d vs _ h hd
  simp only [lev_zero] at cC
  by_cases h0 : p < 0
  · have e : leafOk l p = false := by unfold leafOk; rw [decide_eq_false]; omega
    unfold leafV
    rw [e]
    clear cC e h
    go_enter Try.func52, Try.ntmps52
    go_wp2
    exact bodyPost_ret (v := .tuple #[.int .u64 0, .bool false]) (by simp [results, Try.results52, go_sem]) rfl ⟨rfl, Below.refl _ _⟩
  by_cases h1 : (l.length : Int) ≤ p
  · have e : leafOk l p = false := by unfold leafOk; rw [decide_eq_false]; omega
    have h0' : 0 ≤ p := by omega
    unfold leafV
    rw [e]
    clear e
    go_enter Try.func52, Try.ntmps52
    go_wp2_with fail
    refine (cC w h).mono ?_
    rintro e w2 ⟨rfl, hb⟩
    clear cC h
    go_wp2
    exact bodyPost_ret (v := .tuple #[.int .u64 0, .bool false]) (by simp [results, Try.results52, go_sem]) rfl ⟨rfl, hb⟩
  · obtain ⟨q, rfl⟩ := Int.eq_ofNat_of_zero_le (show 0 ≤ p by omega)
    have hq : q < l.length := by omega
    have e : leafOk l q = true := by unfold leafOk; rw [decide_eq_true]; omega
    have e2 : leafV l q = l.getD q 0 := by unfold leafV; rw [e, if_pos rfl, Int.toNat_natCast]
    rw [e, e2]
    have hq' : (q : Int) < l.length := by omega
    obtain ⟨x, hx⟩ : ∃ x, x = l.getD q 0 := ⟨_, rfl⟩
    rw [← hx]
    replace hx := hide hx
    clear e e2 h0 h1
    go_enter Try.func52, Try.ntmps52
    go_wp2_with fail
    refine (cC w h).mono ?_
    rintro e w2 ⟨rfl, hb⟩
    replace h := h.mono hb
    have c1 := h.c1
    have cv := h.cv (Nat.zero_le d)
    have ho := h.own 0 (Nat.zero_le d)
    simp only [lev_zero] at ho
    obtain ⟨a, c, hv, hs, _, _⟩ := Own.sl ho
    rw [hv] at cv
    obtain ⟨b, off, rfl, _, hc⟩ := hs.get hq
    rw [← hx.out] at hc
    clear cC h hv ho
    go_wp2
    exact bodyPost_ret (v := .tuple #[.int .u64 x, .bool true]) (by simp [results, Try.results52, go_sem]) rfl ⟨rfl, hb⟩

end Go.Proofs.Ythkdaoomnfgooaa

/- A tree of leaves: the path of a leaf. -/
namespace Go.Proofs.Ythkdaoomnfgooaa
open Go.RowKit

/-- The number of the other child. -/
def sib (m : Nat) : Nat := if m % 2 = 1 then m - 1 else m + 1
theorem nat_xor1 (q : Nat) : q ^^^ 1 = sib q := by
  have h1 : (q ^^^ 1) % 2 = (q + 1) % 2 := by
    have := Nat.testBit_xor q 1 0
    simp only [Nat.testBit_zero] at this
    rcases Nat.mod_two_eq_zero_or_one q with h | h <;> rcases Nat.mod_two_eq_zero_or_one (q ^^^ 1) with h2 | h2 <;> simp [h, h2] at this <;> omega
  have h2 : (q ^^^ 1) / 2 = q / 2 := by rw [Nat.xor_div_two]; simp
  unfold sib
  split <;> omega
theorem bit_xor1 (q : Nat) (hq : q < 9223372036854775807) : bits .xor .i64 (q : Int) 1 = ((sib q : Nat) : Int) := by
  have h1 : bits .xor .i64 (q : Int) ((1 : Nat) : Int) = ((q ^^^ 1 : Nat) : Int) := by
    show IntKind.i64.wrap ((BitVec.ofInt 64 (q : Int) ^^^ BitVec.ofInt 64 ((1 : Nat) : Int)).toNat : Int) = _
    rw [BitVec.toNat_xor, ofInt_i64 q (by omega), ofInt_i64 1 (by decide), IntKind.wrap_i64, nat_xor1]
    unfold sib
    split <;> omega
  rw [nat_xor1] at h1
  exact h1
/-- The path of a place. -/
def tpath (d : Nat) (l : List Int) (q : Nat) : List Int := (List.range d).map fun k => dig k (sib (q / 2 ^ k)) l
def tpathI (d : Nat) (l : List Int) (q k : Nat) : List Int := ((List.range k).map fun k => dig k (sib (q / 2 ^ k)) l) ++ List.replicate (d - k) 0
theorem tpath_len (d : Nat) (l : List Int) (q : Nat) : (tpath d l q).length = d := by simp [tpath]
theorem tpathI_len {d : Nat} {l : List Int} {q k : Nat} (h : k ≤ d) : (tpathI d l q k).length = d := by simp [tpathI]; omega
theorem tpathI_zero (d : Nat) (l : List Int) (q : Nat) : tpathI d l q 0 = List.replicate d 0 := by simp [tpathI]
theorem tpathI_all (d : Nat) (l : List Int) (q : Nat) : tpathI d l q d = tpath d l q := by simp [tpathI, tpath]
theorem tpathI_step {d : Nat} {l : List Int} {q k : Nat} (h : k < d) : (tpathI d l q k).set k (dig k (sib (q / 2 ^ k)) l) = tpathI d l q (k + 1) := by
  unfold tpathI
  have hl : ((List.range k).map fun k => dig k (sib (q / 2 ^ k)) l).length = k := by simp
  rw [List.set_append_right _ _ (by omega), hl, Nat.sub_self, show d - k = (d - (k + 1)) + 1 by omega, List.replicate_succ, List.set_cons_zero, List.range_succ]
  simp
theorem tpath_W {d : Nat} {l : List Int} {q : Nat} (h : AllW l) : AllW (tpath d l q) := fun x hx => by
  unfold tpath at hx
  obtain ⟨k, _, rfl⟩ := List.mem_map.1 hx
  exact dig_bd _ _ _ h

/-- What Path returns. -/
def RetP (w : World) (l : List Int) (n : Int) (e : Ending) (w' : World) : Prop := ∃ v, e = .returned (.tuple #[v, .int .i64 n]) ∧ Own w' w.heap.size 30 .u64 v l ∧ Below w.heap.size w w'
def tpathV (d : Nat) (l : List Int) (p : Int) : List Int := if leafOk l p then tpath d l p.toNat else []
def tpathE (l : List Int) (p : Int) : Int := if leafOk l p then 0 else 8
set_option maxRecDepth 10000 in
set_option maxHeartbeats 4000000 in
theorem TPath_any (w : World) (base bL bV d : Nat) (vs : Nat → Value) (l : List Int) (p : Int) (h : LogS w base bL bV d vs fun k => lev k l) (hd : 1 ≤ d) (hd2 : d ≤ 12) (hl : l.length ≤ 4096) :
    Calls Try.prog 46 #[.pointer (some ⟨bL, 0, none⟩), .int .i64 p] w (RetP w (tpathV d l p) (tpathE l p)) := by
  have cC := fun (W : World) (h : LogS W base bL bV d vs fun k => lev k l) => Count_any W base bL bV d vs _ h hd
  simp only [lev_zero] at cC
  by_cases h0 : p < 0
  · have e : leafOk l p = false := by unfold leafOk; rw [decide_eq_false]; omega
    unfold tpathV tpathE
    rw [e]
    clear cC e h
    go_enter Try.func46, Try.ntmps46
    go_wp2
    exact bodyPost_ret (v := .tuple #[.slice none 0 0, .int .i64 8]) (by simp [results, Try.results46, go_sem]) rfl ⟨_, rfl, Own.nil _ _ _ _, Below.refl _ _⟩
  by_cases h1 : (l.length : Int) ≤ p
  · have e : leafOk l p = false := by unfold leafOk; rw [decide_eq_false]; omega
    have h0' : 0 ≤ p := by omega
    unfold tpathV tpathE
    rw [e]
    clear e
    go_enter Try.func46, Try.ntmps46
    go_wp2_with fail
    refine (cC w h).mono ?_
    rintro e w2 ⟨rfl, hb⟩
    clear cC h
    go_wp2
    exact bodyPost_ret (v := .tuple #[.slice none 0 0, .int .i64 8]) (by simp [results, Try.results46, go_sem]) rfl ⟨_, rfl, Own.nil _ _ _ _, hb⟩
  · obtain ⟨q, rfl⟩ := Int.eq_ofNat_of_zero_le (show 0 ≤ p by omega)
    have hq : q < l.length := by omega
    have hq4 : q < 4096 := by omega
    have hq1 : ¬ l.length ≤ q := by omega
    have e : leafOk l q = true := by unfold leafOk; rw [decide_eq_true]; omega
    unfold tpathV tpathE
    rw [e, if_pos rfl, if_pos rfl, Int.toNat_natCast]
    have hq' : (q : Int) < l.length := by omega
    have cD := fun (k j : Nat) (hk : k ≤ d) (W : World) (h : LogS W base bL bV d vs fun k => lev k l) => digest_any W base bL bV d vs _ k j h hd2 hk
    simp only [gd_lev] at cD
    have hmk := run_mk (P := Try.prog) Try.underlying22 Try.infoU64 (by decide) d d (Nat.le_refl d) (by omega)
    obtain ⟨R, hR⟩ : ∃ R, R = tpath d l q := ⟨_, rfl⟩
    rw [← hR]
    replace hR := hide hR
    clear e h0 h1 hl
    go_enter Try.func46, Try.ntmps46
    go_wp2_with fail
    refine (cC w h).mono ?_
    rintro e w2 ⟨rfl, hb⟩
    replace h := h.mono hb
    have c0 := h.c0
    clear cC
    go_wp2_with fail
    have hB := hb.alloc hb.size (.cells (madeCells #[.int .u64 0] d) 30)
    have ho := Own.made (w := w2) (E := 30) (k := .u64) (cap := d) 0 hb.size (show d ≤ maxLen by simp only [maxLen]; omega)
    have h' := h.alloc (.cells (madeCells #[.int .u64 0] d) 30)
    have hne : ∀ i, inLog bV d vs i → w2.heap.size ≠ i := fun i hi e => by
      rcases hi with rfl | ⟨k, hk, e2⟩
      · have := h.kV.lt; omega
      · have := ((h.own k hk).lt e2).2; omega
    rw [← tpathI_zero d l q] at ho
    clear h hb c0 hmk
    generalize w2.alloc (.cells (madeCells #[.int .u64 0] d) 30) = w3 at *
    generalize w2.heap.size = g at *
    go_loopw [23] (fun t23 wr => ∃ k : Nat, k ≤ d ∧ t23 = .int .i64 k ∧ Below w.heap.size w wr ∧ (LogS wr base bL bV d vs fun k => lev k l) ∧ Own wr w.heap.size 30 .u64 (.slice (some ⟨g, 0, none⟩) d d) (tpathI d l q k)) (fun t23 _ => d - (intOf t23).toNat)
    case atStart => exact ⟨0, by omega, rfl, hB, h', ho⟩
    case round =>
      clear hB ho h'
      obtain ⟨k, hk, rfl, hB, h, ho⟩ := hrel
      by_cases hlt : k < d
      · have hlt' : (k : Int) < d := by omega
        have hxr := bit_xor1 (q / 2 ^ k) (by have := Nat.div_le_self q (2 ^ k); omega)
        have hdv : (q : Int) / 2 ^ k = ((q / 2 ^ k : Nat) : Int) := by
          have e : ((2 : Int) ^ k) = ((2 ^ k : Nat) : Int) := (Int.natCast_pow 2 k).symm
          rw [e, ← Int.natCast_ediv]
        have hst := tpathI_step (l := l) (q := q) hlt
        have cD2 := cD k (sib (q / 2 ^ k)) (by omega)
        obtain ⟨m, hm⟩ : ∃ m, m = q / 2 ^ k := ⟨_, rfl⟩
        rw [← hm] at hxr hdv hst cD2
        generalize sib m = s at *
        generalize dig k s l = x at *
        replace hst := hide hst
        clear cD hm
        go_wp2_with fail
        refine (cD2 wr h).mono ?_
        rintro e w4 ⟨rfl, hb4⟩
        replace h := h.mono hb4
        replace ho := ho.mono hb4
        replace hB := below2 hB hb4
        have hfr := ho.free k
        have hc := ho.cell hlt
        have HO := ho.set k x
        rw [hst.out] at HO
        have HB : Below w.heap.size w (w4.setCell ⟨g, k, none⟩ (.int .u64 x)) := hB.setCell (p := ⟨g, k, none⟩) (show w.heap.size ≤ g from (ho.lt rfl).1) _
        have HL : LogS (w4.setCell ⟨g, k, none⟩ (.int .u64 x)) base bL bV d vs fun k => lev k l := by
          have hk := Keep.set (S := fun i => i = g) (w := w4) (b := g) (j := k) rfl (.int .u64 x)
          exact ⟨hk.blk h.kL (fun e => ho.ne_blk rfl h.kL (by decide) e.symm), hk.blk h.kV (fun e => hne bV (.inl rfl) e.symm), fun j hj => hk.own (h.own j hj) fun i e1 e2 => hne i (.inr ⟨j, hj, e1⟩) e2.symm, h.ne, h.bL, h.bV⟩
        clear cD2 hb4 h hB ho
        go_wp2
        go_roundw
        case rel => exact ⟨k + 1, by omega, by go_num, HB, HL, HO⟩
        case measure => simp [intOf]; omega
      · have e : d = k := by omega
        rw [← e, tpathI_all, ← hR.out] at ho
        subst e
        clear h cD
        go_wp2
        exact bodyPost_ret (v := .tuple #[.slice (some ⟨g, 0, none⟩) d d, .int .i64 0]) (by simp [results, Try.results46, go_sem]) rfl ⟨_, rfl, ho, hB⟩

end Go.Proofs.Ythkdaoomnfgooaa
